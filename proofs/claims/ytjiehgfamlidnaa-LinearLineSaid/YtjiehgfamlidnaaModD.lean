/- The model package: a record is added. By an AI agent. -/
import Derived.Test.YtjiehgfamlidnaaModC
namespace Go.Proofs.Ytjiehgfamlidnaa
open Go.ChangeShapes Go.WideShapes Go.ChangeAt Go.RowKit
set_option linter.unusedVariables false
namespace Md

theorem info_u8 : (Try.prog.info? 5).map (fun i => (i.zero, i.size, i.bytes)) = some (some (.int .u8 0), 1, 1) := by kernel_rfl
theorem info_sl : (Try.prog.info? 30).map (fun i => (i.zero, i.size, i.bytes)) = some (some (.slice none 0 0), 1, 24) := by kernel_rfl

def addS (s : S) (lsn : Int) (n : Nat) : Option S :=
  if (!s.failed && !s.closed) = true then if n ≤ 4096 ∧ lsn = s.next ∧ lsn < 9223372036854775807 then some { s with next := s.next + 1 } else none else none

theorem one_new (w : World) (v : Value) (T : TypeId) : ∀ j u, [v][j]? = some u → ∃ ad, some (⟨w.heap.size, 0, none⟩ : Addr) = some ad ∧ (w.alloc (.cells #[v] T)).cell? (ad.add j) = some u := by
  intro j u hj
  refine ⟨_, rfl, ?_⟩
  rw [addr_add, Nat.zero_add, blk_cell (blk_new w _) j, ← Array.getElem?_toList]
  exact hj
theorem nil_row (w : World) (base : Nat) (e : TypeId) : w.ownsRow base e 1 (.slice none 0 0) 0 [] := ⟨rfl, Or.inl ⟨rfl, rfl⟩⟩

/-- What a method answers that adds a record, too: what turns is the state's block and the row's. -/
def ResR (base g : Nat) (rv : Value) (o : Option (S × List (List Nat))) (w : World) (e : Ending) (w' : World) : Prop :=
  match o with
  | some (s, bs) => e = .returned (.tuple #[]) ∧ (∃ rv' xs', At w' g s rv' ∧ Recs w' base g rv' bs xs') ∧ Keep (fun b => b = g ∨ rv.ownBlock = some b) w w'
  | none => e = .panicked noP ∧ Keep (fun b => b = g ∨ rv.ownBlock = some b) w w'

theorem row_of {w : World} {base n : Nat} {v : Value} {xs : List Value} (h : w.ownsRow base 30 1 v n xs) : ∃ o c, v = .slice o n c := by
  rcases h.2 with ⟨h1, h2⟩ | ⟨g, cap, cells, rfl, -⟩
  · exact ⟨none, 0, by rw [h1, h2]⟩
  · exact ⟨_, _, rfl⟩

theorem recs_snoc {w w1 w2 : World} {base g c1 : Nat} {rv rv' : Value} {bs : List (List Nat)} {xs : List Value} {o1 : Option Addr} {D : List Nat} {O : Obj} (hr : Recs w base g rv bs xs) (hg : g < w.heap.size) (k1 : Below w.heap.size w w1)
    (hby1 : Bys w1 o1 D) (hc1 : o1 = none → c1 = 0) (ha1 : ∀ a, o1 = some a → base ≤ a.block ∧ a.block < w1.heap.size ∧ (Value.slice o1 D.length c1).ownBlock = some a.block)
    (hb1 : (Value.slice o1 D.length c1).ownBlock = none ∨ (Value.slice o1 D.length c1).ownBlock = some w.heap.size) (hv : ∀ i, D.getD i 0 < 256) (hgr : (w1.alloc O).grownBy w2 rv.ownBlock)
    (hown : w2.ownsRow base 30 1 rv' (bs.length + 1) (xs ++ [.slice o1 D.length c1])) (hb2 : rv'.ownBlock = rv.ownBlock ∨ rv'.ownBlock = some (w1.alloc O).heap.size) :
    Recs w2 base g rv' (bs ++ [D]) (xs ++ [.slice o1 D.length c1]) := by
  have hs1 := k1.size
  have hsa : (w1.alloc O).heap.size = w1.heap.size + 1 := by simp
  have hold : ∀ k, rv.ownBlock = some k → k < w.heap.size := fun k hk => (hr.row.lt k hk).2
  have hxl : xs.length = bs.length := by have := hr.row.1; omega
  have hgs := hgr.size
  -- a block that was there, and is not the old row's, is not the new row's
  have far : ∀ k, k < w1.heap.size → rv.ownBlock ≠ some k → rv'.ownBlock ≠ some k := fun k hk hn h => by
    rcases hb2 with h2 | h2
    · exact hn (h2.symm.trans h)
    · rw [h2] at h
      have := Option.some.inj h
      omega
  have keep : ∀ {o : Option Addr} {B : List Nat}, Bys w1 o B → (∀ a, o = some a → a.block < w1.heap.size ∧ rv.ownBlock ≠ some a.block) → Bys w2 o B := fun {o B} h hn i hi => by
    obtain ⟨ad, ho, hc⟩ := h i hi
    obtain ⟨h1, h2⟩ := hn ad ho
    refine ⟨ad, ho, ?_⟩
    have e1 : w2.cell? (ad.add i) = (w1.alloc O).cell? (ad.add i) := World.cell?_of_block (w := w1.alloc O) (hgr.block _ (by rw [addr_add_block]; omega) (by rw [addr_add_block]; exact fun h => h2 h.symm))
    have e2 : (w1.alloc O).cell? (ad.add i) = w1.cell? (ad.add i) := World.cell?_of_block (w := w1) (Below.heap_alloc _ _ _ (by rw [addr_add_block]; omega))
    rw [e1, e2, hc]
  refine ⟨by rw [List.length_append]; exact hown, far g (by omega) hr.apart, fun i hi => ?_, fun i j => ?_⟩
  · rw [List.length_append, List.length_singleton] at hi
    rcases Nat.lt_or_ge i bs.length with h | h
    · obtain ⟨o, c, e1, e2, e3, e4⟩ := hr.each i h
      have eg : (bs ++ [D]).getD i [] = bs.getD i [] := by rw [List.getD_eq_getElem?_getD, List.getElem?_append_left h, ← List.getD_eq_getElem?_getD]
      rw [eg, List.getElem?_append_left (by omega)]
      refine ⟨o, c, e1, keep (bys_keep e2 k1) (fun a ha => ?_), e3, fun a ha => ?_⟩
      · obtain ⟨h1, h2, h3, h4⟩ := e4 a ha
        exact ⟨by omega, h4⟩
      · obtain ⟨h1, h2, h3, h4⟩ := e4 a ha
        exact ⟨h1, by omega, h3, far _ (by omega) h4⟩
    · have hi' : i = bs.length := by omega
      subst hi'
      have eg : (bs ++ [D]).getD bs.length [] = D := by rw [List.getD_eq_getElem?_getD]; simp
      rw [eg, List.getElem?_append_right (by omega), hxl, Nat.sub_self]
      have hn : ∀ a, o1 = some a → a.block < w1.heap.size ∧ rv.ownBlock ≠ some a.block ∧ a.block ≠ g ∧ base ≤ a.block := fun a ha => by
        obtain ⟨h1, h2, h3⟩ := ha1 a ha
        rcases hb1 with h4 | h4
        · rw [h3] at h4; cases h4
        · rw [h3] at h4
          have h5 := Option.some.inj h4
          refine ⟨h2, fun h => ?_, by omega, h1⟩
          have := hold _ h
          omega
      refine ⟨o1, c1, rfl, keep hby1 (fun a ha => ⟨(hn a ha).1, (hn a ha).2.1⟩), hc1, fun a ha => ?_⟩
      obtain ⟨h1, h2, h3, h4⟩ := hn a ha
      exact ⟨h3, by omega, h4, far _ h1 h2⟩
  · rcases Nat.lt_or_ge i bs.length with h | h
    · have eg : (bs ++ [D]).getD i [] = bs.getD i [] := by rw [List.getD_eq_getElem?_getD, List.getElem?_append_left h, ← List.getD_eq_getElem?_getD]
      rw [eg]
      exact hr.small i j
    · rcases Nat.lt_or_ge i (bs.length + 1) with h' | h'
      · have hi' : i = bs.length := by omega
        subst hi'
        have eg : (bs ++ [D]).getD bs.length [] = D := by rw [List.getD_eq_getElem?_getD]; simp
        rw [eg]; exact hv j
      · have eg : (bs ++ [D]).getD i [] = [] := by rw [List.getD_eq_getElem?_getD, List.getElem?_eq_none (by rw [List.length_append]; simp; omega)]; rfl
        rw [eg]; simp

set_option maxRecDepth 100000 in
set_option maxHeartbeats 8000000 in
theorem add_any (base g : Nat) (s : S) (rv : Value) (bs : List (List Nat)) (xs : List Value) (lsn : Int) (od : Option Addr) (cd : Nat) (D : List Nat) (w : World) (h : At w g s rv) (hr : Recs w base g rv bs xs)
    (hbase : base ≤ g) (hD : Bys w od D) (hc : od = none → cd = 0) (hv : ∀ i, D.getD i 0 < 256) (hn : bs.length ≤ 1000000) (hnx : 0 ≤ s.next) :
    Calls Try.prog 20 #[.pointer (some ⟨g, 0, none⟩), .int .i64 lsn, .slice od D.length cd] w (ResR base g rv ((addS s lsn D.length).map fun s' => (s', bs ++ [D])) w) := by
  have c3 := blk_cell h 3
  have c5 := blk_cell h 5
  have f5 := blk_free h 5
  have f3 := blk_free h 3
  simp [cs] at c3 c5
  have hz := lt_of_block h
  have HN := Lib.hid (sane_any g s rv w h)
  have H := Lib.hid (And.intro h (And.intro hr (And.intro hD (And.intro hc hv))))
  obtain ⟨i0, hi, hz0, hz1, hz2⟩ := info_parts info_u8
  obtain ⟨j0, hj, hy0, hy1, hy2⟩ := info_parts info_sl
  obtain ⟨ro, rc, rfl⟩ := row_of hr.row
  clear h hr hD hc hv
  unfold addS
  by_cases hs : (!s.failed && !s.closed) = true
  · rw [if_pos hs] at HN
    rw [if_pos hs]
    clear hs
    by_cases h4 : D.length ≤ 4096
    · by_cases h5 : lsn = s.next
      · by_cases h6 : lsn < 9223372036854775807
        · rw [if_pos ⟨h4, h5, h6⟩]
          subst h5
          generalize hdl : D.length = dl at *
          have HDL := Lib.hid hdl
          clear hdl
          go_enter Try.func20, Try.ntmps20
          go_wp2_with (first | (go_at_call 21; go_must (refine (may_true _).mono ?_; rintro e w' ⟨rfl, rfl⟩)) | (go_at_call 34; go_must (refine HN.out.mono ?_; rintro e w' ⟨rfl, rfl⟩)))
          go_region_law (first
            | (refine step_append_sl rfl (.const (.slice none 0 0)) (.tmp 31) 30 rfl base 5 i0 (.int .u8 0) 1 Try.underlying30 hi hz0 hz1 hz2 rfl (.slice none 0 0) 0 [] rfl (nil_row _ _ _) od dl cd (u8s D) rfl (by rw [u8s_length]; exact HDL.out) (u8_bytes (w := w) H.out.2.2.1) u8_one H.out.2.2.2.1 (by unfold maxLen; omega) (by omega) (by show base ≤ w.heap.size; omega) ?_
               intro v1 w1 hown1 hgr1 hblk1
               obtain ⟨o1, c1, rfl, hby1, hc1, ha1⟩ := bys_of hown1
               have k1 : Below w.heap.size w w1 := (show Below w.heap.size w w.drew from ⟨rfl, rfl, rfl, Nat.le_refl _, fun _ _ => rfl⟩).grown hgr1 (Nat.le_refl _) (by intro k hk; cases hk)
               have c5' := (k1.cell (p := ⟨g, 5, none⟩) hz).trans c5
               have z1 : g < w1.heap.size := Nat.lt_of_lt_of_le hz k1.size
               have c5'' := fun o => past z1 c5' o
               have ro1 := row_below H.out.2.1.row k1
               have HX := Lib.hid (And.intro hblk1 (And.intro k1 (And.intro hby1 (And.intro hc1 (And.intro ha1 (And.intro z1 ro1))))))
               clear hown1 hgr1 hblk1 hby1 hc1 ha1 k1 z1 ro1)
            | (refine step_append_sl rfl (.tmp 30) (.tmp 33) 24 rfl base 30 j0 (.slice none 0 0) 24 Try.underlying24 hj hy0 hy1 hy2 rfl (.slice ro bs.length rc) bs.length xs rfl (HX.out.2.2.2.2.2.2.alloc _) (some ⟨w1.heap.size, 0, none⟩) 1 1 [.slice o1 D.length c1] rfl rfl (one_new w1 _ _) (by intro u hu; simp at hu; subst hu; rfl) (by intro h; cases h) (by unfold maxLen; omega) (by omega) (by have := HX.out.2.1.size; simp; omega) ?_
               intro v2 w2 hown2 hgr2 hblk2
               obtain ⟨o2, c2, rfl⟩ := row_of hown2
               have hat2 : At w2 g s (.slice ro bs.length rc) := (hgr2.block g (by have := HX.out.2.2.2.2.2.1; simp; omega) (fun h => H.out.2.1.apart h.symm)).trans (blk_alloc ((HX.out.2.1.block g hz).trans H.out.1) _)
               have c52 := blk_cell hat2 5
               have c32 := blk_cell hat2 3
               have f52 := blk_free hat2 5
               have f32 := blk_free hat2 3
               simp [cs] at c52 c32
               have HY := Lib.hid (And.intro hat2 (And.intro hown2 (And.intro hgr2 hblk2)))
               clear hat2 hown2 hgr2 hblk2))
          all_goals go_wp2_with fail
          all_goals go_end0
          all_goals
            refine ⟨rfl, ⟨.slice o2 (bs.length + 1) c2, _, blk_set (blk_set HY.out.1 5 _) 3 _, (recs_snoc H.out.2.1 hz HX.out.2.1 HX.out.2.2.1 HX.out.2.2.2.1 HX.out.2.2.2.2.1 HX.out.1 H.out.2.2.2.2 HY.out.2.2.1 HY.out.2.1 HY.out.2.2.2).keep
              (Keep.setCell (bs := (· = g)) (Keep.setCell (bs := (· = g)) (Keep.refl _ w2) (p := ⟨g, 5, none⟩) (Or.inl rfl) _) (p := ⟨g, 3, none⟩) (Or.inl rfl) _)⟩, ?_⟩
            have hb1 := (Keep.of_below HX.out.2.1).mono (cs := fun b => b = g ∨ (Value.slice ro bs.length rc).ownBlock = some b) (fun _ _ h => h.elim)
            exact Keep.setCell (bs := fun b => b = g ∨ (Value.slice ro bs.length rc).ownBlock = some b) (Keep.setCell (bs := fun b => b = g ∨ (Value.slice ro bs.length rc).ownBlock = some b) ((hb1.alloc _).grown HY.out.2.2.1 (fun k hk => Or.inl (Or.inr hk))) (p := ⟨g, 5, none⟩) (Or.inl (Or.inl rfl)) _) (p := ⟨g, 3, none⟩) (Or.inl (Or.inl rfl)) _
        · rw [if_neg (fun h => h6 h.2.2)]
          subst h5
          generalize hdl : D.length = dl at *
          go_enter Try.func20, Try.ntmps20
          go_wp2_with (first | (go_at_call 21; go_must (first | (refine (may_false _).mono ?_; rintro e w' ⟨rfl, rfl⟩) | (refine (may_dec (by omega) _).mono ?_; rintro e w' ⟨rfl, rfl⟩))) | (go_at_call 34; go_must (refine HN.out.mono ?_; rintro e w' ⟨rfl, rfl⟩)))
          exact bodyPost_panic rfl ⟨rfl, Keep.refl _ w⟩
      · rw [if_neg (fun h => h5 h.2.1)]
        have b5 : (lsn == s.next) = false := by simpa using h5
        generalize hdl : D.length = dl at *
        go_enter Try.func20, Try.ntmps20
        go_wp2_with (first | (go_at_call 21; go_must (first | (refine (may_false _).mono ?_; rintro e w' ⟨rfl, rfl⟩) | (refine (may_dec (by omega) _).mono ?_; rintro e w' ⟨rfl, rfl⟩))) | (go_at_call 34; go_must (refine HN.out.mono ?_; rintro e w' ⟨rfl, rfl⟩)))
        exact bodyPost_panic rfl ⟨rfl, Keep.refl _ w⟩
    · rw [if_neg (fun h => h4 h.1)]
      generalize hdl : D.length = dl at *
      go_enter Try.func20, Try.ntmps20
      go_wp2_with (first | (go_at_call 21; go_must (first | (refine (may_false _).mono ?_; rintro e w' ⟨rfl, rfl⟩) | (refine (may_dec (by omega) _).mono ?_; rintro e w' ⟨rfl, rfl⟩))) | (go_at_call 34; go_must (refine HN.out.mono ?_; rintro e w' ⟨rfl, rfl⟩)))
      exact bodyPost_panic rfl ⟨rfl, Keep.refl _ w⟩
  · rw [if_neg hs] at HN
    rw [if_neg hs]
    clear hs
    go_enter Try.func20, Try.ntmps20
    go_wp2_with (go_at_call 34; go_must (refine HN.out.mono ?_; rintro e w' ⟨rfl, rfl⟩))
    exact bodyPost_panic rfl ⟨rfl, Keep.refl _ w⟩
end Md
end Go.Proofs.Ytjiehgfamlidnaa
