/- The model package: a copy of a state. By an AI agent. -/
import Derived.Test.YtjiehgfamlidnaaModH
namespace Go.Proofs.Ytjiehgfamlidnaa
open Go.ChangeShapes Go.WideShapes Go.ChangeAt Go.RowKit
set_option linter.unusedVariables false
namespace Md

/-- Records that a state's value holds: a slice of slices of bytes. -/
structure Src (w : World) (o : Option Addr) (bs : List (List Nat)) : Prop where
  cell : ∀ i, i < bs.length → ∃ ad, o = some ad ∧ ∃ oi ci, w.cell? (ad.add i) = some (.slice oi (bs.getD i []).length ci) ∧ Bys w oi (bs.getD i []) ∧ (oi = none → ci = 0)
  small : ∀ i j, (bs.getD i []).getD j 0 < 256
  short : ∀ i, (bs.getD i []).length ≤ 4096

theorem Src.keep {w w' : World} {o : Option Addr} {bs : List (List Nat)} (h : Src w o bs) (k : Below w.heap.size w w') : Src w' o bs :=
  ⟨fun i hi => by
    obtain ⟨ad, ho, oi, ci, h1, h2, h3⟩ := h.cell i hi
    exact ⟨ad, ho, oi, ci, (k.cell (cell_in h1)).trans h1, bys_keep h2 k, h3⟩, h.small, h.short⟩

theorem take_succ {α : Type} (l : List α) (d : α) (i : Nat) (h : i < l.length) : l.take (i + 1) = l.take i ++ [l.getD i d] := by
  rw [List.take_succ_eq_append_getElem h]
  congr 2
  rw [List.getD_eq_getElem?_getD, List.getElem?_eq_getElem h]; rfl

theorem recs_nil (w : World) (base g : Nat) : Recs w base g (.slice none 0 0) [] [] := by
  refine ⟨nil_row _ _ _, ?_, fun i hi => absurd hi (by simp), fun i j => by simp⟩
  intro h; cases h

set_option maxRecDepth 100000 in
set_option maxHeartbeats 16000000 in
theorem own_any (s : S) (o : Option Addr) (cap : Nat) (bs : List (List Nat)) (w : World) (hS : Src w o bs) (hn : bs.length ≤ 1000000) :
    Calls Try.prog 32 #[.agg (cs s (.slice o bs.length cap))] w fun e w' => ∃ g rv xs, e = .returned (.pointer (some ⟨g, 0, none⟩)) ∧ At w' g s rv ∧ Recs w' w.heap.size g rv bs xs ∧ w.heap.size ≤ g ∧ Below w.heap.size w w' := by
  obtain ⟨i0, hi, hz0, hz1, hz2⟩ := info_parts info_u8
  obtain ⟨j0, hj, hy0, hy1, hy2⟩ := info_parts info_sl
  obtain ⟨s0, s1, s2, s3, s4, s5, s6⟩ := s
  have HS := Lib.hid hS
  clear hS
  unfold cs
  simp only
  generalize hbl : bs.length = n at *
  have HB := Lib.hid hbl
  clear hbl
  go_enter Try.func32, Try.ntmps32
  go_wp2_with fail
  go_loopg [16] n (fun m i wr => ∃ k : Nat, m + k = n ∧ i = .int .i64 (k : Int) ∧ Hid (∃ rv xs, At wr (w.heap.size + 1) ⟨s0, s1, s2, s3, s4, s5, s6⟩ rv ∧ Recs wr w.heap.size (w.heap.size + 1) rv (bs.take k) xs ∧ Below w.heap.size w wr))
  case atStart =>
    refine ⟨0, by omega, rfl, ⟨.slice none 0 0, [], blk_new_at (w.alloc _) _ (by simp), by rw [List.take_zero]; exact recs_nil _ _ _, ((Below.refl _ w).alloc (Nat.le_refl _) _).alloc (by simp) _⟩⟩
  case round =>
    obtain ⟨k, hgk, rfl, HK⟩ := hrel
    by_cases hk : k < n
    · obtain ⟨rvk, xsk, hat, hrec, hbel⟩ := HK.out
      obtain ⟨ad, rfl, oi, ci, hcell, hby, hci⟩ := HS.out.cell k (by rw [HB.out]; exact hk)
      replace hcell := (hbel.cell (cell_in hcell)).trans hcell
      have hbyr := bys_keep hby hbel
      obtain ⟨ro, rc, rfl⟩ := row_of hrec.row
      have htl : (bs.take k).length = k := by rw [List.length_take, HB.out]; omega
      have hsm := HS.out.small k
      have hsh := HS.out.short k
      have htake := take_succ bs [] k (by rw [HB.out]; exact hk)
      have c5 := blk_cell hat 5
      have f5 := blk_free hat 5
      have hz := lt_of_block hat
      have hbw := hbel.size
      generalize hD : bs.getD k [] = D at *
      generalize hT : bs.take k = T at *
      simp [cs] at c5
      have hrow := hrec.row
      have H := Lib.hid (And.intro hat (And.intro hrec (And.intro hbyr (And.intro hci (And.intro hsm (And.intro hbel htake))))))
      clear hat hrec hby hbyr hci hsm hbel htake hD hT HK
      generalize htl2 : T.length = tl at *
      have HTL := Lib.hid (And.intro htl htl2)
      have htl3 : tl ≤ 1000000 := by omega
      clear htl htl2
      generalize hdl : D.length = dl at *
      have HDL := Lib.hid hdl
      have HRW := Lib.hid hrow
      clear hdl hrow
      generalize hg : w.heap.size + 1 = g at *
      have HG := Lib.hid hg
      have hgz : w.heap.size < g := by omega
      clear hg
      go_upto_region 6 with fail
      go_region_law (first
        | (refine step_append_sl rfl (.const (.slice none 0 0)) (.tmp 26) 30 rfl w.heap.size 5 i0 (.int .u8 0) 1 Try.underlying30 hi hz0 hz1 hz2 rfl (.slice none 0 0) 0 [] rfl (nil_row _ _ _) oi dl ci (u8s D) rfl (by rw [u8s_length]; exact HDL.out) (u8_bytes (w := wr) H.out.2.2.1) u8_one H.out.2.2.2.1 (by unfold maxLen; omega) (by omega) (by show w.heap.size ≤ wr.heap.size; omega) ?_
           intro v1 w1 hown1 hgr1 hblk1
           obtain ⟨o1, c1, rfl, hby1, hc1, ha1⟩ := bys_of hown1
           have k1 : Below wr.heap.size wr w1 := (show Below wr.heap.size wr wr.drew from ⟨rfl, rfl, rfl, Nat.le_refl _, fun _ _ => rfl⟩).grown hgr1 (Nat.le_refl _) (by intro k hk; cases hk)
           have c5' := (k1.cell (p := ⟨g, 5, none⟩) hz).trans c5
           have z1 : g < w1.heap.size := Nat.lt_of_lt_of_le hz k1.size
           have c5'' := fun o => past z1 c5' o
           have ro1 := row_below HRW.out k1
           have HX := Lib.hid (And.intro hblk1 (And.intro k1 (And.intro hby1 (And.intro hc1 (And.intro ha1 (And.intro z1 ro1))))))
           clear hown1 hgr1 hblk1 hby1 hc1 ha1 k1 z1 ro1)
        | (refine step_append_sl rfl (.tmp 25) (.tmp 28) 24 rfl w.heap.size 30 j0 (.slice none 0 0) 24 Try.underlying24 hj hy0 hy1 hy2 rfl (.slice ro tl rc) tl xsk rfl (HX.out.2.2.2.2.2.2.alloc _) (some ⟨w1.heap.size, 0, none⟩) 1 1 [.slice o1 D.length c1] rfl rfl (one_new w1 _ _) (by intro u hu; simp at hu; subst hu; rfl) (by intro h; cases h) (by unfold maxLen; omega) (by omega) (by have := HX.out.2.1.size; simp; omega) ?_
           intro v2 w2 hown2 hgr2 hblk2
           obtain ⟨o2, c2, rfl⟩ := row_of hown2
           have hat2 : At w2 g ⟨s0, s1, s2, s3, s4, s5, s6⟩ (.slice ro tl rc) := (hgr2.block g (by have := HX.out.2.2.2.2.2.1; simp; omega) (fun h => H.out.2.1.apart h.symm)).trans (blk_alloc ((HX.out.2.1.block g hz).trans H.out.1) _)
           have c52 := blk_cell hat2 5
           have f52 := blk_free hat2 5
           simp [cs] at c52
           have HY := Lib.hid (And.intro hat2 (And.intro hown2 (And.intro hgr2 hblk2)))
           clear hat2 hown2 hgr2 hblk2))
      all_goals
        go_wp2_with fail
        go_roundg (gk - 1)
      all_goals first
        | omega
        | (have hown : w2.ownsRow w.heap.size 30 1 (.slice o2 (tl + 1) c2) (T.length + 1) (xsk ++ [.slice o1 D.length c1]) := by rw [HTL.out.2]; exact HY.out.2.1
           have hb1 : Below w.heap.size w w1 := H.out.2.2.2.2.2.1.trans (HX.out.2.1.mono hbw)
           have hs1 := hb1.size
           refine ⟨k + 1, by omega, rfl, ⟨.slice o2 (tl + 1) c2, xsk ++ [.slice o1 D.length c1], blk_set HY.out.1 5 _, ?_, ?_⟩⟩
           · rw [H.out.2.2.2.2.2.2]
             exact (recs_snoc H.out.2.1 hz HX.out.2.1 HX.out.2.2.1 HX.out.2.2.2.1 HX.out.2.2.2.2.1 HX.out.1 H.out.2.2.2.2.1 HY.out.2.2.1 hown HY.out.2.2.2).keep (Keep.setCell (bs := (· = g)) (Keep.refl _ w2) (p := ⟨g, 5, none⟩) (Or.inl rfl) _)
           · exact ((hb1.alloc (by omega) _).grown HY.out.2.2.1 (by simp; omega) (fun i hi => (HRW.out.lt i hi).1)).setCell (p := ⟨g, 5, none⟩) (Nat.le_of_lt hgz) _)
    · obtain ⟨rvk, xsk, hat, hrec, hbel⟩ := HK.out
      have hkn : k = n := by omega
      rw [hkn, ← HB.out, List.take_length] at hrec
      have HX := Lib.hid (And.intro hat (And.intro hrec hbel))
      clear hat hrec hbel HK
      go_wp2_with fail
      go_ret
      exact ⟨w.heap.size + 1, rvk, xsk, rfl, HX.out.1, HX.out.2.1, by omega, HX.out.2.2⟩
end Md
end Go.Proofs.Ytjiehgfamlidnaa
