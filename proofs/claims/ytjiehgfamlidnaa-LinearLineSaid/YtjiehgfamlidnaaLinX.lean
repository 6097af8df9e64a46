/- Package linear: Legal. By an AI agent. -/
import Derived.Test.YtjiehgfamlidnaaLinV
import Derived.Deep.RegionWith
namespace Go.Proofs.Ytjiehgfamlidnaa.Lin
open Go.ChangeShapes Go.WideShapes Go.ChangeAt Go.RowKit
open Md
set_option linter.unusedVariables false
set_option linter.unusedSimpArgs false

def Ints (w : World) (oo : Option Addr) (L : List Int) : Prop := ∀ i, i < L.length → ∃ ab ao, oo = some ⟨ab, ao, none⟩ ∧ w.cell? ⟨ab, ao + i, none⟩ = some (.int .i64 (L.getD i 0))
theorem ints_keep {w w' : World} {oo : Option Addr} {L : List Int} (h : Ints w oo L) (k : Below w.heap.size w w') : Ints w' oo L := by
  intro i hi
  obtain ⟨ab, ao, e, h1⟩ := h i hi
  exact ⟨ab, ao, e, (k.cell (cell_in h1)).trans h1⟩
def nats (l : List Nat) : List Int := l.map fun (i : Nat) => (i : Int)
theorem nats_inj {a b : List Nat} (h : nats a = nats b) : a = b := (List.map_inj_right (fun x y hxy => by omega)).1 h
open Classical in
/-- Is an order a legal one? -/
noncomputable def lgB (base : Int) (ps : List Past) (L : List Int) : Bool := decide (∃ l d, L = nats l ∧ Chain ps (nd0 base) l d ∧ Done ps d)
theorem lg_true {base : Int} {ps : List Past} {L : List Int} : lgB base ps L = true ↔ ∃ l d, L = nats l ∧ Chain ps (nd0 base) l d ∧ Done ps d := by unfold lgB; simp
theorem lg_stop {base : Int} {ps : List Past} {L : List Int} {l : List Nat} {d : Nd} {j : Nat} (ht : L.take j = nats l) (hj : l.length = j) (hl : j < L.length) (hc : Chain ps (nd0 base) l d) (hx : ∀ i : Nat, L.getD j 0 = (i : Int) → i < ps.length → putF ps d i = none) : lgB base ps L = false := by
  rw [Bool.eq_false_iff]
  intro h
  obtain ⟨l', d', e, hc', hd'⟩ := lg_true.1 h
  have hlen : L.length = l'.length := by rw [e]; simp [nats]
  have e1 : l'.take j = l := by
    apply nats_inj
    rw [← ht, e]
    simp [nats, List.map_take]
  have e2 : l' = l ++ l'.drop j := by rw [← e1, List.take_append_drop]
  rw [e2] at hc'
  obtain ⟨d1, c1, c2⟩ := hc'.split
  have := c1.unique hc
  subst this
  rcases hq : l'.drop j with _ | ⟨i, r⟩
  · have := congrArg List.length hq
    simp at this
    omega
  · rw [hq] at c2
    cases c2 with
    | cons hi hp t =>
      have : L.getD j 0 = (i : Int) := by
        rw [e, List.getD_eq_getElem?_getD]
        have h3 : l'[j]? = some i := by
          have := congrArg (fun z => z[0]?) hq
          simpa using this
        simp [nats, h3]
      rw [hx i this hi] at hp
      cases hp
theorem lg_end {base : Int} {ps : List Past} {l : List Nat} {d : Nd} (hc : Chain ps (nd0 base) l d) : lgB base ps (nats l) = true ↔ Done ps d := by
  rw [lg_true]
  constructor
  · rintro ⟨l', d', e, hc', hd'⟩
    have := nats_inj e
    subst this
    rw [hc.unique hc']; exact hd'
  · intro h
    exact ⟨l, d, rfl, hc, h⟩

theorem info_bool : (Try.prog.info? 4).map (fun i => (i.zero, i.size, i.bytes)) = some (some (.bool false), 1, 1) := by kernel_rfl
def boolsA (f : Nat → Bool) (n : Nat) : Array Value := ((List.range n).map fun i => Value.bool (f i)).toArray
theorem boolsA_get (f : Nat → Bool) (n i : Nat) (h : i < n) : (boolsA f n)[i]? = some (.bool (f i)) := by simp [boolsA, h]
theorem boolsA_set (f : Nat → Bool) (n i : Nat) (v : Bool) : (boolsA f n).setIfInBounds i (.bool v) = boolsA (fun j => if j = i then v else f j) n := by
  apply Array.ext_getElem?
  intro j
  rw [Array.getElem?_setIfInBounds]
  by_cases hj : j < n
  · by_cases hij : i = j
    · subst hij
      simp [boolsA, hj]
    · have : ¬ j = i := fun e => hij e.symm
      simp [boolsA, hj, hij, this]
  · by_cases hij : i = j
    · subst hij; simp [boolsA, hj]
    · simp [boolsA, hj, hij]
theorem boolsA_congr {f g : Nat → Bool} {n : Nat} (h : ∀ i, i < n → f i = g i) : boolsA f n = boolsA g n := by
  unfold boolsA
  congr 1
  apply List.map_congr_left
  intro i hi
  rw [h i (List.mem_range.1 hi)]
theorem made_bools (n : Nat) : Go.madeCells #[Value.bool false] n = boolsA (fun _ => false) n := by
  rw [← Array.toList_inj, toList_madeCells_one]
  apply List.ext_getElem?
  intro j
  by_cases hj : j < n <;> simp [boolsA, hj]

/-- Legal, as far as it came. -/
structure LG (w : World) (base : Int) (ps : List Past) (L : List Int) (bm bi : Nat) (wr : World) (j : Nat) (l : List Nat) (d : Nd) (vo : Option Addr) (vc : Nat) : Prop where
  low : Below w.heap.size w wr
  box : wr.heap[bm]? = some (.cells (cs d.m.1 (.slice vo d.m.2.length vc)) 26 (0, 0))
  inn : wr.heap[bi]? = some (.cells (boolsA (fun i => d.k.set.testBit i) ps.length) 4 (0, 0))
  src : SrcB (fun x => x = bm ∨ x = bi) wr vo d.m.2
  chain : Chain ps (nd0 base) l d
  len : l.length = j
  take : L.take j = nats l
  hm : w.heap.size ≤ bm
  hi : w.heap.size ≤ bi
theorem LG.grow {w : World} {base : Int} {ps : List Past} {L : List Int} {bm bi : Nat} {wr wr' : World} {j : Nat} {l : List Nat} {d : Nd} {vo : Option Addr} {vc : Nat} (h : LG w base ps L bm bi wr j l d vo vc) (g : Below wr.heap.size wr wr') : LG w base ps L bm bi wr' j l d vo vc :=
  ⟨h.low.trans (g.mono h.low.size), blk_keep g h.box, blk_keep g h.inn, srcb_grow h.src g, h.chain, h.len, h.take, h.hm, h.hi⟩
theorem LG.ne {w : World} {base : Int} {ps : List Past} {L : List Int} {bm bi : Nat} {wr : World} {j : Nat} {l : List Nat} {d : Nd} {vo : Option Addr} {vc : Nat} (h : LG w base ps L bm bi wr j l d vo vc) : bm ≠ bi := fun e => by
  have h1 := h.box
  rw [e, h.inn] at h1
  have h2 : (4 : TypeId) = 26 := congrArg (fun o => match o with | some (Obj.cells _ t _) => t | _ => 0) h1
  exact absurd h2 (by decide)

theorem bg_zero' {base : Int} {ps : List Past} (h : bgE base ps = 0) : 1 ≤ base ∧ ps.length ≤ 12 ∧ timB ps = true := by
  unfold bgE at h
  split at h
  · cases h
  · split at h
    · cases h
    · split at h
      · refine ⟨by omega, by omega, by assumption⟩
      · cases h
theorem free_bef {ps : List Past} {k : Key} {i : Nat} (hb : k.set.testBit i = false) (h : ∀ q, q < ps.length → ahead (ps.getD q zP) (ps.getD i zP) = true → k.set.testBit q = true) : free ps k i := by
  refine ⟨hb, fun j hj => ?_⟩
  unfold befOf at hj
  rw [mask_bit] at hj
  simp only [Bool.and_eq_true, decide_eq_true_eq] at hj
  exact h j hj.1 hj.2
theorem bef_not {ps : List Past} {k : Key} {i q : Nat} (hq : q < ps.length) (ha : ahead (ps.getD q zP) (ps.getD i zP) = true) (hb : k.set.testBit q = false) : ¬ free ps k i := fun h => by
  have := h.2 q (by unfold befOf; rw [mask_bit, ha]; simp [hq])
  rw [hb] at this; cases this
theorem put_none_free {ps : List Past} {d : Nd} {i : Nat} (h : ¬ free ps d.k i) : putF ps d i = none := by unfold putF; rw [if_neg h]
theorem put_none_step {ps : List Past} {d : Nd} {i : Nat} (h : stepF d.m (ps.getD i zP) = none) : putF ps d i = none := by
  unfold putF
  split
  · rw [h]; rfl
  · rfl
theorem LG.next {w : World} {base : Int} {ps : List Past} {L : List Int} {bm bi : Nat} {wr wz : World} {j : Nat} {l : List Nat} {d : Nd} {vo : Option Addr} {vc : Nat} (h : LG w base ps L bm bi wr j l d vo vc) {i : Nat} (hi : i < ps.length) (hx : L.getD j 0 = (i : Int)) (hj : j < L.length) (hf : free ps d.k i) {m' : St} (hs : stepF d.m (ps.getD i zP) = some m') {o' : Option Addr} {c' : Nat}
    (hlow : Below w.heap.size w wz) (hbox : wz.heap[bm]? = some (.cells (cs m'.1 (.slice o' m'.2.length c')) 26 (0, 0))) (hinn : wz.heap[bi]? = some (.cells (boolsA (fun q => if q = i then true else d.k.set.testBit q) ps.length) 4 (0, 0))) (hsrc : SrcB (fun x => x = bm ∨ x = bi) wz o' m'.2) :
    ∃ d', LG w base ps L bm bi wz (j + 1) (l ++ [i]) d' o' c' := by
  have hp := put_of hf hs
  refine ⟨_, hlow, hbox, ?_, hsrc, h.chain.snoc hi hp, by simp [h.len], ?_, h.hm, h.hi⟩
  · rw [hinn, boolsA_congr]
    intro q hq
    have := put_bit hp q
    simp only at this ⊢
    rw [this]
    by_cases e : q = i
    · subst e; simp
    · have e' : ¬ i = q := fun h => e h.symm
      simp [e, e']
  · have e1 : L[j]? = some (i : Int) := by
      rw [List.getD_eq_getElem?_getD] at hx
      rw [List.getElem?_eq_getElem hj] at hx ⊢
      simpa using hx
    rw [List.take_add_one, e1, h.take]
    simp [nats]

def lgDone (ps : List Past) (d : Nd) : Bool := (List.range ps.length).all fun i => decide ((ps.getD i zP).en = 0) || d.k.set.testBit i
theorem lgDone_iff {ps : List Past} {d : Nd} : Done ps d ↔ ∀ i, i < ps.length → (ps.getD i zP).en ≠ 0 → d.k.set.testBit i = true := by
  unfold Done allOf
  constructor
  · intro h i hi he
    exact h i (by rw [mask_bit, Bool.and_eq_true, decide_eq_true_eq, decide_eq_true_eq]; exact ⟨hi, he⟩)
  · intro h j hj
    rw [mask_bit] at hj
    simp only [Bool.and_eq_true, decide_eq_true_eq] at hj
    exact h j hj.1 hj.2

set_option maxRecDepth 100000 in
set_option maxHeartbeats 16000000 in
theorem legal_any (base : Int) (o oo : Option Addr) (ps : List Past) (L : List Int) (cap capo : Nat) (w : World) (hP : Ps w o ps) (hbg : bgE base ps = 0) (hb : base ≤ topN) (hI : Ints w oo L) (hL : L.length ≤ 9223372036854775807) :
    Calls Try.prog 15 #[.int .i64 base, .slice o ps.length cap, .slice oo L.length capo] w fun e w' => e = .returned (.bool (lgB base ps L)) ∧ Below w.heap.size w w' := by
  obtain ⟨g1, g2, g3⟩ := bg_zero' hbg
  have HNEW := Lib.hid (fun w => new_any base w)
  rw [if_neg (by omega), if_neg (by omega)] at HNEW
  have HTI := Lib.hid (fun (W : World) (k : Below w.heap.size w W) => timely_any o ps cap W (hP.keep k) (by omega))
  rw [g3] at HTI
  have HP := Lib.hid hP
  have HI := Lib.hid hI
  have HG := Lib.hid (And.intro g1 (And.intro hb (And.intro g2 hL)))
  clear hP hI hbg hb g1 g3
  refine (show ∀ Q : Ending → World → Prop, (∀ e w', (e = .returned (.bool (lgB base ps L)) ∧ Below w.heap.size w w') → Q e w') → Calls Try.prog 15 #[.int .i64 base, .slice o ps.length cap, .slice oo L.length capo] w Q from ?_) _ (fun _ _ h => h)
  intro Q hQ
  have HQ := Lib.hid hQ
  clear hQ
  unfold cs newS at HNEW
  generalize hl : ps.length = n at *
  have HLN := Lib.hid hl
  clear hl
  generalize hll : L.length = nl at *
  have HLL := Lib.hid hll
  clear hll
  have hmk : ∀ w, (Instr.makeSlice 76 (.int .i64 (n : Int)) (.int .i64 (n : Int))).run Try.prog w = .ok (.slice (some ⟨w.heap.size, 0, none⟩) n n) (w.alloc (.cells (boolsA (fun _ => false) n) 4)) := by
    intro w
    have h := run_make_row' (P := Try.prog) 76 4 (.bool false) 1 Try.underlying76 info_bool rfl .i64 .i64 n (by omega) (by omega) w
    rw [made_bools] at h
    exact h
  go_enter Try.func15, Try.ntmps15
  go_wp2_with (first
    | (go_at_call 8
       refine (HNEW.out _).mono ?_
       intro e w2 h2
       obtain ⟨rfl, hb2⟩ := h2
       have H2 := Lib.hid hb2
       clear hb2)
    | (go_at_call 28
       refine (HTI.out _ (H2.out.alloc H2.out.size _)).mono ?_
       intro e w4 h4
       obtain ⟨rfl, hb4⟩ := h4
       have H4 := Lib.hid hb4
       clear hb4))
  have hst : LG w base ps L w2.heap.size w4.heap.size (w4.alloc (.cells (boolsA (fun _ => false) n) 4)) 0 [] (nd0 base) none 0 := by
    have hk4 : Below (w2.alloc (.cells #[.int .i64 base, .int .i64 base, .int .i64 base, .int .i64 base, .int .i64 9223372036854775807, .slice none 0 0, .bool false, .bool false] 26)).heap.size (w2.alloc (.cells #[.int .i64 base, .int .i64 base, .int .i64 base, .int .i64 base, .int .i64 9223372036854775807, .slice none 0 0, .bool false, .bool false] 26)) (w4.alloc (.cells (boolsA (fun _ => false) n) 4)) := H4.out.alloc H4.out.size _
    have hs2 := H2.out.size
    have hs4 := H4.out.size
    refine ⟨(H2.out.alloc H2.out.size (.cells #[.int .i64 base, .int .i64 base, .int .i64 base, .int .i64 base, .int .i64 9223372036854775807, .slice none 0 0, .bool false, .bool false] 26)).trans (hk4.mono (by simp; omega)), ?_, ?_, ⟨fun i hi => absurd hi (by simp [nd0]), fun i j => by simp [nd0], fun i => by simp [nd0]⟩, Chain.nil _, rfl, by simp [nats], H2.out.size, by simp at hs4; omega⟩
    · exact (hk4.block w2.heap.size (by simp)).trans (blk_new w2 (.cells #[.int .i64 base, .int .i64 base, .int .i64 base, .int .i64 base, .int .i64 9223372036854775807, .slice none 0 0, .bool false, .bool false] 26))
    · rw [HLN.out, boolsA_congr (f := fun i => (nd0 base).k.set.testBit i) (g := fun _ => false) (fun i _ => by simp [nd0])]
      exact blk_new w4 _
  have HST := Lib.hid hst
  clear hst hmk
  go_loopg [34] nl (fun gq s34 wr => ∃ j : Nat, gq + j = nl ∧ s34 = .int .i64 (j : Int) ∧ Hid (∃ l d vo vc, LG w base ps L w2.heap.size w4.heap.size wr j l d vo vc))
  case atStart => exact ⟨0, by omega, rfl, _, _, _, _, HST.out⟩
  case round =>
    obtain ⟨j, hgj, rfl, HJ⟩ := hrel
    obtain ⟨gO, hgO⟩ : ∃ x, x = gk := ⟨_, rfl⟩
    obtain ⟨l, d, vo, vc, hJ⟩ := HJ.out
    have HLG := Lib.hid hJ
    clear hJ HJ
    have hnl : nl ≤ 9223372036854775807 := HG.out.2.2.2
    by_cases hj : j < nl
    · obtain ⟨oab, oao, rfl, x0⟩ := ints_keep HI.out HLG.out.low j (by rw [HLL.out]; exact hj)
      obtain ⟨x, hx⟩ : ∃ x, L.getD j 0 = x := ⟨_, rfl⟩
      rw [hx] at x0
      have HX := Lib.hid hx
      clear hx
      have HSTOP : RowKit.Hid ((∀ i : Nat, x = (i : Int) → i < n → putF ps d i = none) → lgB base ps L = false) := Lib.hid fun h => lg_stop HLG.out.take HLG.out.len (by rw [HLL.out]; exact hj) HLG.out.chain (fun i hi hin => h i (by rw [← HX.out]; exact hi) (by rw [← HLN.out]; exact hin))
      by_cases hx0 : x < 0
      · have d1 : decide (x < 0) = true := by simpa using hx0
        have hf := HSTOP.out (fun i hi _ => by omega)
        go_wp2_with fail
        exact HQ.out _ _ ⟨by rw [hf]; rfl, HLG.out.low⟩
      · obtain ⟨i, rfl⟩ := Int.eq_ofNat_of_zero_le (show 0 ≤ x by omega)
        clear hx0
        have d1 : decide ((i : Int) < 0) = false := by simp
        by_cases hin : (n : Int) ≤ (i : Int)
        · have d2 : decide ((i : Int) ≥ (n : Int)) = true := by simpa using hin
          have hf := HSTOP.out (fun i' hi h => by omega)
          go_wp2_with fail
          exact HQ.out _ _ ⟨by rw [hf]; rfl, HLG.out.low⟩
        · have d2 : decide ((i : Int) ≥ (n : Int)) = false := by simpa using hin
          have hin' : i < n := by omega
          have d3 : decide (n ≤ i) = false := by simp; omega
          clear hin
          have x1 : wr.cell? ⟨w4.heap.size, i, none⟩ = some (.bool (d.k.set.testBit i)) := (blk_cell HLG.out.inn i).trans (boolsA_get _ _ _ (by rw [HLN.out]; exact hin'))
          rcases hbit : d.k.set.testBit i with _ | _
          · rw [hbit] at x1
            have HBT := Lib.hid hbit
            clear hbit
            go_wp2_with fail
            obtain ⟨p0, hp0⟩ : ∃ x, (ps.getD i zP).kind = x := ⟨_, rfl⟩
            obtain ⟨p1, hp1⟩ : ∃ x, (ps.getD i zP).cl = x := ⟨_, rfl⟩
            obtain ⟨p2, hp2⟩ : ∃ x, (ps.getD i zP).D.length = x := ⟨_, rfl⟩
            obtain ⟨p3, hp3⟩ : ∃ x, (ps.getD i zP).err = x := ⟨_, rfl⟩
            obtain ⟨p4, hp4⟩ : ∃ x, (ps.getD i zP).lsn = x := ⟨_, rfl⟩
            obtain ⟨p5, hp5⟩ : ∃ x, (ps.getD i zP).R.length = x := ⟨_, rfl⟩
            obtain ⟨p6, hp6⟩ : ∃ x, (ps.getD i zP).beg = x := ⟨_, rfl⟩
            obtain ⟨p7, hp7⟩ : ∃ x, (ps.getD i zP).en = x := ⟨_, rfl⟩
            have HPP := Lib.hid (And.intro hp0 (And.intro hp1 (And.intro hp2 (And.intro hp3 (And.intro hp4 (And.intro hp5 (And.intro hp6 hp7)))))))
            obtain ⟨ab, ao, rfl, odp, cdp, ordp, crdp, hps, q0, q1, q2, q3, q4, q5, q6, q7⟩ := HP.out.at i (by rw [HLN.out]; exact hin')
            rw [hp0] at q0; rw [hp1] at q1; rw [hp2] at q2; rw [hp3] at q3; rw [hp4] at q4; rw [hp5] at q5; rw [hp6] at q6; rw [hp7] at q7
            have HPS := Lib.hid (And.intro hps (And.intro q0 (And.intro q1 (And.intro q2 (And.intro q3 (And.intro q4 (And.intro q5 (And.intro q6 q7))))))))
            clear hps q0 q1 q2 q3 q4 q5 q6 q7 hp0 hp1 hp2 hp3 hp4 hp5 hp6 hp7 x0 x1
            obtain ⟨W, hW⟩ : ∃ W, W = wr := ⟨_, rfl⟩
            subst hW
            go_loopg [54] n (fun gq s54 wx => ∃ q : Nat, gq + q = n ∧ s54 = .int .i64 (q : Int) ∧ Hid (Below W.heap.size W wx ∧ ∀ q', q' < q → ahead (ps.getD q' zP) (ps.getD i zP) = true → d.k.set.testBit q' = true))
            case atStart => exact ⟨0, by omega, rfl, Below.refl _ _, fun q' hq' => absurd hq' (by omega)⟩
            case round =>
              obtain ⟨q, hgq, rfl, HQQ⟩ := hrel
              by_cases hq : q < n
              · obtain ⟨r0, hr0⟩ : ∃ x, (ps.getD q zP).kind = x := ⟨_, rfl⟩
                obtain ⟨r1, hr1⟩ : ∃ x, (ps.getD q zP).cl = x := ⟨_, rfl⟩
                obtain ⟨r2, hr2⟩ : ∃ x, (ps.getD q zP).D.length = x := ⟨_, rfl⟩
                obtain ⟨r3, hr3⟩ : ∃ x, (ps.getD q zP).err = x := ⟨_, rfl⟩
                obtain ⟨r4, hr4⟩ : ∃ x, (ps.getD q zP).lsn = x := ⟨_, rfl⟩
                obtain ⟨r5, hr5⟩ : ∃ x, (ps.getD q zP).R.length = x := ⟨_, rfl⟩
                obtain ⟨r6, hr6⟩ : ∃ x, (ps.getD q zP).beg = x := ⟨_, rfl⟩
                obtain ⟨r7, hr7⟩ : ∃ x, (ps.getD q zP).en = x := ⟨_, rfl⟩
                obtain ⟨qab, qao, hqo, odr, cdr, ordr, crdr, hqs, z0, z1, z2, z3, z4, z5, z6, z7⟩ := (HP.out.keep (HLG.out.low.trans (HQQ.out.1.mono HLG.out.low.size))).at q (by rw [HLN.out]; exact hq)
                cases hqo
                have HAH := Lib.hid (fun WX => ahead_any (ps.getD q zP) (ps.getD i zP) odr cdr ordr crdr odp cdp ordp crdp WX)
                unfold pcells at HAH
                rw [HPP.out.1, HPP.out.2.1, HPP.out.2.2.1, HPP.out.2.2.2.1, HPP.out.2.2.2.2.1, HPP.out.2.2.2.2.2.1, HPP.out.2.2.2.2.2.2.1, HPP.out.2.2.2.2.2.2.2, hr0, hr1, hr2, hr3, hr4, hr5, hr6, hr7] at HAH
                rw [hr0] at z0; rw [hr1] at z1; rw [hr2] at z2; rw [hr3] at z3; rw [hr4] at z4; rw [hr5] at z5; rw [hr6] at z6; rw [hr7] at z7
                obtain ⟨W6, hW6⟩ : ∃ W6, W6 = wr.alloc (.cells #[.int .i64 r0, .int .i64 r1, .slice odr r2 cdr, .int .i64 r3, .int .i64 r4, .slice ordr r5 crdr, .int .i64 r6, .int .i64 r7] 50) := ⟨_, rfl⟩
                have hk6 : Below W.heap.size W W6 := by rw [hW6]; exact HQQ.out.1.alloc HQQ.out.1.size _
                have hbq : W6.heap[wr.heap.size]? = some (.cells #[.int .i64 r0, .int .i64 r1, .slice odr r2 cdr, .int .i64 r3, .int .i64 r4, .slice ordr r5 crdr, .int .i64 r6, .int .i64 r7] 50 (0, 0)) := by rw [hW6]; exact blk_new wr _
                obtain ⟨b0, b1, b2, b3, b4, b5, b6, b7⟩ := And.intro (blk_cell hbq 0) (And.intro (blk_cell hbq 1) (And.intro (blk_cell hbq 2) (And.intro (blk_cell hbq 3) (And.intro (blk_cell hbq 4) (And.intro (blk_cell hbq 5) (And.intro (blk_cell hbq 6) (blk_cell hbq 7)))))))
                simp only [List.getElem?_toArray, List.getElem?_cons_zero, List.getElem?_cons_succ] at b0 b1 b2 b3 b4 b5 b6 b7
                have hkw := HLG.out.low.trans (hk6.mono HLG.out.low.size)
                obtain ⟨-, k0, k1, k2, k3, k4, k5, k6, k7⟩ := HPS.out
                have y0 := (hkw.cell (cell_in k0)).trans k0
                have y1 := (hkw.cell (cell_in k1)).trans k1
                have y2 := (hkw.cell (cell_in k2)).trans k2
                have y3 := (hkw.cell (cell_in k3)).trans k3
                have y4 := (hkw.cell (cell_in k4)).trans k4
                have y5 := (hkw.cell (cell_in k5)).trans k5
                have y6 := (hkw.cell (cell_in k6)).trans k6
                have y7 := (hkw.cell (cell_in k7)).trans k7
                have HK6 := Lib.hid hk6
                have HIQ := Lib.hid (fun (w7 : World) (h7 : Below W6.heap.size W6 w7) => (show w7.cell? ⟨w4.heap.size, q, none⟩ = some (.bool (d.k.set.testBit q)) from (blk_cell (HLG.out.grow (hk6.trans (h7.mono hk6.size))).inn q).trans (boolsA_get _ _ _ (by rw [HLN.out]; exact hq))))
                have HAHB : RowKit.Hid (lgB base ps L = false ∨ ¬ (ahead (ps.getD q zP) (ps.getD i zP) = true ∧ d.k.set.testBit q = false)) := Lib.hid (by
                  by_cases hc : ahead (ps.getD q zP) (ps.getD i zP) = true ∧ d.k.set.testBit q = false
                  · exact Or.inl (HSTOP.out fun i' hi h => by
                      obtain rfl : i' = i := by omega
                      exact put_none_free (bef_not (by rw [HLN.out]; exact hq) hc.1 hc.2))
                  · exact Or.inr hc)
                have HNX : RowKit.Hid (¬ (ahead (ps.getD q zP) (ps.getD i zP) = true ∧ d.k.set.testBit q = false) → ∀ q', q' < q + 1 → ahead (ps.getD q' zP) (ps.getD i zP) = true → d.k.set.testBit q' = true) := Lib.hid (fun hc q' hq' ha => by
                  rcases Nat.lt_succ_iff_lt_or_eq.1 hq' with h | rfl
                  · exact HQQ.out.2 q' h ha
                  · cases hb : d.k.set.testBit q'
                    · exact absurd ⟨ha, hb⟩ hc
                    · rfl)
                go_wp2_with fail
                rw [← hW6]
                clear hqs z0 z1 z2 z3 z4 z5 z6 z7 hr0 hr1 hr2 hr3 hr4 hr5 hr6 hr7 k0 k1 k2 k3 k4 k5 k6 k7 hbq hk6 hkw hW6
                rcases hah : ahead (ps.getD q zP) (ps.getD i zP) with _ | _
                · rw [hah] at HAH HNX
                  clear HAHB hah
                  first
                    | go_region_with (go_at_call 29
                                      refine (HAH.out _).mono ?_
                                      intro e w7 h7
                                      obtain ⟨rfl, hb7⟩ := h7
                                      have H7 := Lib.hid ((below_drew W6).trans hb7)
                                      clear hb7)
                    | fail
                  all_goals go_wp2_with fail
                  all_goals go_roundg (gk - 1)
                  all_goals first | omega | exact ⟨q + 1, by omega, rfl, HK6.out.trans (H7.out.mono HK6.out.size), HNX.out (fun h => by cases h.1)⟩
                · rcases hbt : d.k.set.testBit q with _ | _
                  · rw [hah, hbt] at HAHB
                    rw [hah] at HAH
                    rw [hbt] at HIQ
                    have hf : lgB base ps L = false := HAHB.out.elim id (fun h => absurd ⟨rfl, rfl⟩ h)
                    clear HAHB HNX hah hbt
                    first
                      | go_region_with (go_at_call 29
                                        refine (HAH.out _).mono ?_
                                        intro e w7 h7
                                        obtain ⟨rfl, hb7⟩ := h7
                                        have H7 := Lib.hid ((below_drew W6).trans hb7)
                                        have hin7 := HIQ.out w7 H7.out
                                        clear hb7)
                      | fail
                    all_goals go_wp2_with fail
                    all_goals exact HQ.out _ _ ⟨by rw [hf]; rfl, HLG.out.low.trans ((HK6.out.trans (H7.out.mono HK6.out.size)).mono HLG.out.low.size)⟩
                  · rw [hah] at HAH
                    rw [hbt] at HIQ
                    rw [hbt] at HNX
                    clear HAHB hah hbt
                    first
                      | go_region_with (go_at_call 29
                                        refine (HAH.out _).mono ?_
                                        intro e w7 h7
                                        obtain ⟨rfl, hb7⟩ := h7
                                        have H7 := Lib.hid ((below_drew W6).trans hb7)
                                        have hin7 := HIQ.out w7 H7.out
                                        clear hb7)
                      | fail
                    all_goals go_wp2_with fail
                    all_goals go_roundg (gk - 1)
                    all_goals first | omega | exact ⟨q + 1, by omega, rfl, HK6.out.trans (H7.out.mono HK6.out.size), HNX.out (fun h => by cases h.2)⟩
              · obtain rfl : q = n := by omega
                have hLG := HLG.out.grow HQQ.out.1
                have hfr : free ps d.k i := free_bef HBT.out (fun q' hq' ha => HQQ.out.2 q' (by rw [← HLN.out]; exact hq') ha)
                have c1 : wr.cell? ⟨w4.heap.size, i, none⟩ = some (.bool (d.k.set.testBit i)) := (blk_cell hLG.inn i).trans (boolsA_get _ _ _ (by rw [HLN.out]; exact hin'))
                have f1 : wr.frozen? ⟨w4.heap.size, i, none⟩ = false := blk_free hLG.inn i
                have kB : Keep (· = w4.heap.size) wr (wr.setCell ⟨w4.heap.size, i, none⟩ (.bool true)) := Keep.setCell (bs := (· = w4.heap.size)) (Keep.refl _ wr) (p := ⟨w4.heap.size, i, none⟩) (Or.inl rfl) _
                have hin7 : (wr.setCell ⟨w4.heap.size, i, none⟩ (.bool true)).heap[w4.heap.size]? = some (.cells (boolsA (fun q => if q = i then true else d.k.set.testBit q) ps.length) 4 (0, 0)) := by
                  have := blk_set hLG.inn i (.bool true)
                  rw [boolsA_set] at this
                  exact this
                have hbox7 := kB.same hLG.box hLG.ne
                have hsrc7 : SrcB (fun x => x = w2.heap.size ∨ x = w4.heap.size) (wr.setCell ⟨w4.heap.size, i, none⟩ (.bool true)) vo d.m.2 := hLG.src.keep kB (fun x _ hx => Or.inr hx)
                have hlow7 : Below w.heap.size w (wr.setCell ⟨w4.heap.size, i, none⟩ (.bool true)) := hLG.low.trans (kB.below hLG.low.size (fun x hx => by have := hLG.hi; omega))
                have HF := Lib.hid (And.intro hfr (And.intro hin7 (And.intro hbox7 (And.intro hsrc7 hlow7))))
                clear kB hin7 hsrc7 hlow7 hbox7 hLG hfr
                go_wp2_with fail
                generalize wr.setCell ⟨w4.heap.size, i, none⟩ (.bool true) = W7 at *
                clear c1 f1
                obtain ⟨-, -, hml⟩ := kok HG.out.1 HG.out.2.1 (by have := HG.out.2.2.1; rw [← HLN.out] at this; exact this) HLG.out.chain
                have hinv := (good_of HG.out.1 HG.out.2.1 (by have := HG.out.2.2.1; rw [← HLN.out] at this; exact this) HLG.out.chain).inv
                obtain ⟨ab', ao', he', odp, cdp, ordp, crdp, hps, q0, q1, q2, q3, q4, q5, q6, q7⟩ := (HP.out.keep HF.out.2.2.2.2).at i (by rw [HLN.out]; exact hin')
                cases he'
                have HST := Lib.hid (fun (W' : World) (kW : Below W7.heap.size W7 W') => (step_any (v := .agg (cs d.m.1 (.slice vo d.m.2.length vc))) ⟨vo, vc, rfl, srcb_grow HF.out.2.2.2.1 kW⟩ (by omega) hinv (ps.getD i zP) odp cdp ordp crdp (hps.keep kW)).mono fun e w' h => step_x h)
                have hpt := HPP.out
                unfold pcells cs at HST
                rw [hpt.1, hpt.2.1, hpt.2.2.1, hpt.2.2.2.1, hpt.2.2.2.2.1, hpt.2.2.2.2.2.1, hpt.2.2.2.2.2.2.1, hpt.2.2.2.2.2.2.2] at HST
                rw [hpt.1] at q0; rw [hpt.2.1] at q1; rw [hpt.2.2.1] at q2; rw [hpt.2.2.2.1] at q3; rw [hpt.2.2.2.2.1] at q4; rw [hpt.2.2.2.2.2.1] at q5; rw [hpt.2.2.2.2.2.2.1] at q6; rw [hpt.2.2.2.2.2.2.2] at q7
                have a0 : W7.cell? ⟨w2.heap.size, 0, none⟩ = some (.int .i64 d.m.1.base) := blk_cell HF.out.2.2.1 0
                have a1 : W7.cell? ⟨w2.heap.size, 1, none⟩ = some (.int .i64 d.m.1.first) := blk_cell HF.out.2.2.1 1
                have a2 : W7.cell? ⟨w2.heap.size, 2, none⟩ = some (.int .i64 d.m.1.durable) := blk_cell HF.out.2.2.1 2
                have a3 : W7.cell? ⟨w2.heap.size, 3, none⟩ = some (.int .i64 d.m.1.next) := blk_cell HF.out.2.2.1 3
                have a4 : W7.cell? ⟨w2.heap.size, 4, none⟩ = some (.int .i64 d.m.1.limit) := blk_cell HF.out.2.2.1 4
                have a5 : W7.cell? ⟨w2.heap.size, 5, none⟩ = some (.slice vo d.m.2.length vc) := blk_cell HF.out.2.2.1 5
                have a6 : W7.cell? ⟨w2.heap.size, 6, none⟩ = some (.bool d.m.1.failed) := blk_cell HF.out.2.2.1 6
                have a7 : W7.cell? ⟨w2.heap.size, 7, none⟩ = some (.bool d.m.1.closed) := blk_cell HF.out.2.2.1 7
                have hWd : Below W7.heap.size W7 W7.drew := ⟨rfl, rfl, rfl, Nat.le_refl _, fun _ _ => rfl⟩
                have HD1 := Lib.hid hWd
                have HBX := Lib.hid (fun (w8 : World) (k : Below W7.heap.size W7 w8) => (blk_keep k HF.out.2.2.1))
                have hO : ∀ m', stepF d.m (ps.getD i zP) = some m' → True := fun _ _ => trivial
                clear hO hps hinv hWd hpt
                rcases hst2 : stepF d.m (ps.getD i zP) with _ | m'
                · have hf : lgB base ps L = false := HSTOP.out fun i' hi h => by
                    obtain rfl : i' = i := by omega
                    exact put_none_step hst2
                  rw [hst2] at HST
                  clear hst2
                  go_region_with (go_at_call 30
                                  refine (HST.out _ HD1.out).mono ?_
                                  intro e w8 h
                                  obtain ⟨s', o', n', c', rfl, hg, hb8⟩ := h
                                  have HB8 := Lib.hid (And.intro (HD1.out.trans hb8) hg)
                                  have hz5 := HBX.out w8 (HD1.out.trans hb8)
                                  have z0 : w8.cell? ⟨w2.heap.size, 0, none⟩ = some (.int .i64 d.m.1.base) := blk_cell hz5 0
                                  have zf0 : w8.frozen? ⟨w2.heap.size, 0, none⟩ = false := blk_free hz5 0
                                  have z1 : w8.cell? ⟨w2.heap.size, 1, none⟩ = some (.int .i64 d.m.1.first) := blk_cell hz5 1
                                  have zf1 : w8.frozen? ⟨w2.heap.size, 1, none⟩ = false := blk_free hz5 1
                                  have z2 : w8.cell? ⟨w2.heap.size, 2, none⟩ = some (.int .i64 d.m.1.durable) := blk_cell hz5 2
                                  have zf2 : w8.frozen? ⟨w2.heap.size, 2, none⟩ = false := blk_free hz5 2
                                  have z3 : w8.cell? ⟨w2.heap.size, 3, none⟩ = some (.int .i64 d.m.1.next) := blk_cell hz5 3
                                  have zf3 : w8.frozen? ⟨w2.heap.size, 3, none⟩ = false := blk_free hz5 3
                                  have z4 : w8.cell? ⟨w2.heap.size, 4, none⟩ = some (.int .i64 d.m.1.limit) := blk_cell hz5 4
                                  have zf4 : w8.frozen? ⟨w2.heap.size, 4, none⟩ = false := blk_free hz5 4
                                  have z5 : w8.cell? ⟨w2.heap.size, 5, none⟩ = some (.slice vo d.m.2.length vc) := blk_cell hz5 5
                                  have zf5 : w8.frozen? ⟨w2.heap.size, 5, none⟩ = false := blk_free hz5 5
                                  have z6 : w8.cell? ⟨w2.heap.size, 6, none⟩ = some (.bool d.m.1.failed) := blk_cell hz5 6
                                  have zf6 : w8.frozen? ⟨w2.heap.size, 6, none⟩ = false := blk_free hz5 6
                                  have z7 : w8.cell? ⟨w2.heap.size, 7, none⟩ = some (.bool d.m.1.closed) := blk_cell hz5 7
                                  have zf7 : w8.frozen? ⟨w2.heap.size, 7, none⟩ = false := blk_free hz5 7
                                  clear hg hb8 hz5)
                  all_goals go_wp2_with fail
                  all_goals
                    refine HQ.out _ _ ⟨by rw [hf]; rfl, ?_⟩
                    have kk := setC_keep (b := w2.heap.size) [.int .i64 s'.base, .int .i64 s'.first, .int .i64 s'.durable, .int .i64 s'.next, .int .i64 s'.limit, .slice o' n' c', .bool s'.failed, .bool s'.closed] 0 w8
                    have hlo := HF.out.2.2.2.2.trans (HB8.out.1.mono HF.out.2.2.2.2.size)
                    exact hlo.trans (kk.below hlo.size (fun x hx => by have := HLG.out.hm; omega))
                · have HSM := Lib.hid hst2
                  rw [hst2] at HST
                  clear hst2
                  go_region_with (go_at_call 30
                                  refine (HST.out _ HD1.out).mono ?_
                                  intro e w8 h
                                  obtain ⟨s', o', n', c', rfl, hg, hb8⟩ := h
                                  have HB8 := Lib.hid (And.intro (HD1.out.trans hb8) hg)
                                  have hz5 := HBX.out w8 (HD1.out.trans hb8)
                                  have z0 : w8.cell? ⟨w2.heap.size, 0, none⟩ = some (.int .i64 d.m.1.base) := blk_cell hz5 0
                                  have zf0 : w8.frozen? ⟨w2.heap.size, 0, none⟩ = false := blk_free hz5 0
                                  have z1 : w8.cell? ⟨w2.heap.size, 1, none⟩ = some (.int .i64 d.m.1.first) := blk_cell hz5 1
                                  have zf1 : w8.frozen? ⟨w2.heap.size, 1, none⟩ = false := blk_free hz5 1
                                  have z2 : w8.cell? ⟨w2.heap.size, 2, none⟩ = some (.int .i64 d.m.1.durable) := blk_cell hz5 2
                                  have zf2 : w8.frozen? ⟨w2.heap.size, 2, none⟩ = false := blk_free hz5 2
                                  have z3 : w8.cell? ⟨w2.heap.size, 3, none⟩ = some (.int .i64 d.m.1.next) := blk_cell hz5 3
                                  have zf3 : w8.frozen? ⟨w2.heap.size, 3, none⟩ = false := blk_free hz5 3
                                  have z4 : w8.cell? ⟨w2.heap.size, 4, none⟩ = some (.int .i64 d.m.1.limit) := blk_cell hz5 4
                                  have zf4 : w8.frozen? ⟨w2.heap.size, 4, none⟩ = false := blk_free hz5 4
                                  have z5 : w8.cell? ⟨w2.heap.size, 5, none⟩ = some (.slice vo d.m.2.length vc) := blk_cell hz5 5
                                  have zf5 : w8.frozen? ⟨w2.heap.size, 5, none⟩ = false := blk_free hz5 5
                                  have z6 : w8.cell? ⟨w2.heap.size, 6, none⟩ = some (.bool d.m.1.failed) := blk_cell hz5 6
                                  have zf6 : w8.frozen? ⟨w2.heap.size, 6, none⟩ = false := blk_free hz5 6
                                  have z7 : w8.cell? ⟨w2.heap.size, 7, none⟩ = some (.bool d.m.1.closed) := blk_cell hz5 7
                                  have zf7 : w8.frozen? ⟨w2.heap.size, 7, none⟩ = false := blk_free hz5 7
                                  clear hg hb8 hz5)
                  all_goals go_wp2_with fail
                  all_goals go_roundg (gO - 1)
                  all_goals first | omega | skip
                  all_goals
                    obtain ⟨m1, m2⟩ := m'
                    obtain ⟨e1, e2, e3⟩ := HB8.out.2 (m1, m2) rfl
                    simp only at e1 e2 e3
                    obtain rfl : m1 = s' := e1.symm
                    obtain rfl : n' = m2.length := e2
                    have hbx := HBX.out w8 HB8.out.1
                    unfold cs at hbx
                    have h7 := setC_at [.int .i64 m1.base, .int .i64 m1.first, .int .i64 m1.durable, .int .i64 m1.next, .int .i64 m1.limit, .slice o' m2.length c', .bool m1.failed, .bool m1.closed] [] [.int .i64 d.m.1.base, .int .i64 d.m.1.first, .int .i64 d.m.1.durable, .int .i64 d.m.1.next, .int .i64 d.m.1.limit, .slice vo d.m.2.length vc, .bool d.m.1.failed, .bool d.m.1.closed] w8 rfl hbx
                    have kk := setC_keep (b := w2.heap.size) [.int .i64 m1.base, .int .i64 m1.first, .int .i64 m1.durable, .int .i64 m1.next, .int .i64 m1.limit, .slice o' m2.length c', .bool m1.failed, .bool m1.closed] 0 w8
                    have hlo := HF.out.2.2.2.2.trans (HB8.out.1.mono HF.out.2.2.2.2.size)
                    have hlo2 := hlo.trans (kk.below hlo.size (fun x hx => by have := HLG.out.hm; omega))
                    have hin8 := kk.same (blk_keep HB8.out.1 HF.out.2.1) (fun e => HLG.out.ne e.symm)
                    have hsr8 := (e3.keep kk (fun x _ hx => by have := lt_of_block HF.out.2.2.1; show x < W7.heap.size; omega)).sub (bad2 := fun x => x = w2.heap.size ∨ x = w4.heap.size) (fun x _ hx => by have h1 := lt_of_block HF.out.2.2.1; have h2 := lt_of_block HF.out.2.1; show x < W7.drew.heap.size; rw [show W7.drew.heap.size = W7.heap.size from rfl]; omega)
                    obtain ⟨d', hd'⟩ := HLG.out.next (by rw [HLN.out]; exact hin') HX.out (by rw [HLL.out]; exact hj) HF.out.1 HSM.out hlo2 h7 hin8 hsr8
                    exact ⟨j + 1, by omega, rfl, Lib.hid ⟨_, _, _, _, hd'⟩⟩
          · rw [hbit] at x1
            have hnf : ¬ free ps d.k i := fun hfr => by have := hfr.1; rw [hbit] at this; cases this
            have hf := HSTOP.out (fun i' hi h => by
              obtain rfl : i' = i := by omega
              exact put_none_free hnf)
            clear hnf
            clear hbit
            go_wp2_with fail
            exact HQ.out _ _ ⟨by rw [hf]; rfl, HLG.out.low⟩
    · obtain rfl : j = nl := by omega
      go_wp2_with fail
      have HLE := Lib.hid (show L = nats l from by have := HLG.out.take; rw [← HLL.out, List.take_length] at this; exact this)
      obtain ⟨W, hW⟩ : ∃ W, W = wr := ⟨_, rfl⟩
      subst hW
      go_loopg [90] n (fun gq s90 wx => ∃ q : Nat, gq + q = n ∧ s90 = .int .i64 (q : Int) ∧ Hid (Below W.heap.size W wx ∧ ∀ q', q' < q → (ps.getD q' zP).en ≠ 0 → d.k.set.testBit q' = true))
      case atStart => exact ⟨0, by omega, rfl, Below.refl _ _, fun q' hq' => absurd hq' (by omega)⟩
      case round =>
        obtain ⟨q, hgq, rfl, HQQ⟩ := hrel
        by_cases hq : q < n
        · obtain ⟨r0, hr0⟩ : ∃ x, (ps.getD q zP).kind = x := ⟨_, rfl⟩
          obtain ⟨r1, hr1⟩ : ∃ x, (ps.getD q zP).cl = x := ⟨_, rfl⟩
          obtain ⟨r2, hr2⟩ : ∃ x, (ps.getD q zP).D.length = x := ⟨_, rfl⟩
          obtain ⟨r3, hr3⟩ : ∃ x, (ps.getD q zP).err = x := ⟨_, rfl⟩
          obtain ⟨r4, hr4⟩ : ∃ x, (ps.getD q zP).lsn = x := ⟨_, rfl⟩
          obtain ⟨r5, hr5⟩ : ∃ x, (ps.getD q zP).R.length = x := ⟨_, rfl⟩
          obtain ⟨r6, hr6⟩ : ∃ x, (ps.getD q zP).beg = x := ⟨_, rfl⟩
          obtain ⟨r7, hr7⟩ : ∃ x, (ps.getD q zP).en = x := ⟨_, rfl⟩
          obtain ⟨qab, qao, rfl, odr, cdr, ordr, crdr, hqs, z0, z1, z2, z3, z4, z5, z6, z7⟩ := (HP.out.keep (HLG.out.low.trans (HQQ.out.1.mono HLG.out.low.size))).at q (by rw [HLN.out]; exact hq)
          rw [hr0] at z0; rw [hr1] at z1; rw [hr2] at z2; rw [hr3] at z3; rw [hr4] at z4; rw [hr5] at z5; rw [hr6] at z6; rw [hr7] at z7
          have hk6 : Below W.heap.size W (wr.alloc (.cells #[.int .i64 r0, .int .i64 r1, .slice odr r2 cdr, .int .i64 r3, .int .i64 r4, .slice ordr r5 crdr, .int .i64 r6, .int .i64 r7] 50)) := HQQ.out.1.alloc HQQ.out.1.size _
          have x1 : (wr.alloc (.cells #[.int .i64 r0, .int .i64 r1, .slice odr r2 cdr, .int .i64 r3, .int .i64 r4, .slice ordr r5 crdr, .int .i64 r6, .int .i64 r7] 50)).cell? ⟨w4.heap.size, q, none⟩ = some (.bool (d.k.set.testBit q)) := (blk_cell (HLG.out.grow hk6).inn q).trans (boolsA_get _ _ _ (by rw [HLN.out]; exact hq))
          have HK6 := Lib.hid (And.intro hk6 hr7)
          clear hqs hk6 hr0 hr1 hr2 hr3 hr4 hr5 hr6 hr7
          by_cases he : r7 = 0
          · have e0 : (r7 != 0) = false := by simp [he]
            have HE := Lib.hid he
            clear he
            go_wp2_with fail
            go_roundg (gk - 1)
            all_goals first | omega | exact ⟨q + 1, by omega, rfl, HK6.out.1, fun q' hq' hne => by
              rcases Nat.lt_succ_iff_lt_or_eq.1 hq' with h | rfl
              · exact HQQ.out.2 q' h hne
              · exact absurd (HK6.out.2.trans HE.out) hne⟩
          · have e0 : (r7 != 0) = true := by simpa using he
            have HE := Lib.hid he
            clear he
            rcases hbt : d.k.set.testBit q with _ | _
            · have hf : lgB base ps L = false := by
                rw [Bool.eq_false_iff, HLE.out]
                intro h
                have hd := lgDone_iff.1 ((lg_end HLG.out.chain).1 h) q (by rw [HLN.out]; exact hq) (by rw [HK6.out.2]; exact HE.out)
                rw [hbt] at hd; cases hd
              rw [hbt] at x1
              clear hbt
              go_wp2_with fail
              exact HQ.out _ _ ⟨by rw [hf]; rfl, HLG.out.low.trans (HK6.out.1.mono HLG.out.low.size)⟩
            · rw [hbt] at x1
              have HBT := Lib.hid hbt
              clear hbt
              go_wp2_with fail
              go_roundg (gk - 1)
              all_goals first | omega | exact ⟨q + 1, by omega, rfl, HK6.out.1, fun q' hq' hne => by
                rcases Nat.lt_succ_iff_lt_or_eq.1 hq' with h | rfl
                · exact HQQ.out.2 q' h hne
                · exact HBT.out⟩
        · obtain rfl : q = n := by omega
          have ht : lgB base ps L = true := by
            rw [HLE.out]
            exact (lg_end HLG.out.chain).2 (lgDone_iff.2 fun i hi he => HQQ.out.2 i (by rw [← HLN.out]; exact hi) he)
          go_wp2_with fail
          exact HQ.out _ _ ⟨by rw [ht]; rfl, HLG.out.low.trans (HQQ.out.1.mono HLG.out.low.size)⟩
end Go.Proofs.Ytjiehgfamlidnaa.Lin
