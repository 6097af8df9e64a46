/- Contract of series.Unpack. By an AI agent. -/
import Derived.Test.YtjlnicjnjnkdoaaDoorSerH
import Derived.Deep.Onto
namespace Go.Proofs.YtjlnicjnjnkdoaaDoor
open Go.ChangeShapes Go.WideShapes Go.ChangeAt Go.RowKit
open Bt
set_option linter.unusedVariables false

theorem rv_ok (B : List Nat) : ∀ g n, g ≤ 10 → (rv B g n).2.2 = 0 → 1 ≤ (rv B g n).2.1 ∧ (rv B g n).2.1 ≤ B.length ∧ (rv B g n).2.1 ≤ 10 := by
  intro g
  induction g with
  | zero => intro n _ h; simp [rv] at h
  | succ g ih =>
    intro n hg
    unfold rv
    split
    · intro h; simp at h
    split
    · intro h; simp at h
    split
    · exact fun h => ih _ (by omega) h
    split
    · intro h; simp at h
    · intro _; simp only; omega

/-- The numbers that are read: what they are, where the reading stands, the errno. -/
def unpGo (B : List Nat) : Nat → Nat → Nat → Nat → List Nat → List Nat × Nat × Nat
  | 0, _, a, _, acc => (acc, a, 0)
  | g + 1, i, a, last, acc =>
    if (num B a i last).2.1 = 0 then unpGo B g (i + 1) (a + (num B a i last).2.2) (num B a i last).1 (acc ++ [(num B a i last).1])
    else ([], 0, (num B a i last).2.1)

/-- What is unpacked: the numbers' bits, how many bytes, the errno. -/
def unp (B : List Nat) : List Nat × Nat × Nat :=
  let v := rv B 10 0
  if v.2.2 = 0 then
    if 4096 < v.1 then ([], 0, 9)
    else
      let r := unpGo (B.drop v.2.1) v.1 0 0 0 []
      if r.2.2 = 0 then
        let q := rst (B.drop v.2.1) r.2.1
        if q.2 = 0 then (r.1, v.2.1 + q.1, 0) else ([], 0, q.2)
      else ([], 0, r.2.2)
  else ([], 0, v.2.2)

theorem keep_grown {b : Nat} {w w' : World} (h : Keep (· = b) w w') : w.grownBy w' (some b) :=
  ⟨h.os, h.tape, h.output, h.size, fun k hk hn => h.block k hk fun e => hn (by rw [e])⟩

theorem keep_row {b base size n : Nat} {e : TypeId} {v : Value} {xs : List Value} {w w' : World} (h : w.ownsRow base e size v n xs) (hk : Keep (· = b) w w') (hb : b < base) : w'.ownsRow base e size v n xs := by
  refine h.kept (keep_grown hk) ?_
  cases hv : v.ownBlock with
  | none => exact Or.inl rfl
  | some k => exact Or.inr fun he => by have := (h.lt k hv).1; cases he; omega

theorem RS.below {w w' : World} {b : Nat} {o : Option Addr} {cap : Nat} {B : List Nat} {at_ : Nat} (h : RS w b o cap B at_) (k : Below (b + 1) w w') : RS w' b o cap B at_ := by
  refine ⟨?_, fun i hi => ?_, h.apart⟩
  · rw [← h.cells]; exact k.block b (by omega)
  · obtain ⟨ad, ho, hcell⟩ := h.bytes i hi
    refine ⟨ad, ho, ?_⟩
    rw [← hcell]
    exact k.cell (by have := addr_add_block ad i; have := h.apart ad ho; omega)

theorem addr_add_add (a : Addr) (i j : Nat) (hi : 0 < i) : (a.add i).add j = a.add (i + j) := by
  unfold Addr.add
  by_cases hj : j = 0
  · subst hj; simp
  · have h1 : i ≠ 0 := by omega
    have h2 : i + j ≠ 0 := by omega
    simp only [h1, h2, hj, if_false]
    congr 1
    omega

/-- A new reader of what lies behind the first bytes. -/
theorem rs_new {w : World} {ad : Addr} {B : List Nat} {size c : Nat} (o' : Option Addr) (h : Bys w (some ad) B) (hd : (B.drop size).length = B.length - size) (hg : ∀ i, (B.drop size).getD i 0 = B.getD (size + i) 0)
    (hs : 0 < size) (ho : size < B.length → o' = some (ad.add size)) (hb : ∀ a, o' = some a → a.block = ad.block) (hz : ad.block < w.heap.size) :
    RS (w.alloc (.cells #[.slice o' (B.length - size) c, .int .i64 0] 63)) w.heap.size o' c (B.drop size) 0 := by
  refine ⟨?_, fun i hi => ?_, fun a ha => by rw [hb a ha]; exact hz⟩
  · rw [hd]; exact blk_new _ _
  · rw [hd] at hi
    obtain ⟨a', ha', hc⟩ := h (size + i) (by omega)
    cases ha'
    refine ⟨_, ho (by omega), ?_⟩
    rw [addr_add_add _ _ _ hs, hg i, ← hc]
    exact World.cell?_of_block (w := w) (Below.heap_alloc _ _ _ (cell_in hc))

def Unpacked (base : Nat) (us : List Nat) (n err : Nat) (w : World) (e : Ending) (w' : World) : Prop :=
  ∃ v, e = .returned (.tuple #[v, .int .i64 (n : Nat), .int .i64 (err : Nat)]) ∧ w'.ownsRow base 26 1 v us.length (f64s us) ∧ Below base w w'

set_option maxRecDepth 100000 in
set_option maxHeartbeats 2000000 in
theorem unpack_any (o : Option Addr) (cap : Nat) (B : List Nat) (w : World) (hF : Bys w o B) (hB : B.length ≤ 1000000000000) (hv : ∀ i, B.getD i 0 < 256) (hcap : B.length ≤ cap) (hc2 : cap ≤ maxLen) :
    Calls Tryd.prog 13 #[.slice o B.length cap] w (Unpacked w.heap.size (unp B).1 (unp B).2.1 (unp B).2.2 w) := by
  unfold maxLen at hc2
  have HF := Lib.hid hF
  have HV := Lib.hid hv
  have V0 := Lib.hid (readVarint_any o cap B w hF hB hv)
  have hrok := rv_ok B 10 0 (by omega)
  clear hF hv
  generalize hu : unp B = u
  unfold unp at hu
  simp only at hu
  generalize rv B 10 0 = v at *
  obtain ⟨cnt, size, err⟩ := v
  simp only at hu hrok V0
  by_cases h1 : err = 0
  · rw [if_pos h1] at hu
    obtain ⟨hs1, hs2, hs3⟩ := hrok h1
    subst h1
    by_cases h2 : 4096 < cnt
    · rw [if_pos h2] at hu
      subst hu
      go_enter Tryd.func13, Tryd.ntmps13
      go_wp2_with (go_at_call 29; refine V0.out.mono ?_; rintro e w' ⟨rfl, rfl⟩)
      go_ret3
      exact ⟨_, rfl, nil_row _ _ _, Below.refl _ _⟩
    · rw [if_neg h2] at hu
      have HU := Lib.hid hu
      clear hu
      obtain ⟨ad, rfl, hc0⟩ := HF.out 0 (by omega)
      have hadw : ad.block < w.heap.size := by have := cell_in hc0; simpa [Addr.add] using this
      clear hc0
      have hdl : (B.drop size).length = B.length - size := List.length_drop
      have hdg : ∀ i, (B.drop size).getD i 0 = B.getD (size + i) 0 := fun i => by rw [List.getD_eq_getElem?_getD, List.getElem?_drop, ← List.getD_eq_getElem?_getD]
      have HD := Lib.hid (And.intro hdl hdg)
      clear hdl hdg
      go_enter Tryd.func13, Tryd.ntmps13
      go_upto_region 6 with (go_at_call 29; refine V0.out.mono ?_; rintro e w' ⟨rfl, rfl⟩)
      go_cut [8] (fun s8 wx => ∃ (b : Nat) (o' : Option Addr) (cap' : Nat), s8 = .pointer (some ⟨b, 0, none⟩) ∧ Hid (RS wx b o' cap' (B.drop size) 0 ∧ Below w.heap.size w wx ∧ w.heap.size ≤ b))
      case first =>
        by_cases hcs : cap = size
        · go_wp2_with fail
          go_meet
          exact ⟨w.heap.size, _, _, rfl, rs_new (some ad) HF.out HD.out.1 HD.out.2 (by omega) (fun h => absurd h (by omega)) (fun a ha => by cases ha; rfl) hadw, (Below.refl _ w).alloc (Nat.le_refl _) _, Nat.le_refl _⟩
        · go_wp2_with fail
          go_meet
          exact ⟨w.heap.size, _, _, rfl, rs_new (some (ad.add size)) HF.out HD.out.1 HD.out.2 (by omega) (fun h => rfl) (fun a ha => by cases ha; exact addr_add_block _ _) hadw, (Below.refl _ w).alloc (Nat.le_refl _) _, Nat.le_refl _⟩
      case rest =>
        obtain ⟨b, o', cap', rfl, HC⟩ := hcut
        obtain ⟨i0, hi, hz0, hz1, hz2⟩ := info_parts info_f64
        have HVD : Hid (∀ i, (B.drop size).getD i 0 < 256) := Lib.hid (fun i => by rw [HD.out.2]; exact HV.out _)
        have hdl : (B.drop size).length ≤ 1000000000000 := by rw [HD.out.1]; omega
        generalize B.drop size = D at *
        clear HF HV V0 HD
        generalize hres : unpGo D cnt 0 0 0 [] = res at *
        have HRES := Lib.hid hres
        clear hres
        go_wp2_with fail
        go_loopg [7, 9, 10, 33] cnt (fun g ee xs last i wr => ee = .int .i64 0 ∧ ∃ k l : Nat, g + k = cnt ∧ i = .int .i64 (k : Int) ∧ last = .int .u64 (l : Int) ∧ Hid (∃ (a : Nat) (acc : List Nat), l < 18446744073709551616 ∧ a ≤ 8 * D.length ∧ unpGo D g k a l acc = res ∧ RS wr b o' cap' D a ∧ Below w.heap.size w wr ∧ wr.ownsRow (b + 1) 26 1 xs k (f64s acc) ∧ acc.length = k))
        case atStart => exact ⟨rfl, 0, 0, by omega, rfl, rfl, 0, [], by omega, by omega, HRES.out, HC.out.1, HC.out.2.1, nil_row _ _ _, rfl⟩
        case round =>
          obtain ⟨rfl, k, l, hgk, rfl, rfl, HK⟩ := hrel
          obtain ⟨a, acc, hl, ha, hgo, hrs, hbl, hrow, hacc⟩ := HK.out
          clear HK
          cases gk with
          | zero =>
            have hkc : k = cnt := by omega
            subst hkc
            unfold unpGo at hgo
            subst hgo
            have R0 := Lib.hid (rest_any b o' cap' D a wr hrs hdl HVD.out ha)
            have HROW := Lib.hid (And.intro hrow hacc)
            have HBL := Lib.hid hbl
            have hu := HU.out
            simp only [if_true] at hu
            clear HRES HU hrs hbl hrow hacc
            have hq1 : (rst D a).1 ≤ D.length := by unfold rst; split <;> (simp only; omega)
            clear hl ha
            generalize rst D a = q at *
            have hfin : ∀ w1, Keep (· = b) wr w1 → w1.ownsRow w.heap.size 26 1 u9 acc.length (f64s acc) ∧ Below w.heap.size w w1 := by
              intro w1 hk1
              refine ⟨?_, HBL.out.trans (hk1.below HBL.out.size (fun x hx => by rw [hx]; exact HC.out.2.2))⟩
              have h := World.ownsRow.mono (keep_row HROW.out.1 hk1 (by omega)) (base' := w.heap.size) (by have := HC.out.2.2; omega)
              rw [← HROW.out.2] at h
              exact h
            have HFIN := Lib.hid hfin
            have hqs : q.1 < 2000000000000 := by omega
            clear hfin
            by_cases h5 : q.2 = 0
            · rw [if_pos h5] at hu
              subst hu
              rw [h5] at R0
              clear h5
              go_wp2_with fail
              refine R0.out.mono ?_
              rintro e w1 ⟨rfl, hk1⟩
              have H1 := Lib.hid hk1
              clear hk1
              go_wp2_with fail
              go_ret3
              exact ⟨_, rfl, HFIN.out _ H1.out⟩
            · rw [if_neg h5] at hu
              subst hu
              have hqn : ((q.2 : Int) == 0) = false := by rw [beq_eq_false_iff_ne]; omega
              clear h5
              go_wp2_with fail
              refine R0.out.mono ?_
              rintro e w1 ⟨rfl, hk1⟩
              have H1 := Lib.hid hk1
              clear hk1
              go_wp2_with fail
              go_ret3
              exact ⟨_, rfl, nil_row _ _ _, (HFIN.out _ H1.out).2⟩
          | succ g =>
            unfold unpGo at hgo
            have hnum := num_ok D a k l ha hl
            have N0 := Lib.hid (number_any b o' cap' D a k l wr hrs hdl HVD.out ha hl (by omega))
            have HA := Lib.hid (And.intro hrow (And.intro hacc (And.intro hbl (lt_of_block hrs.cells))))
            have hkc : k < cnt := by omega
            clear hrs hrow hacc hbl ha hl
            generalize num D a k l = r at *
            by_cases h6 : r.2.1 = 0
            · rw [if_pos h6] at hgo
              rw [h6] at N0
              have HGO := Lib.hid (And.intro hgo hnum)
              have e1 := ext_from r.1
              clear hgo hnum h6
              go_wp2_with fail
              refine N0.out.mono ?_
              rintro e w1 ⟨rfl, hr1, hk1⟩
              have hz1' : b < w1.heap.size := lt_of_block hr1.cells
              have H1 := Lib.hid (And.intro hr1 (And.intro (keep_row HA.out.1 hk1 (by omega)) (HA.out.2.2.1.trans (hk1.below HA.out.2.2.1.size (fun x hx => by rw [hx]; exact HC.out.2.2)))))
              clear hr1 hk1
              go_wp2_with (at_builtin; go_must (refine wpList_append_one _ rfl (.tmp 46) (.tmp 49) 24 rfl (b + 1) 26 i0 (.float .f64 0) 8 Tryd.underlying24 hi hz0 hz1 hz2 rfl _ k _ rfl (H1.out.2.1.alloc _) ⟨w1.heap.size, 0, none⟩ 1 (.float .f64 r.1) rfl ?_ rfl ?_ ?_ ?_ ?_))
              · exact cell_one_new _ _ _ 0 _ rfl
              · unfold maxLen; omega
              · omega
              · have : (w1.alloc (.cells #[.float .f64 r.1] 26)).heap.size = w1.heap.size + 1 := by simp
                omega
              · intro g2 cap2 w2 hown hgr hblk hg2
                have hbl2 : Below (b + 1) w1 w2 := ((Below.refl (b + 1) w1).alloc hz1' _).grown hgr (Nat.le_trans hz1' (by simp)) (fun k hk => (H1.out.2.1.lt k hk).1)
                have hbl3 : Below w.heap.size w w2 := H1.out.2.2.trans (Below.mono hbl2 (by have := HC.out.2.2; omega))
                have HO := Lib.hid (And.intro hown (And.intro (RS.below H1.out.1 hbl2) hbl3))
                clear hown hgr hblk hbl2 hbl3
                go_wp2_with fail
                go_roundg g
                case measure => omega
                case rel =>
                  refine ⟨rfl, k + 1, r.1, by omega, rfl, rfl, a + r.2.2, acc ++ [r.1], HGO.out.2.1, HGO.out.2.2, HGO.out.1, HO.out.2.1, HO.out.2.2, ?_, by rw [List.length_append, HA.out.2.1]; rfl⟩
                  simpa [f64s] using HO.out.1
            · rw [if_neg h6] at hgo
              subst hgo
              have hrn : ((r.2.1 : Int) == 0) = false := by rw [beq_eq_false_iff_ne]; omega
              have hu := HU.out
              simp only [h6, if_false] at hu
              subst hu
              clear h6 hnum
              go_wp2_with fail
              refine N0.out.mono ?_
              rintro e w1 ⟨rfl, hr1, hk1⟩
              have H1 := Lib.hid (And.intro hr1 hk1)
              clear hr1 hk1
              go_wp2_with fail
              go_ret3
              exact ⟨_, rfl, nil_row _ _ _, HA.out.2.2.1.trans (H1.out.2.below HA.out.2.2.1.size (fun x hx => by rw [hx]; exact HC.out.2.2))⟩
  · rw [if_neg h1] at hu
    subst hu
    have hen : ((err : Int) == 0) = false := by rw [beq_eq_false_iff_ne]; omega
    go_enter Tryd.func13, Tryd.ntmps13
    go_wp2_with (go_at_call 29; refine V0.out.mono ?_; rintro e w' ⟨rfl, rfl⟩)
    go_ret3
    exact ⟨_, rfl, nil_row _ _ _, Below.refl _ _⟩
end Go.Proofs.YtjlnicjnjnkdoaaDoor
