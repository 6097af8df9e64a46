/- The document's own answer for layer 5: Unpack: contract. By an AI agent. -/
import Derived.Test.YtafglefiodanbaaDoorSerV
namespace Go.Proofs.YtafglefiodanbaaDoor
open Go.ChangeShapes Go.WideShapes Go.ChangeAt Go.RowKit
open Bt
set_option linter.unusedVariables false

theorem take_int (b : Nat) (o : Option Addr) (cap : Nat) (B : List Nat) (at_ : Nat) {n : Int} (N : Nat) (en : n = N) (w : World) (h : RB w b o cap B at_) (hB : B.length ≤ 1000000000000) (hv : ∀ i, B.getD i 0 < 256) (ha : at_ + N ≤ 8 * B.length) (hn : N ≤ 64) :
    Calls Tryd.prog 25 #[.pointer (some ⟨b, 0, none⟩), .int .i64 n] w fun e w' => e = .returned (.tuple #[.int .u64 (getB B at_ N : Nat), .bool true]) ∧ RB w' b o cap B (at_ + N) ∧ Keep (· = b) w w' := by
  subst en
  exact take_any b o cap B at_ N w h hB hv ha hn

/-- A new reader of what lies behind the first bytes. -/
theorem rb_new {w : World} {ad : Addr} {B : List Nat} {size c : Nat} (o' : Option Addr) (h : Bys w (some ad) B) (hd : (B.drop size).length = B.length - size) (hg : ∀ i, (B.drop size).getD i 0 = B.getD (size + i) 0)
    (hs : 0 < size) (ho : size < B.length → o' = some (ad.add size)) (hb : ∀ a, o' = some a → a.block = ad.block) (hz : ad.block < w.heap.size) :
    RB (w.alloc (.cells #[.slice o' (B.length - size) c, .int .i64 0] 61)) w.heap.size o' c (B.drop size) 0 := by
  refine ⟨?_, fun i hi => ?_, fun a ha => by rw [hb a ha]; exact hz⟩
  · rw [hd]; exact blk_new _ _
  · rw [hd] at hi
    obtain ⟨a', ha', hc⟩ := h (size + i) (by omega)
    cases ha'
    refine ⟨_, ho (by omega), ?_⟩
    rw [addr_add_add _ _ _ hs, hg i, ← hc]
    exact World.cell?_of_block (w := w) (Below.heap_alloc _ _ _ (cell_in hc))

set_option maxRecDepth 100000 in
set_option maxHeartbeats 2000000 in
theorem refUnpack_any (o : Option Addr) (cap : Nat) (B : List Nat) (w : World) (hF : Bys w o B) (hB : B.length ≤ 1000000000000) (hv : ∀ i, B.getD i 0 < 256) (hcap : B.length ≤ cap) (hc2 : cap ≤ maxLen) :
    Calls Tryd.prog 12 #[.slice o B.length cap] w (Unpacked w.heap.size (unp B).1 (unp B).2.1 (unp B).2.2 w) := by
  unfold maxLen at hc2
  have HF := Lib.hid hF
  have HV := Lib.hid hv
  have V0 := Lib.hid (refVarint_any o cap B w hF hB hv)
  have hrok := rv_ok B 10 0 (by omega)
  clear hF hv
  generalize hu : unp B = u
  unfold unp at hu
  simp only at hu
  generalize rv B 10 0 = v at *
  obtain ⟨cnt, size, err⟩ := v
  simp only at hu hrok V0
  by_cases h1 : err = 0
  · rw [if_pos h1] at hu
    obtain ⟨hs1, hs2, hs3⟩ := hrok h1
    subst h1
    by_cases h2 : 4096 < cnt
    · rw [if_pos h2] at hu
      subst hu
      go_enter Tryd.func12, Tryd.ntmps12
      go_wp2_with (go_at_call 24; refine V0.out.mono ?_; rintro e w' ⟨rfl, rfl⟩)
      go_ret3
      exact ⟨_, rfl, nil_row _ _ _, Below.refl _ _⟩
    · rw [if_neg h2] at hu
      have HU := Lib.hid hu
      clear hu
      obtain ⟨ad, rfl, hc0⟩ := HF.out 0 (by omega)
      have hadw : ad.block < w.heap.size := by have := cell_in hc0; simpa [Addr.add] using this
      clear hc0
      have hdl : (B.drop size).length = B.length - size := List.length_drop
      have hdg : ∀ i, (B.drop size).getD i 0 = B.getD (size + i) 0 := fun i => by rw [List.getD_eq_getElem?_getD, List.getElem?_drop, ← List.getD_eq_getElem?_getD]
      have HD := Lib.hid (And.intro hdl hdg)
      clear hdl hdg
      go_enter Tryd.func12, Tryd.ntmps12
      go_upto_region 6 with (go_at_call 24; refine V0.out.mono ?_; rintro e w' ⟨rfl, rfl⟩)
      go_cut [8] (fun s8 wx => ∃ (b : Nat) (o' : Option Addr) (cap' : Nat), s8 = .pointer (some ⟨b, 0, none⟩) ∧ Hid (RB wx b o' cap' (B.drop size) 0 ∧ Below w.heap.size w wx ∧ w.heap.size ≤ b))
      case first =>
        by_cases hcs : cap = size
        · go_wp2_with fail
          go_meet
          exact ⟨w.heap.size, _, _, rfl, rb_new (some ad) HF.out HD.out.1 HD.out.2 (by omega) (fun h => absurd h (by omega)) (fun a ha => by cases ha; rfl) hadw, (Below.refl _ w).alloc (Nat.le_refl _) _, Nat.le_refl _⟩
        · go_wp2_with fail
          go_meet
          exact ⟨w.heap.size, _, _, rfl, rb_new (some (ad.add size)) HF.out HD.out.1 HD.out.2 (by omega) (fun h => rfl) (fun a ha => by cases ha; exact addr_add_block _ _) hadw, (Below.refl _ w).alloc (Nat.le_refl _) _, Nat.le_refl _⟩
      case rest =>
        obtain ⟨b, o', cap', rfl, HC⟩ := hcut
        obtain ⟨i0, hi, hz0, hz1, hz2⟩ := info_parts info_f64
        have HVD : Hid (∀ i, (B.drop size).getD i 0 < 256) := Lib.hid (fun i => by rw [HD.out.2]; exact HV.out _)
        have hdl : (B.drop size).length ≤ 1000000000000 := by rw [HD.out.1]; omega
        generalize B.drop size = D at *
        clear HF HV V0 HD
        generalize hres : unpGo D cnt 0 0 0 [] = res at *
        have HRES := Lib.hid hres
        clear hres
        go_wp2_with fail
        go_loopg [7, 9, 10, 11] cnt (fun g ee xs last i wr => ee = .int .i64 0 ∧ ∃ k l : Nat, g + k = cnt ∧ i = .int .i64 (k : Int) ∧ last = .int .u64 (l : Int) ∧ Hid (∃ (a : Nat) (acc : List Nat), l < 18446744073709551616 ∧ (k = 0 → l = 0) ∧ a ≤ 8 * D.length ∧ unpGo D g k a l acc = res ∧ RB wr b o' cap' D a ∧ Below w.heap.size w wr ∧ wr.ownsRow (b + 1) 33 1 xs k (f64s acc) ∧ acc.length = k))
        case atStart => exact ⟨rfl, 0, 0, by omega, rfl, rfl, 0, [], by omega, fun _ => rfl, by omega, HRES.out, HC.out.1, HC.out.2.1, nil_row _ _ _, rfl⟩
        case round =>
          obtain ⟨rfl, k, l, hgk, rfl, rfl, HK⟩ := hrel
          obtain ⟨a, acc, hl, hl0, ha, hgo, hrs, hbl, hrow, hacc⟩ := HK.out
          clear HK
          cases gk with
          | zero =>
            have hkc : k = cnt := by omega
            subst hkc
            unfold unpGo at hgo
            subst hgo
            have HROW := Lib.hid (And.intro hrow hacc)
            have HBL := Lib.hid hbl
            have hu := HU.out
            simp only [if_true] at hu
            clear HRES HU hbl hrow hacc
            have hfin : ∀ w1, Keep (· = b) wr w1 → w1.ownsRow w.heap.size 33 1 u9 acc.length (f64s acc) ∧ Below w.heap.size w w1 := by
              intro w1 hk1
              refine ⟨?_, HBL.out.trans (hk1.below HBL.out.size (fun x hx => by rw [hx]; exact HC.out.2.2))⟩
              have h := World.ownsRow.mono (keep_row HROW.out.1 hk1 (by omega)) (base' := w.heap.size) (by have := HC.out.2.2; omega)
              rw [← HROW.out.2] at h
              exact h
            have HFIN := Lib.hid hfin
            have HRS := Lib.hid (And.intro hrs ha)
            have c1 := blk_cell hrs.cells 1
            simp at c1
            have hae : (a + (8 - a % 8) % 8) / 8 = (a + 7) / 8 := by omega
            have hal : a + (8 - a % 8) % 8 ≤ 8 * D.length := by omega
            have hk8 : (8 - a % 8) % 8 ≤ 64 := by omega
            have hen : -((a : Int) % 8) % 8 = (((8 - a % 8) % 8 : Nat) : Int) := by omega
            have HEN := Lib.hid (And.intro hae (And.intro hal (And.intro hk8 hen)))
            clear hfin hrs ha hae hal hk8 hen
            unfold rst at hu
            generalize hgb : getB D a ((8 - a % 8) % 8) = y at *
            have HGB := Lib.hid hgb
            clear hgb
            by_cases h5 : y = 0
            · rw [if_pos h5] at hu
              simp only [if_true] at hu
              subst hu
              have HH5 := Lib.hid h5
              clear h5
              go_wp2_with fail
              refine (take_int b o' cap' D a ((8 - a % 8) % 8) HEN.out.2.2.2 wr HRS.out.1 hdl HVD.out HEN.out.2.1 HEN.out.2.2.1).mono ?_
              rintro e w1 ⟨rfl, hr1, hk1⟩
              have H1 := Lib.hid hk1
              have d1 := blk_cell hr1.cells 1
              simp at d1
              rw [HGB.out, HH5.out]
              have hdd : ((a + (8 - a % 8) % 8 : Nat) : Int) / 8 = ((a + 7) / 8 : Nat) := by have := HEN.out.1; omega
              have hbd : (a + 7) / 8 ≤ 1000000000000 := by have := HRS.out.2; omega
              clear hr1 hk1
              generalize (a + 7) / 8 = q at *
              have d2 : w1.cell? ⟨b, 1, none⟩ = some (.int .i64 ((a + (8 - a % 8) % 8 : Nat) : Int)) := by rw [d1]; simp
              clear d1 c1
              generalize a + (8 - a % 8) % 8 = a2 at *
              have ha2 : a2 ≤ 8000000000000 := by have := HEN.out.2.1; omega
              go_wp2_with fail
              go_region
              go_wp2_with fail
              go_ret3
              exact ⟨_, rfl, HFIN.out _ H1.out.drew⟩
            · rw [if_neg h5] at hu
              rw [if_neg (by simp)] at hu
              subst hu
              have hyn : ((y : Int) == 0) = false := by rw [beq_eq_false_iff_ne]; omega
              clear h5
              go_wp2_with fail
              refine (take_int b o' cap' D a ((8 - a % 8) % 8) HEN.out.2.2.2 wr HRS.out.1 hdl HVD.out HEN.out.2.1 HEN.out.2.2.1).mono ?_
              rintro e w1 ⟨rfl, hr1, hk1⟩
              have H1 := Lib.hid hk1
              rw [HGB.out]
              clear hr1 hk1
              go_wp2_with fail
              go_ret3
              exact ⟨_, rfl, nil_row _ _ _, (HFIN.out _ H1.out).2⟩
          | succ g =>
            unfold unpGo at hgo
            have hnum := num_ok D a k l ha hl
            have HA := Lib.hid (And.intro hrow (And.intro hacc (And.intro hbl (lt_of_block hrs.cells))))
            have hkc : k < cnt := by omega
            have HRS := Lib.hid hrs
            clear hrs hrow hacc hbl
            by_cases hk0 : k = 0
            · obtain rfl := hl0 hk0
              have hkt : ((k : Int) == 0) = true := by rw [beq_iff_eq]; omega
              have hnk : ¬ 0 < k := by omega
              unfold num at hgo hnum
              rw [if_neg hnk] at hgo hnum
              have HT := Lib.hid (take_all b o' cap' D a (n := 64) 64 rfl wr HRS.out hdl HVD.out ha (by omega))
              have HK0 := Lib.hid hk0
              clear hl0 hl hnk hk0
              by_cases h6 : 8 * D.length - a < 64
              · rw [if_pos h6] at hgo hnum
                rw [if_neg (by simp)] at hgo
                subst hgo
                have hu := HU.out
                rw [if_neg (by simp)] at hu
                subst hu
                go_wp2_with fail
                refine HT.out.mono ?_
                rintro e w1 ⟨x, ok, rfl, hok, -, hk1⟩
                rw [decide_eq_false (by omega)] at hok
                subst hok
                have HK1 := Lib.hid hk1
                clear hk1
                go_wp2_with fail
                go_ret3
                exact ⟨_, rfl, nil_row _ _ _, HA.out.2.2.1.trans (HK1.out.below HA.out.2.2.1.size (fun x hx => by rw [hx]; exact HC.out.2.2))⟩
              · rw [if_neg h6] at hgo hnum
                rw [if_pos rfl] at hgo
                simp only at hgo hnum
                generalize hUU : getB D a 64 = U at *
                have HGO := Lib.hid (And.intro hgo hnum)
                have HUU := Lib.hid hUU
                have e1 := ext_from U
                have hU64 := hnum.1
                have hx0 : bits BinOp.xor IntKind.u64 0 (U : Int) = (U : Int) := by
                  have h := bits_xor_u64_nat 0 U (by omega) hnum.1
                  rw [Nat.zero_xor] at h
                  exact h
                clear hgo hnum hUU
                go_wp2_with fail
                refine HT.out.mono ?_
                rintro e w1 ⟨x, ok, rfl, hok, hr, hk1⟩
                rw [decide_eq_true (by omega)] at hok
                subst hok
                obtain ⟨hxU, hr1⟩ := hr (by omega)
                rw [hxU]
                clear hr hxU
                have hb2 : b < w1.heap.size := lt_of_block hr1.cells
                have hkeep := hk1
                have hRow := keep_row HA.out.1 hk1 (by omega)
                have hBel := HA.out.2.2.1.trans (hk1.below HA.out.2.2.1.size (fun x hx => by rw [hx]; exact HC.out.2.2))
                have H1 := Lib.hid (And.intro hr1 (And.intro hRow hBel))
                clear hr1 hk1 hkeep hRow hBel
                go_wp2_with (at_builtin; go_must (refine wpList_append_one _ rfl (.tmp 60) (.tmp 63) 25 rfl (b + 1) 33 i0 (.float .f64 0) 8 Tryd.underlying25 hi hz0 hz1 hz2 rfl _ k _ rfl (H1.out.2.1.alloc _) ⟨w1.heap.size, 0, none⟩ 1 (.float .f64 U) rfl ?_ rfl ?_ ?_ ?_ ?_))
                · exact cell_one_new _ _ _ 0 _ rfl
                · unfold maxLen; omega
                · omega
                · have : (w1.alloc (.cells #[.float .f64 U] 33)).heap.size = w1.heap.size + 1 := by simp
                  omega
                · intro g2 cap2 w2 hown hgr hblk hg2
                  have hbl2 : Below (b + 1) w1 w2 := ((Below.refl (b + 1) w1).alloc hb2 _).grown hgr (Nat.le_trans hb2 (by simp)) (fun k hk => (H1.out.2.1.lt k hk).1)
                  have hbl3 : Below w.heap.size w w2 := H1.out.2.2.trans (Below.mono hbl2 (by have := HC.out.2.2; omega))
                  have HO := Lib.hid (And.intro hown (And.intro (RB.below H1.out.1 hbl2) hbl3))
                  clear hown hgr hblk hbl2 hbl3
                  go_wp2_with fail
                  go_roundg g
                  case measure => omega
                  case rel =>
                    refine ⟨rfl, k + 1, U, by omega, rfl, rfl, a + 64, acc ++ [U], HGO.out.2.1, (fun h => absurd h (by omega)), HGO.out.2.2, HGO.out.1, HO.out.2.1, HO.out.2.2, ?_, by rw [List.length_append, HA.out.2.1]; rfl⟩
                    simpa [f64s] using HO.out.1
            · have hkt : ((k : Int) == 0) = false := by rw [beq_eq_false_iff_ne]; omega
              unfold num at hgo hnum
              rw [if_pos (show 0 < k by omega)] at hgo hnum
              have HN := Lib.hid (next_any b o' cap' D a wr HRS.out hdl HVD.out ha)
              have hc64 := (chg_ok D a ha).1
              simp only at hgo hnum
              generalize chg D a = c at *
              have hx0 := bits_xor_u64_nat l c.1 hl hc64
              by_cases h6 : c.2.1 = 0
              · rw [if_pos h6] at hgo
                rw [h6] at HN
                generalize hUU : l ^^^ c.1 = U at *
                have HGO := Lib.hid (And.intro hgo hnum)
                have e1 := ext_from U
                clear hgo hnum hUU hl0 h6 hk0
                go_wp2_with fail
                refine HN.out.mono ?_
                rintro e w1 ⟨rfl, hr, hk1⟩
                have hr1 := hr (by trivial)
                clear hr
                have hb2 : b < w1.heap.size := lt_of_block hr1.cells
                have hkeep := hk1
                have hRow := keep_row HA.out.1 hk1 (by omega)
                have hBel := HA.out.2.2.1.trans (hk1.below HA.out.2.2.1.size (fun x hx => by rw [hx]; exact HC.out.2.2))
                have H1 := Lib.hid (And.intro hr1 (And.intro hRow hBel))
                clear hr1 hk1 hkeep hRow hBel
                go_wp2_with (at_builtin; go_must (refine wpList_append_one _ rfl (.tmp 60) (.tmp 63) 25 rfl (b + 1) 33 i0 (.float .f64 0) 8 Tryd.underlying25 hi hz0 hz1 hz2 rfl _ k _ rfl (H1.out.2.1.alloc _) ⟨w1.heap.size, 0, none⟩ 1 (.float .f64 U) rfl ?_ rfl ?_ ?_ ?_ ?_))
                · exact cell_one_new _ _ _ 0 _ rfl
                · unfold maxLen; omega
                · omega
                · have : (w1.alloc (.cells #[.float .f64 U] 33)).heap.size = w1.heap.size + 1 := by simp
                  omega
                · intro g2 cap2 w2 hown hgr hblk hg2
                  have hbl2 : Below (b + 1) w1 w2 := ((Below.refl (b + 1) w1).alloc hb2 _).grown hgr (Nat.le_trans hb2 (by simp)) (fun k hk => (H1.out.2.1.lt k hk).1)
                  have hbl3 : Below w.heap.size w w2 := H1.out.2.2.trans (Below.mono hbl2 (by have := HC.out.2.2; omega))
                  have HO := Lib.hid (And.intro hown (And.intro (RB.below H1.out.1 hbl2) hbl3))
                  clear hown hgr hblk hbl2 hbl3
                  go_wp2_with fail
                  go_roundg g
                  case measure => omega
                  case rel =>
                    refine ⟨rfl, k + 1, U, by omega, rfl, rfl, a + c.2.2, acc ++ [U], HGO.out.2.1, (fun h => absurd h (by omega)), HGO.out.2.2, HGO.out.1, HO.out.2.1, HO.out.2.2, ?_, by rw [List.length_append, HA.out.2.1]; rfl⟩
                    simpa [f64s] using HO.out.1
              · rw [if_neg h6] at hgo
                subst hgo
                have hrn : ((c.2.1 : Int) == 0) = false := by rw [beq_eq_false_iff_ne]; omega
                have hu := HU.out
                simp only [h6, if_false] at hu
                subst hu
                clear h6 hnum hl0 hk0
                go_wp2_with fail
                refine HN.out.mono ?_
                rintro e w1 ⟨rfl, -, hk1⟩
                have HK1 := Lib.hid hk1
                clear hk1
                go_wp2_with fail
                go_ret3
                exact ⟨_, rfl, nil_row _ _ _, HA.out.2.2.1.trans (HK1.out.below HA.out.2.2.1.size (fun x hx => by rw [hx]; exact HC.out.2.2))⟩
  · rw [if_neg h1] at hu
    subst hu
    have hen : ((err : Int) == 0) = false := by rw [beq_eq_false_iff_ne]; omega
    go_enter Tryd.func12, Tryd.ntmps12
    go_wp2_with (go_at_call 24; refine V0.out.mono ?_; rintro e w' ⟨rfl, rfl⟩)
    go_ret3
    exact ⟨_, rfl, nil_row _ _ _, Below.refl _ _⟩
end Go.Proofs.YtafglefiodanbaaDoor
