/- flumelaw3.Of; two gauges beside each other; alike; mean. By an AI agent. -/
import Derived.Test.YtdkcnbcjjlaidaaGauH
import Derived.OwnWalk
import Derived.Deep.DeepMust
namespace Go.Proofs.Ytdkcnbcjjlaidaa
open Go.ChangeShapes Go.WideShapes Go.ChangeAt Go.RowKit
set_option linter.unusedVariables false

/-- A slice of whole numbers. -/
def U64s (w : World) (o : Option Addr) (us : List Nat) : Prop := ∀ i, i < us.length → ∃ ad, o = some ad ∧ w.cell? (ad.add i) = some (.int .u64 (us.getD i 0 : Nat))

theorem take_succ_getD (us : List Nat) (i : Nat) (h : i < us.length) : us.take (i + 1) = us.take i ++ [us.getD i 0] := by
  rw [List.take_succ_eq_append_getElem h, List.getD_eq_getElem?_getD, List.getElem?_eq_getElem h]; rfl

set_option maxRecDepth 100000 in
set_option maxHeartbeats 2000000 in
theorem of_any (o : Option Addr) (us : List Nat) (cap : Nat) (w : World) (hF : U64s w o us) (hn : us.length ≤ 2000000) :
    Calls Try.prog 18 #[.slice o us.length cap] w fun e w' => ∃ v, e = .returned v ∧ w'.ownsRow w.heap.size 24 1 v us.length (f64s us) ∧ Below w.heap.size w w' := by
  obtain ⟨i0, hi, hz0, hz1, hz2⟩ := info_parts info_f64
  have HF := Lib.hid hF
  clear hF
  generalize hlen : us.length = n at *
  have HLEN := Lib.hid hlen
  clear hlen
  go_enter Try.func18, Try.ntmps18
  go_wp2_with fail
  go_loopg [3, 4] n (fun g v i wr => ∃ k : Nat, g + k = n ∧ i = .int .i64 (k : Int) ∧ Hid (wr.ownsRow w.heap.size 24 1 v k (f64s (us.take k)) ∧ Below w.heap.size w wr))
  case atStart => exact ⟨0, by omega, rfl, ⟨⟨rfl, Or.inl ⟨rfl, rfl⟩⟩, Below.refl _ _⟩⟩
  case round =>
    obtain ⟨k, hgk, rfl, HR⟩ := hrel
    by_cases hk : k < n
    · obtain ⟨ad, rfl, hcell⟩ := HF.out k (by rw [HLEN.out]; exact hk)
      have hcz : wr.cell? (ad.add k) = some (.int .u64 (us.getD k 0 : Nat)) := by
        rw [← hcell]; exact HR.out.2.cell (by exact cell_in hcell)
      have htk := take_succ_getD us k (by rw [HLEN.out]; exact hk)
      generalize hU : us.getD k 0 = U at *
      have HTK := Lib.hid htk
      clear hU hcell htk
      have e1 := ext_from U
      go_wp2_with (at_builtin; go_must (refine wpList_append_one _ rfl (.tmp 11) (.tmp 17) 35 rfl w.heap.size 24 i0 (.float .f64 0) 8 Try.underlying35 hi hz0 hz1 hz2 rfl _ k _ rfl (HR.out.1.alloc _) ⟨wr.heap.size, 0, none⟩ 1 (.float .f64 U) rfl ?_ rfl ?_ ?_ ?_ ?_))
      · exact cell_one_new _ _ _ 0 _ rfl
      · unfold maxLen; omega
      · omega
      · exact Nat.le_trans HR.out.2.size (by simp)
      · intro g cap1 w1 hown hgr hblk hg
        have HO := Lib.hid hown
        have HB := Lib.hid ((HR.out.2.alloc HR.out.2.size _).grown hgr (Nat.le_trans HR.out.2.size (by simp)) (fun b hb => (HR.out.1.lt b hb).1))
        clear hown hgr hblk
        go_wp2_with fail
        go_roundg (gk - 1)
        case measure => omega
        case rel => exact ⟨k + 1, by omega, rfl, by
          have h := HO.out
          refine ⟨?_, HB.out⟩
          rw [HTK.out]
          simpa [f64s] using h⟩
    · go_wp2_with fail
      go_ret
      have hkn : k = n := by omega
      subst hkn
      have h := HR.out
      rw [List.take_of_length_le (by rw [HLEN.out]; exact Nat.le_refl _)] at h
      exact ⟨_, rfl, h⟩

/-! ### a gauge beside another one -/
theorem GAt.beside {bs : Nat → Prop} {w w' : World} {g base : Nat} {ob : Option Addr} {cb c : Nat} {x : G} (h : GAt w g base ob cb c x) (k : Keep bs w w') (h1 : ¬ bs g) (h2 : ¬ bs c) (h3 : ∀ ad, ob = some ad → ¬ bs ad.block) : GAt w' g base ob cb c x :=
  { h with row := k.same h.row h1, fls := fls_keep' h.fls k h3, cls := k.same h.cls h2 }

theorem same_any (a b : Nat) (ha : a < 2 ^ 64) (hb : b < 2 ^ 64) (w : World) :
    Calls Try.prog 51 #[.float .f64 a, .float .f64 b] w fun e w' => e = .returned (.bool (decide (keyF a = keyF b))) ∧ w = w' := by
  have HA := Lib.hid (key_any a ha)
  have HB := Lib.hid (key_any b hb)
  clear ha hb
  generalize keyF a = x at *
  generalize keyF b = y at *
  have hd : (((x : Nat) : Int) == ((y : Nat) : Int)) = decide (x = y) := by
    by_cases h : x = y
    · subst h; simp
    · simp [h]; omega
  generalize decide (x = y) = bb at *
  go_enter Try.func51, Try.ntmps51
  go_wp2_with fail
  refine (HA.out _).mono ?_
  rintro e w1 ⟨rfl, rfl⟩
  go_wp2_with fail
  refine (HB.out _).mono ?_
  rintro e w1 ⟨rfl, rfl⟩
  go_wp2_with fail
  go_ret
  exact ⟨rfl, rfl⟩

/-- Are the bounds the same? -/
def alikeB (xs ys : List Nat) : Bool := decide (xs.length = ys.length ∧ ∀ i, i < xs.length → keyF (xs.getD i 0) = keyF (ys.getD i 0))

set_option maxRecDepth 100000 in
set_option maxHeartbeats 4000000 in
theorem alike_any {w : World} {g base g' base' : Nat} {ob ob' : Option Addr} {cb c cb' c' : Nat} {x y : G} (h : GAt w g base ob cb c x) (h' : GAt w g' base' ob' cb' c' y) (hl : x.bs.length ≤ 1000000) :
    Calls Try.prog 41 #[.pointer (some ⟨g, 0, none⟩), .pointer (some ⟨g', 0, none⟩)] w fun e w' => e = .returned (.bool (alikeB x.bs y.bs)) ∧ Below w.heap.size w w' := by
  obtain ⟨q0, q1, q2, q3, q4, q5, q6, q7⟩ := gcell_facts h
  obtain ⟨p0, p1, p2, p3, p4, p5, p6, p7⟩ := gcell_facts h'
  have HF := Lib.hid (And.intro h.fls (And.intro h'.fls (And.intro h.lt h'.lt)))
  clear h h' q0 q2 q3 q4 q5 q6 q7 p0 p2 p3 p4 p5 p6 p7
  by_cases hlen : x.bs.length = y.bs.length
  · rw [← hlen] at p1
    generalize hn : x.bs.length = n at *
    have HN := Lib.hid (And.intro hn hlen)
    clear hn hlen
    go_enter Try.func41, Try.ntmps41
    go_wp2_with fail
    go_quiet (fail)
    go_wp2_with fail
    go_loopg [23] n (fun gq i wr => ∃ k : Nat, gq + k = n ∧ i = .int .i64 (k : Int) ∧ wr = w.drewN nq ∧ Hid (∀ j, j < k → keyF (x.bs.getD j 0) = keyF (y.bs.getD j 0)))
    case atStart => exact ⟨0, by omega, rfl, rfl, fun j hj => absurd hj (by omega)⟩
    case round =>
      obtain ⟨k, hgk, rfl, rfl, HK⟩ := hrel
      by_cases hk : k < n
      · obtain ⟨ad, rfl, hcell⟩ := HF.out.1 k (by rw [HN.out.1]; exact hk)
        obtain ⟨ad', rfl, hcell'⟩ := HF.out.2.1 k (by rw [← HN.out.2]; exact hk)
        have HS := Lib.hid (same_any (x.bs.getD k 0) (y.bs.getD k 0) (HF.out.2.2.1 k) (HF.out.2.2.2 k))
        by_cases hke : keyF (x.bs.getD k 0) = keyF (y.bs.getD k 0)
        · rw [decide_eq_true hke] at HS
          have HKE := Lib.hid hke
          have HKX : RowKit.Hid (∀ j, j < k + 1 → keyF (x.bs.getD j 0) = keyF (y.bs.getD j 0)) := Lib.hid fun j hj => by
            rcases Nat.lt_succ_iff_lt_or_eq.1 hj with h | h
            · exact HK.out j h
            · rw [h]; exact hke
          clear hke HKE
          generalize ha : x.bs.getD k 0 = a at *
          generalize hb : y.bs.getD k 0 = b at *
          clear ha hb
          go_wp2_with fail
          refine (HS.out _).mono ?_
          rintro e w1 ⟨rfl, rfl⟩
          go_wp2_with fail
          go_roundg (gk - 1)
          case measure => omega
          case rel =>
            exact ⟨k + 1, by omega, rfl, rfl, HKX.out⟩
        · rw [decide_eq_false hke] at HS
          have HA : RowKit.Hid (alikeB x.bs y.bs = false) := Lib.hid (decide_eq_false fun h => hke (h.2 k (by rw [HN.out.1]; exact hk)))
          clear hke
          generalize x.bs.getD k 0 = a at *
          generalize y.bs.getD k 0 = b at *
          go_wp2_with fail
          refine (HS.out _).mono ?_
          rintro e w1 ⟨rfl, rfl⟩
          go_wp2_with fail
          go_ret
          exact ⟨by rw [HA.out]; rfl, (Keep.refl (fun _ => False) w).drewN nq |>.none⟩
      · have HA : RowKit.Hid (alikeB x.bs y.bs = true) := Lib.hid (decide_eq_true ⟨by rw [HN.out.1]; exact HN.out.2, fun j hj => HK.out j (by rw [HN.out.1] at hj; omega)⟩)
        go_wp2_with fail
        go_ret
        exact ⟨by rw [HA.out]; rfl, (Keep.refl (fun _ => False) w).drewN nq |>.none⟩
  · have HA : RowKit.Hid (alikeB x.bs y.bs = false) := Lib.hid (decide_eq_false fun h => hlen h.1)
    generalize alikeB x.bs y.bs = al at *
    generalize x.bs.length = n at *
    generalize y.bs.length = n' at *
    have e1 : (((n : Nat) : Int) != ((n' : Nat) : Int)) = true := by simp; omega
    have e2 : (n != n') = true := by simp; omega
    go_enter Try.func41, Try.ntmps41
    go_wp2_with fail
    go_quiet (fail)
    go_wp2_with fail
    go_ret
    exact ⟨by rw [HA.out]; rfl, (Keep.refl (fun _ => False) w).drewN nq |>.none⟩
end Go.Proofs.Ytdkcnbcjjlaidaa
