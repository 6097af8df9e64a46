/- The model package: Same, where nothing is to be compared byte by byte. By an AI agent. -/
import Derived.Test.YtjiehgfamlidnaaModO
namespace Go.Proofs.Ytjiehgfamlidnaa
open Go.ChangeShapes Go.WideShapes Go.ChangeAt Go.RowKit
set_option linter.unusedVariables false
namespace Md

set_option maxRecDepth 100000 in
set_option maxHeartbeats 4000000 in
theorem same_eq (s : S) (o1 o2 : Option Addr) (c1 c2 : Nat) (w : World) :
    Calls Try.prog 11 #[.agg (cs s (.slice o1 0 c1)), .agg (cs s (.slice o2 0 c2))] w fun e w' => e = .returned (.bool true) ∧ Keep (fun _ => False) w w' := by
  have HK := Lib.hid (((Keep.refl (fun _ => False) w).alloc (.cells (cs s (.slice o1 0 c1)) 26)).alloc (.cells (cs s (.slice o2 0 c2)) 26))
  unfold cs at HK ⊢
  obtain ⟨s0, s1, s2, s3, s4, s5, s6⟩ := s
  simp only at HK ⊢
  go_enter Try.func11, Try.ntmps11
  go_wp2_with fail
  go_loopg [16] 0 (fun g i wr => g = 0 ∧ i = .int .i64 0 ∧ Hid (wr = (w.alloc (.cells #[.int .i64 s0, .int .i64 s1, .int .i64 s2, .int .i64 s3, .int .i64 s4, .slice o1 0 c1, .bool s5, .bool s6] 26)).alloc (.cells #[.int .i64 s0, .int .i64 s1, .int .i64 s2, .int .i64 s3, .int .i64 s4, .slice o2 0 c2, .bool s5, .bool s6] 26)))
  case atStart => exact ⟨rfl, rfl, rfl⟩
  case round =>
    obtain ⟨hg, rfl, hw⟩ := hrel
    have hw' := hw.out
    subst hw'
    cases s5 <;> cases s6 <;> (go_wp2_with fail; go_ret; exact ⟨rfl, HK.out⟩)

set_option maxRecDepth 100000 in
set_option maxHeartbeats 4000000 in
theorem same_ne (s t : S) (o1 o2 : Option Addr) (n1 n2 c1 c2 : Nat) (w : World) (hn : n1 ≠ n2) :
    Calls Try.prog 11 #[.agg (cs s (.slice o1 n1 c1)), .agg (cs t (.slice o2 n2 c2))] w fun e w' => e = .returned (.bool false) ∧ Keep (fun _ => False) w w' := by
  have HK := Lib.hid (((Keep.refl (fun _ => False) w).alloc (.cells (cs s (.slice o1 n1 c1)) 26)).alloc (.cells (cs t (.slice o2 n2 c2)) 26))
  unfold cs at HK ⊢
  have hb : (((n1 : Nat) : Int) != (n2 : Int)) = true := by rw [bne_iff_ne]; omega
  have hb' : (((n1 : Nat) : Int) == (n2 : Int)) = false := by rw [beq_eq_false_iff_ne]; omega
  go_enter Try.func11, Try.ntmps11
  go_wp2_with fail
  go_ret
  exact ⟨rfl, HK.out⟩
end Md
end Go.Proofs.Ytjiehgfamlidnaa
