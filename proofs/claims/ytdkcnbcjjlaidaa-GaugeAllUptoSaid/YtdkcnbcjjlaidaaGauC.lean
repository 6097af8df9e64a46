/- sort.Search; the cell of a number. By an AI agent. -/
import Derived.Test.YtdkcnbcjjlaidaaGauB
namespace Go.Proofs.Ytdkcnbcjjlaidaa
open Go.ChangeShapes Go.WideShapes Go.ChangeAt Go.RowKit
set_option linter.unusedVariables false

/-- Search by halves. -/
def srch (f : Nat → Bool) : Nat → Nat → Nat → Nat
  | 0, i, _ => i
  | n + 1, i, j => if i < j then (if f ((i + j) / 2) then srch f n i ((i + j) / 2) else srch f n ((i + j) / 2 + 1) j) else i

theorem srch_le (f : Nat → Bool) : ∀ (n i j : Nat), i ≤ j → i ≤ srch f n i j ∧ srch f n i j ≤ j := by
  intro n
  induction n with
  | zero => intro i j h; exact ⟨Nat.le_refl _, h⟩
  | succ n ih =>
    intro i j h
    unfold srch
    split
    · split
      · have := ih i ((i + j) / 2) (by omega); omega
      · have := ih ((i + j) / 2 + 1) j (by omega); omega
    · omega

set_option maxRecDepth 100000 in
set_option maxHeartbeats 8000000 in
theorem search_any (N : Nat) (hN : N ≤ 1000000) (K : FuncId) (caps : Array Value) (f : Nat → Bool) (w : World) (hent : ∀ (args : Array Value) (w : World), (callFunc K args).run Try.prog w = .ok (.enter K args) w)
    (HF : ∀ (i : Nat) (w1 : World), i < N → Below w.heap.size w w1 → Calls Try.prog K (#[.int .i64 (i : Int)] ++ caps) w1 fun e w2 => e = .returned (.bool (f i)) ∧ Below w1.heap.size w1 w2) :
    Calls Try.prog 48 #[.int .i64 (N : Int), .func (.func K) #[] caps] w fun e w' => e = .returned (.int .i64 (srch f N 0 N : Nat)) ∧ Below w.heap.size w w' := by
  have HFH := Lib.hid HF
  clear HF
  generalize hres : srch f N 0 N = res
  have HR := Lib.hid hres
  clear hres
  go_enter Try.func48, Try.ntmps48
  go_wp2_with fail
  go_loopg [5, 6] N (fun g a b wr => ∃ i j : Nat, a = .int .i64 (i : Int) ∧ b = .int .i64 (j : Int) ∧ i ≤ j ∧ j ≤ N ∧ j - i ≤ g ∧ Hid (srch f g i j = res ∧ Below w.heap.size w wr))
  case atStart => exact ⟨0, N, rfl, rfl, by omega, Nat.le_refl _, by omega, ⟨HR.out, Below.refl _ _⟩⟩
  case round =>
    obtain ⟨i, j, rfl, rfl, hij, hjN, hg, HK⟩ := hrel
    by_cases hlt : i < j
    · obtain ⟨gk, rfl⟩ : ∃ m, gk = m + 1 := ⟨gk - 1, by omega⟩
      have hs := HK.out.1
      unfold srch at hs
      rw [if_pos hlt] at hs
      obtain ⟨h, hh⟩ : ∃ h, (i + j) / 2 = h := ⟨_, rfl⟩
      rw [hh] at hs
      have hh1 : i ≤ h := by omega
      have hh2 : h < j := by omega
      have hq : ((i : Int) + (j : Int)) / 2 = (h : Int) := by omega
      have HC := Lib.hid (HFH.out h wr (by omega) HK.out.2)
      have HS := Lib.hid hs
      clear hs hh
      go_wp2_with fail
      refine HC.out.mono ?_
      rintro e w2 ⟨rfl, hb2⟩
      have HB := Lib.hid (HK.out.2.trans (hb2.mono HK.out.2.size))
      clear hb2
      cases hfh : f h
      · have hs := HS.out
        rw [hfh, if_neg (by simp)] at hs
        have HS2 := Lib.hid hs
        clear hs hfh
        go_wp2_with fail
        go_roundg gk
        case measure => omega
        case rel => exact ⟨h + 1, j, rfl, rfl, by omega, by omega, by omega, ⟨HS2.out, HB.out⟩⟩
      · have hs := HS.out
        rw [hfh, if_pos rfl] at hs
        have HS2 := Lib.hid hs
        clear hs hfh
        go_wp2_with fail
        go_roundg gk
        case measure => omega
        case rel => exact ⟨i, h, rfl, rfl, by omega, by omega, by omega, ⟨HS2.out, HB.out⟩⟩
    · have hs := HK.out.1
      have hs2 : res = i := by
        rw [← hs]
        cases gk with
        | zero => rfl
        | succ m => unfold srch; rw [if_neg hlt]
      clear hs
      subst hs2
      go_wp2_with fail
      go_ret
      exact ⟨rfl, HK.out.2⟩

theorem gcell_facts {w : World} {g base : Nat} {ob : Option Addr} {cb c : Nat} {x : G} (h : GAt w g base ob cb c x) :
    w.cell? ⟨g, 0, none⟩ = some (.bool true) ∧ w.cell? ⟨g, 1, none⟩ = some (.slice ob x.bs.length cb) ∧ w.cell? ⟨g, 2, none⟩ = some (.slice (some ⟨c, 0, none⟩) x.cs.length x.cs.length) ∧ w.cell? ⟨g, 3, none⟩ = some (.int .i64 x.n) ∧ w.cell? ⟨g, 4, none⟩ = some (.int .i64 x.nn) ∧
    w.cell? ⟨g, 5, none⟩ = some (.float .f64 x.le) ∧ w.cell? ⟨g, 6, none⟩ = some (.float .f64 x.gr) ∧ w.cell? ⟨g, 7, none⟩ = some (.float .f64 x.me) :=
  ⟨blk_cell h.row 0, blk_cell h.row 1, blk_cell h.row 2, blk_cell h.row 3, blk_cell h.row 4, blk_cell h.row 5, blk_cell h.row 6, blk_cell h.row 7⟩

def leF (bs : List Nat) (x : Nat) (i : Nat) : Bool := decide (cmpF x (bs.getD i 0) ≤ 0)
/-- The cell of a number. -/
def cellIx (bs : List Nat) (x : Nat) : Nat := srch (leF bs x) bs.length 0 bs.length

set_option maxHeartbeats 2000000 in
theorem cell1_any {w : World} {g base : Nat} {ob : Option Addr} {cb c : Nat} {G : G} (h : GAt w g base ob cb c G) (x : Nat) (hx : x < 2 ^ 64) (bx bg : Nat) (hbx : w.cell? ⟨bx, 0, none⟩ = some (.float .f64 x)) (hbg : w.cell? ⟨bg, 0, none⟩ = some (.pointer (some ⟨g, 0, none⟩))) (i : Nat) (hi : i < G.bs.length) :
    Calls Try.prog 49 #[.int .i64 (i : Int), .pointer (some ⟨bx, 0, none⟩), .pointer (some ⟨bg, 0, none⟩)] w fun e w' => e = .returned (.bool (leF G.bs x i)) ∧ Below w.heap.size w w' := by
  obtain ⟨-, c1, -⟩ := gcell_facts h
  obtain ⟨ad, rfl, hcell⟩ := h.fls i hi
  have hy := h.lt i
  have HC := Lib.hid (compare_any x (G.bs.getD i 0) hx hy)
  unfold leF
  generalize G.bs.getD i 0 = y at *
  clear hx hy
  generalize G.bs.length = n at *
  generalize cmpF x y = z at *
  clear h
  go_enter Try.func49, Try.ntmps49
  go_wp2_with fail
  go_quiet ((go_at_call 34; exact Calls.quiet_of_same ((HC.out _).mono fun _ _ ⟨he, hw⟩ => ⟨he, hw.symm⟩)))
  go_wp2_with fail
  go_ret
  exact ⟨rfl, (Keep.refl (fun _ => False) w).drewN nq |>.none⟩

theorem enter_cell1 (args : Array Value) (w : World) : (callFunc 49 args).run Try.prog w = .ok (.enter 49 args) w := by kernel_rfl

set_option maxHeartbeats 2000000 in
theorem cell_any {w : World} {g base : Nat} {ob : Option Addr} {cb c : Nat} {G : G} (h : GAt w g base ob cb c G) (x : Nat) (hx : x < 2 ^ 64) (hn : G.bs.length ≤ 1000000) :
    Calls Try.prog 36 #[.pointer (some ⟨g, 0, none⟩), .float .f64 x] w fun e w' => e = .returned (.int .i64 (cellIx G.bs x : Nat)) ∧ Below w.heap.size w w' := by
  have hmf : ∀ (fn : Fn) (first cap : Array Value) (w : World), (Instr.makeFunc fn first cap).run Try.prog w = .ok (.func fn first cap) w := fun _ _ _ _ => rfl
  have kB : Below w.heap.size w ((w.alloc (.cells #[.pointer (some ⟨g, 0, none⟩)] 36)).alloc (.cells #[.float .f64 x] 24)) := ((Below.refl _ w).alloc (Nat.le_refl _) _).alloc (by simp) _
  have h2 := h.keep kB
  have hbg : ((w.alloc (.cells #[.pointer (some ⟨g, 0, none⟩)] 36)).alloc (.cells #[.float .f64 x] 24)).heap[w.heap.size]? = some (.cells #[.pointer (some ⟨g, 0, none⟩)] 36 (0, 0)) := blk_alloc (blk_new w _) _
  have hbx : ((w.alloc (.cells #[.pointer (some ⟨g, 0, none⟩)] 36)).alloc (.cells #[.float .f64 x] 24)).heap[w.heap.size + 1]? = some (.cells #[.float .f64 x] 24 (0, 0)) := blk_new_at (w.alloc _) _ (by simp)
  have HS := Lib.hid (search_any G.bs.length hn 49 #[.pointer (some ⟨w.heap.size + 1, 0, none⟩), .pointer (some ⟨w.heap.size, 0, none⟩)] (leF G.bs x) _ enter_cell1 (fun i w1 hi k => cell1_any (h2.keep k) x hx (w.heap.size + 1) w.heap.size (blk_cell ((k.block _ (by simp)).trans hbx) 0) (blk_cell ((k.block _ (by simp; omega)).trans hbg) 0) i hi))
  obtain ⟨-, c1, -⟩ := gcell_facts h2
  have HB := Lib.hid kB
  have HR : srch (leF G.bs x) G.bs.length 0 G.bs.length = cellIx G.bs x := rfl
  rw [HR] at HS
  generalize cellIx G.bs x = res at *
  clear h h2 hx kB hbg hbx HR
  generalize G.bs.length = n at *
  go_enter Try.func36, Try.ntmps36
  go_wp2_with fail
  refine HS.out.mono ?_
  rintro e w2 ⟨rfl, hb2⟩
  have H2 := Lib.hid (HB.out.trans (hb2.mono HB.out.size))
  clear hb2
  go_wp2_with fail
  go_ret
  exact ⟨rfl, H2.out⟩
end Go.Proofs.Ytdkcnbcjjlaidaa
