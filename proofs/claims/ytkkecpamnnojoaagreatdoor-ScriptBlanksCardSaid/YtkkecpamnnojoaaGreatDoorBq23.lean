/- A part of the proof of ScriptBlanks: nothing is assumed. By an AI agent. -/
import Derived.Test.YtkkecpamnnojoaaGreatDoorBq17
import Derived.Test.YtkkecpamnnojoaaGreatDoorBq21
import Derived.Test.YtkkecpamnnojoaaGreatDoorBq22
import Derived.Test.YtkkecpamnnojoaaGreatDoorBq20
namespace Go.Proofs.YtkkecpamnnojoaaGreatDoor
open Go.ChangeShapes Go.WideShapes Go.ChangeAt Go.RowKit Go.Shelf
open Bt Dc By
set_option linter.unusedVariables false
namespace Sc

def mrow (ms : List Str) (l : Nat) : Str := if has 10 ((ms.getD (l % ms.length) []).take 40) then [] else (ms.getD (l % ms.length) []).take 40
theorem mrow_no (ms : List Str) (l : Nat) : has 10 (mrow ms l) = false := by
 unfold mrow
 split
 ·rfl
 ·rename_i h; simpa using h
theorem mrow_of {ms : List Str} {l r : Nat} {x : Str} (hr : l % ms.length = r) (hx : (ms.getD r []).take 40 = x) (h : has 10 x = false) : mrow ms l = x := by
 unfold mrow
 rw [hr, hx, h]
 rfl
theorem mrow_len (ms : List Str) (l : Nat) : (mrow ms l).length ≤ 40 := by
 unfold mrow
 split
 ·simp
 ·rw [List.length_take]; omega
theorem bl_len (ms : List Str) : ∀ (s : Str) (n : Nat), (bl (mrow ms) n s).length ≤ (s.length + 1) * 50
 | [], n => by have := mrow_len ms n; rw [bl, List.length_append]; simp; omega
 | c :: s, n => by
  have h1 := mrow_len ms n
  have h2 := bl_len ms s (n + 1)
  have h3 := bl_len ms s n
  rw [bl]
  split
  ·simp only [List.length_append, List.length_cons, List.length_nil]; omega
  ·unfold dblC
   split <;> simp only [List.length_append, List.length_cons, List.length_nil] <;> omega
theorem bl_at (more : Nat → Str) (n : Nat) (c : UInt8) (s : Str) : bl more n (c :: s) = if c.toNat = 10 then ([32, 9, 35] ++ more n ++ [10, 32, 9, 10]) ++ bl more (n + 1) s else dblC c ++ bl more n s := by rw [bl]
structure TI (w0 W : World) (v5 v8 : Value) (B : Str) (a : Nat) : Prop where
 k : Keep (fun _ => False) w0 W
 t : W.ownsRow w0.heap.size 5 1 v5 B.length (u8v B)
 i : W.ownsRow w0.heap.size 3 1 v8 a ((List.range a).map fun j : Nat => Value.int .i64 ((j : Int) + 1))
 ne : ∀ g, v5.ownBlock = some g → v8.ownBlock ≠ some g
theorem row_from {w : World} {base sz n : Nat} {e : TypeId} {v : Value} {xs : List Value} (h : w.ownsRow base e sz v n xs) {g : Nat} (hg : v.ownBlock = some g) : base ≤ g := by
 rcases h.2 with ⟨h1, -⟩ | ⟨g2, c2, cur, h1, h2, -⟩
 ·rw [h1] at hg; cases hg
 ·rw [h1] at hg; cases hg; exact h2
theorem TI.grow {w0 W W' : World} {v5 v8 v' : Value} {B C : Str} {a : Nat} (h : TI w0 W v5 v8 B a) (hrow : W'.ownsRow 0 5 1 v' (B.length + C.length) (u8v B ++ u8v C)) (k : Keep (fun g => v5.ownBlock = some g) W W') (hb : v'.ownBlock = v5.ownBlock ∨ ∃ g, v'.ownBlock = some g ∧ W.heap.size ≤ g) : TI w0 W' v' v8 (B ++ C) a := by
 have hlow : ∀ g, v'.ownBlock = some g → w0.heap.size ≤ g := fun g hg => by
  rcases hb with hb | ⟨g', hb, hl⟩
  ·exact row_from h.t (by rw [← hb]; exact hg)
  ·rw [hb] at hg; cases hg; exact Nat.le_trans h.k.size hl
 refine ⟨h.k.own k fun i hi => Or.inr (row_from h.t hi), ?_, row_keep h.i k fun g hg e => h.ne g e hg, fun g hg e => ?_⟩
 ·rw [List.length_append, u8v_app]
  exact row_base hrow hlow
 ·rcases hb with hb | ⟨g', hb, hl⟩
  ·exact h.ne g (by rw [← hb]; exact hg) e
  ·rw [hb] at hg
   cases hg
   have := row_lt h.i e
   omega
theorem TI.grow1 {w0 W W' : World} {v5 v8 v' : Value} {B : Str} {c : UInt8} {a : Nat} {o : Obj} (h : TI w0 W v5 v8 B a) (hrow : W'.ownsRow w0.heap.size 5 1 v' (B.length + 1) (u8v B ++ [.int .u8 (c.toNat : Int)])) (hg : (W.alloc o).grownBy W' v5.ownBlock) (hb : v'.ownBlock = v5.ownBlock ∨ v'.ownBlock = some (W.alloc o).heap.size) : TI w0 W' v' v8 (B ++ [c]) a :=
 h.grow (C := [c]) (row_base hrow fun g _ => Nat.zero_le _) (((Keep.refl (fun q => v5.ownBlock = some q) W).alloc o).trans (keep_grown hg)) (by
  rcases hb with hb | hb
  ·exact Or.inl hb
  ·exact Or.inr ⟨_, hb, by simp⟩)
theorem TI.num {w0 W W' : World} {v5 v8 v' : Value} {B : Str} {a : Nat} {o : Obj} (h : TI w0 W v5 v8 B a) (hrow : W'.ownsRow w0.heap.size 3 1 v' (a + 1) ((List.range a).map (fun j : Nat => Value.int .i64 ((j : Int) + 1)) ++ [.int .i64 ((a : Int) + 1)])) (hg : (W.alloc o).grownBy W' v8.ownBlock) (hb : v'.ownBlock = v8.ownBlock ∨ v'.ownBlock = some (W.alloc o).heap.size) : TI w0 W' v5 v' B (a + 1) := by
 have k : Keep (fun g => v8.ownBlock = some g) W W' := ((Keep.refl (fun q => v8.ownBlock = some q) W).alloc o).trans (keep_grown hg)
 refine ⟨h.k.own k fun i hi => Or.inr (row_from h.i hi), row_keep h.t k fun g hg e => h.ne g hg e, ?_, fun g hg e => ?_⟩
 ·rw [List.range_succ, List.map_append]; exact hrow
 ·rcases hb with hb | hb
  ·rw [hb] at e; exact h.ne g hg e
  ·rw [hb] at e
   cases e
   have := row_lt h.t hg
   simp at this
   omega
theorem row_val {w : World} {base sz n : Nat} {e : TypeId} {v : Value} {xs : List Value} (h : w.ownsRow base e sz v n xs) : ∃ o c, v = .slice o n c := by
 rcases h.2 with ⟨rfl, rfl⟩ | ⟨g, cap, cur, rfl, -⟩
 ·exact ⟨none, 0, rfl⟩
 ·exact ⟨_, cap, rfl⟩
theorem TI.start (w : World) : TI w w (.slice none 0 0) (.slice none 0 0) [] 0 := ⟨Keep.refl _ _, row_nil _ _ _ _, row_nil _ _ _ _, fun g h => by cases h⟩
theorem TI.from_ {w0 w1 W : World} {v5 v8 : Value} {B : Str} {a : Nat} (h : TI w1 W v5 v8 B a) (k : Keep (fun _ => False) w0 w1) : Keep (fun _ => False) w0 W := k.trans h.k
theorem Ev.up {B : Nat} {w : World} (h : Ev B w) : Ev w.heap.size w := ⟨env_up h.env, tb_up h.tb, fun w' k => h.errs w' (k.mono h.le), fun w' k => h.mx w' (k.mono h.le)⟩
theorem bd_inv {m : M} (h : Inv m.play) : (m.fs.length ≤ 1099511627776 ∧ m.ts.length ≤ 1099511627776 ∧ m.ps.length ≤ 1099511627776 ∧ m.es.length ≤ 1099511627776) ∧
  ((∀ t ∈ m.ts, t.l.length ≤ 1099511627776 ∧ ∀ c ∈ t.l, c.c.data.length ≤ 1099511627776) ∧ ∀ e ∈ m.es, e.ks.length ≤ 1099511627776 ∧ e.fs.length ≤ 1099511627776 ∧ ∀ k ∈ e.ks, k.k.junk.length ≤ 1099511627776) := by
 obtain ⟨h1, h2, h3, h4, h5, h6⟩ := many_not h.pt.many
 refine ⟨⟨by omega, by omega, by omega, by omega⟩, fun t ht => ⟨by have := h3 t ht; omega, fun c hc => ?_⟩, fun e he => ⟨by have := (h6 e he).2; omega, by have := (h6 e he).1; omega, fun k hk => ?_⟩⟩
 ·have := h.sm.data _ (List.mem_map.2 ⟨t, ht, rfl⟩) _ (List.mem_map.2 ⟨c, hc, rfl⟩)
  omega
 ·have := h.sm.junk _ (List.mem_map.2 ⟨e, he, rfl⟩) _ (List.mem_map.2 ⟨k, hk, rfl⟩)
  omega
set_option maxRecDepth 100000 in
set_option maxHeartbeats 32000000 in
theorem blanks_any (s : Str) (o : Option Addr) (cap : Nat) (ms : List Str) (w : World) (hws : WsAt w o ms) (hm : ms.length ≤ maxLen) (hsz : ∀ i, (ms.getD i []).length ≤ maxLen) (hs : s.length ≤ maxLen)
  (HBG : Hid (Calls Tryz.prog 7 #[] w fun e w' => e = .returned (.bool true) ∧ Keep (fun _ => False) w w'))
  (hE : Ev w.heap.size w) :
  Calls Tryz.prog 6 #[.string (strB s), .slice o ms.length cap] w fun e w' => e = .returned (.bool true) ∧ Keep (fun _ => False) w w' := by
 have HPA := Lib.hid (fun (w' : World) (k : Keep (fun _ => False) w w') (s : Str) => parse_any s w' (hE.up.on k.none).up)
 clear hE
 obtain ⟨N, hN⟩ : ∃ N, s.length = N := ⟨_, rfl⟩
 obtain ⟨n, hn⟩ : ∃ n, ms.length = n := ⟨_, rfl⟩
 have hZ : ((strB s).size : Int) = (N : Int) := by rw [strB_size s, hN]
 have hZ2 : (strB s).size = N := by rw [strB_size s, hN]
 have HCH := Lib.hid (ch_str s)
 have HH := Lib.hid (And.intro hws (And.intro hsz (And.intro hN hn)))
 have HPS := Lib.hid (fun w' k => HPA.out w' k s)
 rw [hn] at hm ⊢
 rw [hN] at hs
 unfold maxLen at hm hs
 generalize hS : strB s = S at *
 have HSS := Lib.hid hS
 clear hws hsz hN hn hS
 go_enter Tryz.func6, Tryz.ntmps6
 go_wp2_with fail
 refine HBG.out.mono ?_
 clear HBG
 rintro e w1 ⟨rfl, k1⟩
 have HK1 := Lib.hid k1
 clear k1
 by_cases hA : 8192 < N
 ·have hA1 : (8192 : Int) < (N : Int) := by omega
  go_wp2_with fail
  go_ret
  exact ⟨rfl, HK1.out⟩
 have hA1 : ¬ (8192 : Int) < (N : Int) := by omega
 by_cases h0 : n = 0
 ·subst h0
  go_wp2_with fail
  go_ret
  exact ⟨rfl, HK1.out⟩
 have hn0 : ((n : Int) == 0) = false := by rw [beq_eq_false_iff_ne]; omega
 have hn1 : 0 < n := by omega
 have hnz : ¬ (n : Int) = 0 := by omega
 obtain ⟨i0, hi0, hz0, hz1, hz2⟩ := info8k
 have HI := Lib.hid (And.intro hi0 (And.intro hz0 (And.intro hz1 hz2)))
 obtain ⟨i1, hi0', hz0', hz1', hz2'⟩ := infoI
 have HJ := Lib.hid (And.intro hi0' (And.intro hz0' (And.intro hz1' hz2')))
 have HBL := Lib.hid (bl_len ms s 0)
 clear hi0 hz0 hz1 hz2 hi0' hz0' hz1' hz2'
 go_wp2_with fail
 go_loopg [5, 6, 7, 8, 9, 10, 11] (N + 1) (fun gq s5 s6 s7 s8 s9 s10 s11 wr => ∃ i a : Nat, gq + i = N + 1 ∧ i ≤ N ∧ a ≤ i ∧ s9 = .int .i64 (i : Int) ∧ s6 = .int .i64 (a : Int) ∧ s7 = .int .i64 (a : Int) ∧ Hid (∃ B : Str, TI w1 wr s5 s8 B a ∧ B ++ bl (mrow ms) a (s.drop i) = bl (mrow ms) 0 s ∧ a = (s.take i).countP (fun c : UInt8 => decide (c.toNat = 10))))
 case atStart => exact ⟨0, 0, by omega, by omega, by omega, rfl, rfl, rfl, [], TI.start _, by simp, by simp⟩
 case round =>
  obtain ⟨i, a, hgi, hiN, hai, rfl, rfl, rfl, B, hti, hbl, hct⟩ := hrel
  have hi0 : (0 : Int) ≤ (i : Int) := by omega
  have hiI : (i : Int) ≤ (N : Int) := by omega
  have hbb : B.length ≤ (N + 1) * 50 := by
   have h1 := HBL.out
   rw [← hbl, List.length_append, HH.out.2.2.1] at h1
   omega
  have HT := Lib.hid (And.intro hti hbl)
  have HB := Lib.hid hbb
  have HCT := Lib.hid hct
  clear hti hbl hbb hct
  obtain ⟨r, hr⟩ : ∃ r, a % n = r := ⟨_, rfl⟩
  have hrn : r < n := by rw [← hr]; exact Nat.mod_lt _ hn1
  have hrm : Int.tmod (a : Int) (n : Int) = (r : Int) := by rw [← hr]; rfl
  have hr0 : (0 : Int) ≤ (r : Int) := by omega
  have hrI : (r : Int) < (n : Int) := by omega
  obtain ⟨g, f, e, hc, hl⟩ := HH.out.1 r (by rw [HH.out.2.2.2]; exact hrn)
  have cx : wr.cell? ⟨g, f + r, none⟩ = some (.string (strB (ms.getD r []))) := ((HT.out.1.from_ HK1.out).cell (p := ⟨g, f + r, none⟩) hl id).trans hc
  have HR := Lib.hid (And.intro hr (And.intro hc hl))
  have hxs := HH.out.2.1 r
  clear hr hc hl
  subst e
  by_cases hE : i = N
  ·obtain rfl : i = N := hE
   obtain ⟨x0, hx0⟩ : ∃ x0, ms.getD r [] = x0 := ⟨_, rfl⟩
   rw [hx0] at cx hxs
   obtain ⟨x, hx⟩ : ∃ x, x0.take 40 = x := ⟨_, rfl⟩
   have hxl : x.length ≤ 40 := by rw [← hx, List.length_take]; omega
   obtain ⟨X, hX⟩ : ∃ X, x.length = X := ⟨_, rfl⟩
   rw [hX] at hxl
   have hXs : ((strB x).size : Int) = (X : Int) := by rw [strB_size, hX]
   have HXC := Lib.hid (ch_str x)
   have HX := Lib.hid (And.intro hx0 (And.intro hx hX))
   obtain ⟨L0, hL0⟩ : ∃ L0, x0.length = L0 := ⟨_, rfl⟩
   have hXs0 : ((strB x0).size : Int) = (L0 : Int) := by rw [strB_size, hL0]
   rw [hL0] at hxs
   unfold maxLen at hxs
   have HS1 := Lib.hid (show 40 < L0 → (strB x0).extract 0 40 = strB x from fun h => by
    rw [cur_ext (Nat.zero_le _) (by omega)]
    unfold cur
    rw [List.drop_zero, hx])
   have HS2 := Lib.hid (show ¬ 40 < L0 → strB x0 = strB x from fun h => by rw [← hx, List.take_of_length_le (by omega)])
   clear hx hx0 hX hL0
   generalize strB x0 = Y0 at *
   generalize hY : strB x = Y at *
   have HY := Lib.hid hY
   clear hY
   by_cases hL : 40 < L0
   ·have hL1 : (40 : Int) < (L0 : Int) := by omega
    have hL2 : (40 : Int) ≤ (L0 : Int) := by omega
    have hE1 := HS1.out hL
    go_wp2_with fail
    clear hE1 HS1 HS2 hL hL1 hL2 hXs0
    obtain ⟨G, hG⟩ : ∃ G, gk = G := ⟨_, rfl⟩
    rw [hG] at hgi
    have HGG := Lib.hid hG
    clear hG
    go_loopg [11] X (fun gq s11 wx => ∃ k : Nat, gq + k = X ∧ s11 = .int .i64 (k : Int) ∧ Hid (has 10 (x.take k) = false ∧ wx = wr))
    case atStart => exact ⟨0, by omega, rfl, rfl, rfl⟩
    case round =>
     obtain ⟨k, hgk, rfl, hno, hw⟩ := hrel
     subst hw
     by_cases hk : k < X
     ·have hkI : (k : Int) < (X : Int) := by omega
      have hk0 : (0 : Int) ≤ (k : Int) := by omega
      have hkx : k < x.length := by rw [HX.out.2.2]; exact hk
      have hch := HXC.out k hkx

      have hlt := ch_lt Y (k : Int)
      have hnx : has 10 (x.take (k + 1)) = decide (ch Y (k : Int) = 10) := by
       rw [show x.take (k + 1) = x.take k ++ [x[k]] by rw [List.take_add_one, List.getElem?_eq_getElem hkx]; rfl, has_app, hno, hch]
       simp [has]
      have HNO := Lib.hid hnx
      clear hno hnx hkx hch
      generalize hn9 : ch Y (k : Int) = c at *
      by_cases hc : c = 10
      ·subst hc
       go_wp2_with fail
       go_ret
       exact ⟨rfl, HT.out.1.from_ HK1.out⟩
      ·have hcI : ((c : Int) == 10) = false := by rw [beq_eq_false_iff_ne]; omega
       have hcJ : ¬ (c : Int) = 10 := by omega
       go_wp2_with fail
       go_roundg (gk - 1)
       all_goals first | omega | skip
       exact ⟨k + 1, by omega, by simp, by rw [HNO.out, decide_eq_false hc], rfl⟩
     ·obtain rfl : k = X := by omega
      have hkI : ¬ (k : Int) < (k : Int) := by omega
      have hmr : mrow ms a = x := mrow_of (r := r) (by rw [HH.out.2.2.2]; exact HR.out.1) (by rw [HX.out.1]; exact HX.out.2.1) (by rw [List.take_of_length_le (by rw [HX.out.2.2]; exact Nat.le_refl _)] at hno; exact hno)
      have HMR := Lib.hid hmr
      clear hno hmr
      have hYY := HY.out
      subst hYY
      go_upto_region 30 with (first
       | (at_builtin; refine wpList_append_str_k _ rfl (.tmp 66) (.const (.string ⟨#[32, 9, 35]⟩)) 53 9 rfl 5 i0 Tryz.underlying53 Tryz.underlying9 HI.out.1 HI.out.2.1 HI.out.2.2.1 HI.out.2.2.2 _ _ _ rfl (row_base HT.out.1.t fun g _ => Nat.zero_le _) [32, 9, 35] rfl (by have := HB.out; simp; omega) ?_; intro v1 w4 hrow hgr hblk; have HT1 := Lib.hid (HT.out.1.grow hrow (keep_grown hgr) hblk); clear hrow hgr hblk)
       | (at_builtin; refine wpList_append_str_k _ rfl (.tmp 68) (.tmp 69) 53 9 rfl 5 i0 Tryz.underlying53 Tryz.underlying9 HI.out.1 HI.out.2.1 HI.out.2.2.1 HI.out.2.2.2 _ (B ++ [32, 9, 35]).length _ rfl (row_base HT1.out.t fun g _ => Nat.zero_le _) x rfl (by have := HB.out; have := HX.out.2.2; simp; omega) ?_; intro v2 w5 hrow hgr hblk; have HT2 := Lib.hid (HT1.out.grow hrow (keep_grown hgr) hblk); clear hrow hgr hblk))
      obtain ⟨T, hT⟩ : ∃ T, bl (mrow ms) 0 s = T := ⟨_, rfl⟩
      have hTT : (B ++ [32, 9, 35]) ++ x = T := by
       rw [← hT, ← HT.out.2, List.drop_eq_nil_of_le (by rw [HH.out.2.2.1]; exact Nat.le_refl _), bl, HMR.out]
       simp only [List.append_assoc]
      have hti := HT2.out
      rw [hTT] at hti
      obtain ⟨LT, hLT⟩ : ∃ n, T.length = n := ⟨_, rfl⟩
      have hrt := hti.t
      rw [hLT] at hrt
      obtain ⟨oT, cT, rfl⟩ := row_val hrt
      have HTI := Lib.hid (And.intro hti (And.intro hT hLT))
      have HKW := Lib.hid (hti.from_ HK1.out)
      have hac : a = s.countP (fun c : UInt8 => decide (c.toNat = 10)) := by rw [HCT.out, List.take_of_length_le (by rw [HH.out.2.2.1]; exact Nat.le_refl _)]
      have HAC := Lib.hid hac
      clear hTT hti hrt HT1 HT2 HMR HT HB hac HCT
      by_cases hl : 65536 < LT
      ·have hlI : (65536 : Int) < (LT : Int) := by omega
       go_wp2_with fail
       go_ret
       exact ⟨rfl, HKW.out⟩
      ·have hlI : ¬ (65536 : Int) < (LT : Int) := by omega
       have hlaw := blanks_law (mrow ms) s (mrow_no ms) (by rw [HH.out.2.2.1]; omega) (by rw [HTI.out.2.1, HTI.out.2.2]; omega)
       rw [HTI.out.2.1] at hlaw
       have HLAW := Lib.hid (And.intro hlaw (parseF_no s))
       clear hlaw
       go_upto_region 33 with (first
        | (go_at_call 8; refine (HPS.out _ HKW.out).mono ?_; rintro e w6 ⟨mA, ownA, nA, cA, rfl, hpA, hlA, -, kA⟩; have HPA1 := Lib.hid (And.intro hpA (And.intro hlA kA)); clear hpA hlA kA)
        | (refine store_guard (.tmp 12) (.tmp 103) 40 (by rfl) ?_; go_must (refine store_play rfl (.tmp 12) (.tmp 103) rfl _ mA.val rfl rfl rfl m0.val rfl (blk_new _ _) HPA1.out.2.1.seen.val_one ?_)))
       generalize hW7 : World.setRow _ _ mA.val = W7
       have hbA : W7.heap[w6.heap.size]? = some (.cells mA.val 40 (0, 0)) := by rw [← hW7]; exact setRow_heap _ _ _ mA.val _ _ (blk_new _ _)
       have k67 : Keep (fun _ => False) w6 W7 := by rw [← hW7]; exact Keep.setRow ((Keep.refl _ w6).alloc _) (Or.inr (Nat.le_refl _)) _
       obtain ⟨qA, hqA⟩ : ∃ q, w6.heap.size = q := ⟨_, rfl⟩
       rw [hqA] at hbA ⊢
       have k57 := HPA1.out.2.2.trans k67
       have HB7 := Lib.hid (And.intro hbA (And.intro (HPA1.out.2.1.seen.kept k67) k57))
       have HTI7 := Lib.hid (And.intro (row_keep HTI.out.1.t k57 fun _ _ => id) (row_keep HTI.out.1.i k57 fun _ _ => id))
       have hcv := conv_str (by have h := HTI7.out.1; rw [HTI.out.2.2] at h; exact h)
       have HPT := Lib.hid (HPA.out W7 (HKW.out.trans k57) T)
       clear hW7 hqA hbA k67 k57
       go_upto_region 34 with (first
        | (go_at_call 8; refine HPT.out.mono ?_; rintro e w8 ⟨mB, ownB, nB, cB, rfl, hpB, hlB, -, kB⟩; have HPB := Lib.hid (And.intro hpB (And.intro hlB kB)); clear hpB hlB kB)
        | (refine store_guard (.tmp 15) (.tmp 110) 40 (by rfl) ?_; go_must (refine store_play rfl (.tmp 15) (.tmp 110) rfl _ mB.val rfl rfl rfl m0.val rfl (blk_new _ _) HPB.out.2.1.seen.val_one ?_)))
       generalize hW9 : World.setRow _ _ mB.val = W9
       have hbB : W9.heap[w8.heap.size]? = some (.cells mB.val 40 (0, 0)) := by rw [← hW9]; exact setRow_heap _ _ _ mB.val _ _ (blk_new _ _)
       have k89 : Keep (fun _ => False) w8 W9 := by rw [← hW9]; exact Keep.setRow ((Keep.refl _ w8).alloc _) (Or.inr (Nat.le_refl _)) _
       obtain ⟨qB, hqB⟩ : ∃ q, w8.heap.size = q := ⟨_, rfl⟩
       rw [hqB] at hbB ⊢
       have k79 := HPB.out.2.2.trans k89
       have hA9 : W9.heap[qA]? = some (.cells mA.val 40 (0, 0)) := k79.same HB7.out.1 id
       obtain ⟨z1, z2⟩ := Prod.mk.inj HPA1.out.1
       obtain ⟨z2, z3⟩ := Prod.mk.inj z2
       obtain ⟨z4, z5⟩ := Prod.mk.inj HPB.out.1
       obtain ⟨z5, z6⟩ := Prod.mk.inj z5
       obtain ⟨N1, hN1⟩ : ∃ n, (parseF s).2.1 = n := ⟨_, rfl⟩
       have hcc : cB = cA := by rw [z6, z3]; exact HLAW.out.1.2.1
       have hnB : nB = (if 1 < N1 then (N1 : Int) + ((N1 : Int) - 1) else N1) := by
        rw [z5, HLAW.out.1.2.2, hN1]
        split
        ·omega
        ·rfl
       have hnA : nA = (N1 : Int) := by rw [z2, hN1]
       have hN2 : N1 ≤ a + 1 := by have := HLAW.out.2; rw [hN1, ← HAC.out] at this; exact this
       have hpp : canP mA.play = canP mB.play := by rw [z1, z4, HLAW.out.1.1]
       have HE := Lib.hid (fun (W : World) (k : Keep (fun _ => False) W9 W) => eq_any mA mB W ((HB7.out.2.1.kept k79).kept k) ((HPB.out.2.1.seen.kept k89).kept k) hpp (bd_inv (by rw [z1]; exact inv_parse s)).1 (bd_inv (by rw [z1]; exact inv_parse s)).2)
       have HK9 := Lib.hid (And.intro hA9 (And.intro hbB ((HKW.out.trans HB7.out.2.2).trans k79)))
       have hri := row_keep HTI7.out.2 k79 fun _ _ => id
       subst hcc
       clear hW9 hqB hbB k89 k79 hA9 z1 z2 z3 z4 z5 z6 hpp hcv
       obtain ⟨oI, cI, rfl⟩ := row_val hri
       have HRI := Lib.hid (SlAt.of_row hri)
       clear hri
       go_upto_region 36 with (first
        | (refine load_guard (.tmp 12) 40 (by rfl) ?_; go_must (refine load_play_want (by kernel_rfl) (.tmp 12) rfl qA rfl mA.val rfl HK9.out.1 ?_))
        | (refine load_guard (.tmp 15) 40 (by rfl) ?_; go_must (refine load_play_want (by kernel_rfl) (.tmp 15) rfl qB rfl mB.val rfl HK9.out.2.1 ?_))
        | (go_at_call 10; refine (HE.out _ (Keep.refl _ _)).mono ?_; rintro e w10 ⟨rfl, kE⟩; have HKE := Lib.hid kE; clear kE))
       have HKF := Lib.hid ((HK9.out.2.2.trans HKE.out))
       by_cases h1 : 1 < N1
       ·obtain ⟨M, rfl⟩ : ∃ M, N1 = M + 2 := ⟨N1 - 2, by omega⟩
        obtain ⟨o', c', e', -, hcs, -⟩ := HRI.out
        cases e'
        have hMa : M < a := by omega
        obtain ⟨gI, fI, rfl, hcI, hlI2⟩ := hcs M (by simpa using hMa)
        rw [List.getElem?_map, List.getElem?_range hMa] at hcI
        simp only [Option.map_some] at hcI
        have hcI2 := cell_kept HKE.out hcI
        have hM0 : (0 : Int) ≤ (M : Int) := by omega
        have hMI : (M : Int) < (a : Int) := by omega
        have hMb : (M : Int) ≤ 8192 := by omega
        have hM2 : ((M + 2 : Nat) : Int) = (M : Int) + 2 := by omega
        have hif : (if 1 < M + 2 then ((M + 2 : Nat) : Int) + (((M + 2 : Nat) : Int) - 1) else ((M + 2 : Nat) : Int)) = (M : Int) + 2 + ((M : Int) + 1) := by rw [if_pos (by omega)]; omega
        rw [hif, hM2]
        clear hN1 hM2 hif h1 hcI hcs hN2
        go_wp2_with fail
        go_ret
        exact ⟨rfl, HKF.out⟩
       ·have hif : (if 1 < N1 then (N1 : Int) + ((N1 : Int) - 1) else (N1 : Int)) = (N1 : Int) := if_neg h1
        have h1I : ¬ (1 : Int) < (N1 : Int) := by omega
        rw [hif]
        clear hN1 hif
        go_wp2_with fail
        go_ret
        exact ⟨rfl, HKF.out⟩
   ·have hL1 : ¬ (40 : Int) < (L0 : Int) := by omega
    obtain rfl : Y0 = Y := HS2.out hL
    obtain rfl : L0 = X := by omega
    clear hXs0
    go_wp2_with fail
    clear HS1 HS2 hL hL1
    obtain ⟨G, hG⟩ : ∃ G, gk = G := ⟨_, rfl⟩
    rw [hG] at hgi
    have HGG := Lib.hid hG
    clear hG
    go_loopg [11] L0 (fun gq s11 wx => ∃ k : Nat, gq + k = L0 ∧ s11 = .int .i64 (k : Int) ∧ Hid (has 10 (x.take k) = false ∧ wx = wr))
    case atStart => exact ⟨0, by omega, rfl, rfl, rfl⟩
    case round =>
     obtain ⟨k, hgk, rfl, hno, hw⟩ := hrel
     subst hw
     by_cases hk : k < L0
     ·have hkI : (k : Int) < (L0 : Int) := by omega
      have hk0 : (0 : Int) ≤ (k : Int) := by omega
      have hkx : k < x.length := by rw [HX.out.2.2]; exact hk
      have hch := HXC.out k hkx

      have hlt := ch_lt Y0 (k : Int)
      have hnx : has 10 (x.take (k + 1)) = decide (ch Y0 (k : Int) = 10) := by
       rw [show x.take (k + 1) = x.take k ++ [x[k]] by rw [List.take_add_one, List.getElem?_eq_getElem hkx]; rfl, has_app, hno, hch]
       simp [has]
      have HNO := Lib.hid hnx
      clear hno hnx hkx hch
      generalize hn9 : ch Y0 (k : Int) = c at *
      by_cases hc : c = 10
      ·subst hc
       go_wp2_with fail
       go_ret
       exact ⟨rfl, HT.out.1.from_ HK1.out⟩
      ·have hcI : ((c : Int) == 10) = false := by rw [beq_eq_false_iff_ne]; omega
       have hcJ : ¬ (c : Int) = 10 := by omega
       go_wp2_with fail
       go_roundg (gk - 1)
       all_goals first | omega | skip
       exact ⟨k + 1, by omega, by simp, by rw [HNO.out, decide_eq_false hc], rfl⟩
     ·obtain rfl : k = L0 := by omega
      have hkI : ¬ (k : Int) < (k : Int) := by omega
      have hmr : mrow ms a = x := mrow_of (r := r) (by rw [HH.out.2.2.2]; exact HR.out.1) (by rw [HX.out.1]; exact HX.out.2.1) (by rw [List.take_of_length_le (by rw [HX.out.2.2]; exact Nat.le_refl _)] at hno; exact hno)
      have HMR := Lib.hid hmr
      clear hno hmr
      have hYY := HY.out
      subst hYY
      go_upto_region 30 with (first
       | (at_builtin; refine wpList_append_str_k _ rfl (.tmp 66) (.const (.string ⟨#[32, 9, 35]⟩)) 53 9 rfl 5 i0 Tryz.underlying53 Tryz.underlying9 HI.out.1 HI.out.2.1 HI.out.2.2.1 HI.out.2.2.2 _ _ _ rfl (row_base HT.out.1.t fun g _ => Nat.zero_le _) [32, 9, 35] rfl (by have := HB.out; simp; omega) ?_; intro v1 w4 hrow hgr hblk; have HT1 := Lib.hid (HT.out.1.grow hrow (keep_grown hgr) hblk); clear hrow hgr hblk)
       | (at_builtin; refine wpList_append_str_k _ rfl (.tmp 68) (.tmp 69) 53 9 rfl 5 i0 Tryz.underlying53 Tryz.underlying9 HI.out.1 HI.out.2.1 HI.out.2.2.1 HI.out.2.2.2 _ (B ++ [32, 9, 35]).length _ rfl (row_base HT1.out.t fun g _ => Nat.zero_le _) x rfl (by have := HB.out; have := HX.out.2.2; simp; omega) ?_; intro v2 w5 hrow hgr hblk; have HT2 := Lib.hid (HT1.out.grow hrow (keep_grown hgr) hblk); clear hrow hgr hblk))
      obtain ⟨T, hT⟩ : ∃ T, bl (mrow ms) 0 s = T := ⟨_, rfl⟩
      have hTT : (B ++ [32, 9, 35]) ++ x = T := by
       rw [← hT, ← HT.out.2, List.drop_eq_nil_of_le (by rw [HH.out.2.2.1]; exact Nat.le_refl _), bl, HMR.out]
       simp only [List.append_assoc]
      have hti := HT2.out
      rw [hTT] at hti
      obtain ⟨LT, hLT⟩ : ∃ n, T.length = n := ⟨_, rfl⟩
      have hrt := hti.t
      rw [hLT] at hrt
      obtain ⟨oT, cT, rfl⟩ := row_val hrt
      have HTI := Lib.hid (And.intro hti (And.intro hT hLT))
      have HKW := Lib.hid (hti.from_ HK1.out)
      have hac : a = s.countP (fun c : UInt8 => decide (c.toNat = 10)) := by rw [HCT.out, List.take_of_length_le (by rw [HH.out.2.2.1]; exact Nat.le_refl _)]
      have HAC := Lib.hid hac
      clear hTT hti hrt HT1 HT2 HMR HT HB hac HCT
      by_cases hl : 65536 < LT
      ·have hlI : (65536 : Int) < (LT : Int) := by omega
       go_wp2_with fail
       go_ret
       exact ⟨rfl, HKW.out⟩
      ·have hlI : ¬ (65536 : Int) < (LT : Int) := by omega
       have hlaw := blanks_law (mrow ms) s (mrow_no ms) (by rw [HH.out.2.2.1]; omega) (by rw [HTI.out.2.1, HTI.out.2.2]; omega)
       rw [HTI.out.2.1] at hlaw
       have HLAW := Lib.hid (And.intro hlaw (parseF_no s))
       clear hlaw
       go_upto_region 33 with (first
        | (go_at_call 8; refine (HPS.out _ HKW.out).mono ?_; rintro e w6 ⟨mA, ownA, nA, cA, rfl, hpA, hlA, -, kA⟩; have HPA1 := Lib.hid (And.intro hpA (And.intro hlA kA)); clear hpA hlA kA)
        | (refine store_guard (.tmp 12) (.tmp 103) 40 (by rfl) ?_; go_must (refine store_play rfl (.tmp 12) (.tmp 103) rfl _ mA.val rfl rfl rfl m0.val rfl (blk_new _ _) HPA1.out.2.1.seen.val_one ?_)))
       generalize hW7 : World.setRow _ _ mA.val = W7
       have hbA : W7.heap[w6.heap.size]? = some (.cells mA.val 40 (0, 0)) := by rw [← hW7]; exact setRow_heap _ _ _ mA.val _ _ (blk_new _ _)
       have k67 : Keep (fun _ => False) w6 W7 := by rw [← hW7]; exact Keep.setRow ((Keep.refl _ w6).alloc _) (Or.inr (Nat.le_refl _)) _
       obtain ⟨qA, hqA⟩ : ∃ q, w6.heap.size = q := ⟨_, rfl⟩
       rw [hqA] at hbA ⊢
       have k57 := HPA1.out.2.2.trans k67
       have HB7 := Lib.hid (And.intro hbA (And.intro (HPA1.out.2.1.seen.kept k67) k57))
       have HTI7 := Lib.hid (And.intro (row_keep HTI.out.1.t k57 fun _ _ => id) (row_keep HTI.out.1.i k57 fun _ _ => id))
       have hcv := conv_str (by have h := HTI7.out.1; rw [HTI.out.2.2] at h; exact h)
       have HPT := Lib.hid (HPA.out W7 (HKW.out.trans k57) T)
       clear hW7 hqA hbA k67 k57
       go_upto_region 34 with (first
        | (go_at_call 8; refine HPT.out.mono ?_; rintro e w8 ⟨mB, ownB, nB, cB, rfl, hpB, hlB, -, kB⟩; have HPB := Lib.hid (And.intro hpB (And.intro hlB kB)); clear hpB hlB kB)
        | (refine store_guard (.tmp 15) (.tmp 110) 40 (by rfl) ?_; go_must (refine store_play rfl (.tmp 15) (.tmp 110) rfl _ mB.val rfl rfl rfl m0.val rfl (blk_new _ _) HPB.out.2.1.seen.val_one ?_)))
       generalize hW9 : World.setRow _ _ mB.val = W9
       have hbB : W9.heap[w8.heap.size]? = some (.cells mB.val 40 (0, 0)) := by rw [← hW9]; exact setRow_heap _ _ _ mB.val _ _ (blk_new _ _)
       have k89 : Keep (fun _ => False) w8 W9 := by rw [← hW9]; exact Keep.setRow ((Keep.refl _ w8).alloc _) (Or.inr (Nat.le_refl _)) _
       obtain ⟨qB, hqB⟩ : ∃ q, w8.heap.size = q := ⟨_, rfl⟩
       rw [hqB] at hbB ⊢
       have k79 := HPB.out.2.2.trans k89
       have hA9 : W9.heap[qA]? = some (.cells mA.val 40 (0, 0)) := k79.same HB7.out.1 id
       obtain ⟨z1, z2⟩ := Prod.mk.inj HPA1.out.1
       obtain ⟨z2, z3⟩ := Prod.mk.inj z2
       obtain ⟨z4, z5⟩ := Prod.mk.inj HPB.out.1
       obtain ⟨z5, z6⟩ := Prod.mk.inj z5
       obtain ⟨N1, hN1⟩ : ∃ n, (parseF s).2.1 = n := ⟨_, rfl⟩
       have hcc : cB = cA := by rw [z6, z3]; exact HLAW.out.1.2.1
       have hnB : nB = (if 1 < N1 then (N1 : Int) + ((N1 : Int) - 1) else N1) := by
        rw [z5, HLAW.out.1.2.2, hN1]
        split
        ·omega
        ·rfl
       have hnA : nA = (N1 : Int) := by rw [z2, hN1]
       have hN2 : N1 ≤ a + 1 := by have := HLAW.out.2; rw [hN1, ← HAC.out] at this; exact this
       have hpp : canP mA.play = canP mB.play := by rw [z1, z4, HLAW.out.1.1]
       have HE := Lib.hid (fun (W : World) (k : Keep (fun _ => False) W9 W) => eq_any mA mB W ((HB7.out.2.1.kept k79).kept k) ((HPB.out.2.1.seen.kept k89).kept k) hpp (bd_inv (by rw [z1]; exact inv_parse s)).1 (bd_inv (by rw [z1]; exact inv_parse s)).2)
       have HK9 := Lib.hid (And.intro hA9 (And.intro hbB ((HKW.out.trans HB7.out.2.2).trans k79)))
       have hri := row_keep HTI7.out.2 k79 fun _ _ => id
       subst hcc
       clear hW9 hqB hbB k89 k79 hA9 z1 z2 z3 z4 z5 z6 hpp hcv
       obtain ⟨oI, cI, rfl⟩ := row_val hri
       have HRI := Lib.hid (SlAt.of_row hri)
       clear hri
       go_upto_region 36 with (first
        | (refine load_guard (.tmp 12) 40 (by rfl) ?_; go_must (refine load_play_want (by kernel_rfl) (.tmp 12) rfl qA rfl mA.val rfl HK9.out.1 ?_))
        | (refine load_guard (.tmp 15) 40 (by rfl) ?_; go_must (refine load_play_want (by kernel_rfl) (.tmp 15) rfl qB rfl mB.val rfl HK9.out.2.1 ?_))
        | (go_at_call 10; refine (HE.out _ (Keep.refl _ _)).mono ?_; rintro e w10 ⟨rfl, kE⟩; have HKE := Lib.hid kE; clear kE))
       have HKF := Lib.hid ((HK9.out.2.2.trans HKE.out))
       by_cases h1 : 1 < N1
       ·obtain ⟨M, rfl⟩ : ∃ M, N1 = M + 2 := ⟨N1 - 2, by omega⟩
        obtain ⟨o', c', e', -, hcs, -⟩ := HRI.out
        cases e'
        have hMa : M < a := by omega
        obtain ⟨gI, fI, rfl, hcI, hlI2⟩ := hcs M (by simpa using hMa)
        rw [List.getElem?_map, List.getElem?_range hMa] at hcI
        simp only [Option.map_some] at hcI
        have hcI2 := cell_kept HKE.out hcI
        have hM0 : (0 : Int) ≤ (M : Int) := by omega
        have hMI : (M : Int) < (a : Int) := by omega
        have hMb : (M : Int) ≤ 8192 := by omega
        have hM2 : ((M + 2 : Nat) : Int) = (M : Int) + 2 := by omega
        have hif : (if 1 < M + 2 then ((M + 2 : Nat) : Int) + (((M + 2 : Nat) : Int) - 1) else ((M + 2 : Nat) : Int)) = (M : Int) + 2 + ((M : Int) + 1) := by rw [if_pos (by omega)]; omega
        rw [hif, hM2]
        clear hN1 hM2 hif h1 hcI hcs hN2
        go_wp2_with fail
        go_ret
        exact ⟨rfl, HKF.out⟩
       ·have hif : (if 1 < N1 then (N1 : Int) + ((N1 : Int) - 1) else (N1 : Int)) = (N1 : Int) := if_neg h1
        have h1I : ¬ (1 : Int) < (N1 : Int) := by omega
        rw [hif]
        clear hN1 hif
        go_wp2_with fail
        go_ret
        exact ⟨rfl, HKF.out⟩
  ·have hiN1 : (i : Int) < (N : Int) := by omega
   have hin : i < N := by omega
   have hine : ¬ (i : Int) = (N : Int) := by omega
   have hib : ((i : Int) == (N : Int)) = false := by rw [beq_eq_false_iff_ne]; exact hine
   have hil : i < s.length := by rw [HH.out.2.2.1]; exact hin
   have hch := HCH.out i hil

   have HCU := Lib.hid (List.drop_eq_getElem_cons hil)
   have hctn : (s.take (i + 1)).countP (fun c : UInt8 => decide (c.toNat = 10)) = (s.take i).countP (fun c : UInt8 => decide (c.toNat = 10)) + if (s[i]).toNat = 10 then 1 else 0 := by
    rw [show s.take (i + 1) = s.take i ++ [s[i]] by rw [List.take_add_one, List.getElem?_eq_getElem hil]; rfl, List.countP_append]
    simp [List.countP_cons]
   have hlt := ch_lt S (i : Int)
   obtain ⟨d, hd⟩ : ∃ d, s[i] = d := ⟨_, rfl⟩
   rw [hd] at HCU hch hctn
   have HD := Lib.hid hch
   have HCN := Lib.hid hctn
   clear hd hil hE hch hctn
   generalize hn9 : ch S (i : Int) = c at *
   by_cases hc : c = 10
   ·subst hc
    have HC10 := Lib.hid (show d.toNat = 10 from HD.out.symm)
    obtain ⟨x0, hx0⟩ : ∃ x0, ms.getD r [] = x0 := ⟨_, rfl⟩
    rw [hx0] at cx hxs
    obtain ⟨x, hx⟩ : ∃ x, x0.take 40 = x := ⟨_, rfl⟩
    have hxl : x.length ≤ 40 := by rw [← hx, List.length_take]; omega
    obtain ⟨X, hX⟩ : ∃ X, x.length = X := ⟨_, rfl⟩
    rw [hX] at hxl
    have hXs : ((strB x).size : Int) = (X : Int) := by rw [strB_size, hX]
    have HXC := Lib.hid (ch_str x)
    have HX := Lib.hid (And.intro hx0 (And.intro hx hX))
    obtain ⟨L0, hL0⟩ : ∃ L0, x0.length = L0 := ⟨_, rfl⟩
    have hXs0 : ((strB x0).size : Int) = (L0 : Int) := by rw [strB_size, hL0]
    rw [hL0] at hxs
    unfold maxLen at hxs
    have HS1 := Lib.hid (show 40 < L0 → (strB x0).extract 0 40 = strB x from fun h => by
     rw [cur_ext (Nat.zero_le _) (by omega)]
     unfold cur
     rw [List.drop_zero, hx])
    have HS2 := Lib.hid (show ¬ 40 < L0 → strB x0 = strB x from fun h => by rw [← hx, List.take_of_length_le (by omega)])
    clear hx hx0 hX hL0
    generalize strB x0 = Y0 at *
    generalize hY : strB x = Y at *
    have HY := Lib.hid hY
    clear hY
    by_cases hL : 40 < L0
    ·have hL1 : (40 : Int) < (L0 : Int) := by omega
     have hL2 : (40 : Int) ≤ (L0 : Int) := by omega
     have hE1 := HS1.out hL
     go_wp2_with fail
     clear hE1 HS1 HS2 hL hL1 hL2 hXs0
     obtain ⟨G, hG⟩ : ∃ G, gk = G := ⟨_, rfl⟩
     rw [hG] at hgi
     have HGG := Lib.hid hG
     clear hG
     go_loopg [11] X (fun gq s11 wx => ∃ k : Nat, gq + k = X ∧ s11 = .int .i64 (k : Int) ∧ Hid (has 10 (x.take k) = false ∧ wx = wr))
     case atStart => exact ⟨0, by omega, rfl, rfl, rfl⟩
     case round =>
      obtain ⟨k, hgk, rfl, hno, hw⟩ := hrel
      subst hw
      by_cases hk : k < X
      ·have hkI : (k : Int) < (X : Int) := by omega
       have hk0 : (0 : Int) ≤ (k : Int) := by omega
       have hkx : k < x.length := by rw [HX.out.2.2]; exact hk
       have hch := HXC.out k hkx

       have hlt := ch_lt Y (k : Int)
       have hnx : has 10 (x.take (k + 1)) = decide (ch Y (k : Int) = 10) := by
        rw [show x.take (k + 1) = x.take k ++ [x[k]] by rw [List.take_add_one, List.getElem?_eq_getElem hkx]; rfl, has_app, hno, hch]
        simp [has]
       have HNO := Lib.hid hnx
       clear hno hnx hkx hch
       generalize hn9 : ch Y (k : Int) = c at *
       by_cases hc : c = 10
       ·subst hc
        go_wp2_with fail
        go_ret
        exact ⟨rfl, HT.out.1.from_ HK1.out⟩
       ·have hcI : ((c : Int) == 10) = false := by rw [beq_eq_false_iff_ne]; omega
        have hcJ : ¬ (c : Int) = 10 := by omega
        go_wp2_with fail
        go_roundg (gk - 1)
        all_goals first | omega | skip
        exact ⟨k + 1, by omega, by simp, by rw [HNO.out, decide_eq_false hc], rfl⟩
      ·obtain rfl : k = X := by omega
       have hkI : ¬ (k : Int) < (k : Int) := by omega
       have hmr : mrow ms a = x := mrow_of (r := r) (by rw [HH.out.2.2.2]; exact HR.out.1) (by rw [HX.out.1]; exact HX.out.2.1) (by rw [List.take_of_length_le (by rw [HX.out.2.2]; exact Nat.le_refl _)] at hno; exact hno)
       have HMR := Lib.hid hmr
       clear hno hmr
       have hYY := HY.out
       subst hYY
       go_wp2_with (first
        | (at_builtin; refine wpList_append_str_k _ rfl (.tmp 66) (.const (.string ⟨#[32, 9, 35]⟩)) 53 9 rfl 5 i0 Tryz.underlying53 Tryz.underlying9 HI.out.1 HI.out.2.1 HI.out.2.2.1 HI.out.2.2.2 _ _ _ rfl (row_base HT.out.1.t fun g _ => Nat.zero_le _) [32, 9, 35] rfl (by have := HB.out; simp; omega) ?_; intro v1 w4 hrow hgr hblk; have HT1 := Lib.hid (HT.out.1.grow hrow (keep_grown hgr) hblk); clear hrow hgr hblk)
        | (at_builtin; refine wpList_append_str_k _ rfl (.tmp 68) (.tmp 69) 53 9 rfl 5 i0 Tryz.underlying53 Tryz.underlying9 HI.out.1 HI.out.2.1 HI.out.2.2.1 HI.out.2.2.2 _ (B ++ [32, 9, 35]).length _ rfl (row_base HT1.out.t fun g _ => Nat.zero_le _) x rfl (by have := HB.out; have := HX.out.2.2; simp; omega) ?_; intro v2 w5 hrow hgr hblk; have HT2 := Lib.hid (HT1.out.grow hrow (keep_grown hgr) hblk); clear hrow hgr hblk)
        | (at_builtin; refine wpList_append_str_k _ rfl (.tmp 75) (.const (.string ⟨#[10, 32, 9, 10]⟩)) 53 9 rfl 5 i0 Tryz.underlying53 Tryz.underlying9 HI.out.1 HI.out.2.1 HI.out.2.2.1 HI.out.2.2.2 _ ((B ++ [32, 9, 35]) ++ x).length _ rfl (row_base HT2.out.t fun g _ => Nat.zero_le _) [10, 32, 9, 10] rfl (by have := HB.out; have := HX.out.2.2; simp; omega) ?_; intro v3 w6 hrow hgr hblk; have HT3 := Lib.hid (HT2.out.grow hrow (keep_grown hgr) hblk); clear hrow hgr hblk)
        | (at_builtin; refine wpList_append_own_at _ rfl (.tmp 79) (.tmp 81) 37 rfl w1.heap.size 3 i1 _ 1 8 Tryz.underlying37 HJ.out.1 HJ.out.2.1 HJ.out.2.2.1 HJ.out.2.2.2 rfl (by decide) _ a _ rfl (row_keep HT3.out.i ((Keep.refl (fun _ => False) _).alloc _) fun _ _ => id) ⟨_, 0, none⟩ 1 1 [.int .i64 ((a : Int) + 1)] rfl rfl (cell_one_new _ _ _) (by simp [Value.oneCell']) (by unfold maxLen; omega) (by omega) (by have := HT3.out.k.size; simp; omega) ?_; intro v4 w7 hrow hgr _ hblk; have HT4 := Lib.hid (HT3.out.num hrow hgr hblk); clear hrow hgr hblk))
       have hG := HGG.out
       go_roundg (G - 1)
       all_goals first | omega | skip
       refine ⟨i + 1, a + 1, by omega, by omega, by omega, by simp, by simp, by simp, _, HT4.out, ?_, by rw [HCN.out, if_pos HC10.out, ← HCT.out]⟩
       rw [← HT.out.2, HCU.out, bl_at, if_pos (by rw [HC10.out]), HMR.out]
       simp only [List.append_assoc]
    ·have hL1 : ¬ (40 : Int) < (L0 : Int) := by omega
     obtain rfl : Y0 = Y := HS2.out hL
     obtain rfl : L0 = X := by omega
     clear hXs0
     go_wp2_with fail
     clear HS1 HS2 hL hL1
     obtain ⟨G, hG⟩ : ∃ G, gk = G := ⟨_, rfl⟩
     rw [hG] at hgi
     have HGG := Lib.hid hG
     clear hG
     go_loopg [11] L0 (fun gq s11 wx => ∃ k : Nat, gq + k = L0 ∧ s11 = .int .i64 (k : Int) ∧ Hid (has 10 (x.take k) = false ∧ wx = wr))
     case atStart => exact ⟨0, by omega, rfl, rfl, rfl⟩
     case round =>
      obtain ⟨k, hgk, rfl, hno, hw⟩ := hrel
      subst hw
      by_cases hk : k < L0
      ·have hkI : (k : Int) < (L0 : Int) := by omega
       have hk0 : (0 : Int) ≤ (k : Int) := by omega
       have hkx : k < x.length := by rw [HX.out.2.2]; exact hk
       have hch := HXC.out k hkx

       have hlt := ch_lt Y0 (k : Int)
       have hnx : has 10 (x.take (k + 1)) = decide (ch Y0 (k : Int) = 10) := by
        rw [show x.take (k + 1) = x.take k ++ [x[k]] by rw [List.take_add_one, List.getElem?_eq_getElem hkx]; rfl, has_app, hno, hch]
        simp [has]
       have HNO := Lib.hid hnx
       clear hno hnx hkx hch
       generalize hn9 : ch Y0 (k : Int) = c at *
       by_cases hc : c = 10
       ·subst hc
        go_wp2_with fail
        go_ret
        exact ⟨rfl, HT.out.1.from_ HK1.out⟩
       ·have hcI : ((c : Int) == 10) = false := by rw [beq_eq_false_iff_ne]; omega
        have hcJ : ¬ (c : Int) = 10 := by omega
        go_wp2_with fail
        go_roundg (gk - 1)
        all_goals first | omega | skip
        exact ⟨k + 1, by omega, by simp, by rw [HNO.out, decide_eq_false hc], rfl⟩
      ·obtain rfl : k = L0 := by omega
       have hkI : ¬ (k : Int) < (k : Int) := by omega
       have hmr : mrow ms a = x := mrow_of (r := r) (by rw [HH.out.2.2.2]; exact HR.out.1) (by rw [HX.out.1]; exact HX.out.2.1) (by rw [List.take_of_length_le (by rw [HX.out.2.2]; exact Nat.le_refl _)] at hno; exact hno)
       have HMR := Lib.hid hmr
       clear hno hmr
       have hYY := HY.out
       subst hYY
       go_wp2_with (first
        | (at_builtin; refine wpList_append_str_k _ rfl (.tmp 66) (.const (.string ⟨#[32, 9, 35]⟩)) 53 9 rfl 5 i0 Tryz.underlying53 Tryz.underlying9 HI.out.1 HI.out.2.1 HI.out.2.2.1 HI.out.2.2.2 _ _ _ rfl (row_base HT.out.1.t fun g _ => Nat.zero_le _) [32, 9, 35] rfl (by have := HB.out; simp; omega) ?_; intro v1 w4 hrow hgr hblk; have HT1 := Lib.hid (HT.out.1.grow hrow (keep_grown hgr) hblk); clear hrow hgr hblk)
        | (at_builtin; refine wpList_append_str_k _ rfl (.tmp 68) (.tmp 69) 53 9 rfl 5 i0 Tryz.underlying53 Tryz.underlying9 HI.out.1 HI.out.2.1 HI.out.2.2.1 HI.out.2.2.2 _ (B ++ [32, 9, 35]).length _ rfl (row_base HT1.out.t fun g _ => Nat.zero_le _) x rfl (by have := HB.out; have := HX.out.2.2; simp; omega) ?_; intro v2 w5 hrow hgr hblk; have HT2 := Lib.hid (HT1.out.grow hrow (keep_grown hgr) hblk); clear hrow hgr hblk)
        | (at_builtin; refine wpList_append_str_k _ rfl (.tmp 75) (.const (.string ⟨#[10, 32, 9, 10]⟩)) 53 9 rfl 5 i0 Tryz.underlying53 Tryz.underlying9 HI.out.1 HI.out.2.1 HI.out.2.2.1 HI.out.2.2.2 _ ((B ++ [32, 9, 35]) ++ x).length _ rfl (row_base HT2.out.t fun g _ => Nat.zero_le _) [10, 32, 9, 10] rfl (by have := HB.out; have := HX.out.2.2; simp; omega) ?_; intro v3 w6 hrow hgr hblk; have HT3 := Lib.hid (HT2.out.grow hrow (keep_grown hgr) hblk); clear hrow hgr hblk)
        | (at_builtin; refine wpList_append_own_at _ rfl (.tmp 79) (.tmp 81) 37 rfl w1.heap.size 3 i1 _ 1 8 Tryz.underlying37 HJ.out.1 HJ.out.2.1 HJ.out.2.2.1 HJ.out.2.2.2 rfl (by decide) _ a _ rfl (row_keep HT3.out.i ((Keep.refl (fun _ => False) _).alloc _) fun _ _ => id) ⟨_, 0, none⟩ 1 1 [.int .i64 ((a : Int) + 1)] rfl rfl (cell_one_new _ _ _) (by simp [Value.oneCell']) (by unfold maxLen; omega) (by omega) (by have := HT3.out.k.size; simp; omega) ?_; intro v4 w7 hrow hgr _ hblk; have HT4 := Lib.hid (HT3.out.num hrow hgr hblk); clear hrow hgr hblk))
       have hG := HGG.out
       go_roundg (G - 1)
       all_goals first | omega | skip
       refine ⟨i + 1, a + 1, by omega, by omega, by omega, by simp, by simp, by simp, _, HT4.out, ?_, by rw [HCN.out, if_pos HC10.out, ← HCT.out]⟩
       rw [← HT.out.2, HCU.out, bl_at, if_pos (by rw [HC10.out]), HMR.out]
       simp only [List.append_assoc]
   ·have hcI : ((c : Int) == 10) = false := by rw [beq_eq_false_iff_ne]; omega
    have hcJ : ¬ (c : Int) = 10 := by omega
    clear cx hxs hrn hrm hr0 hrI HR
    by_cases hc2 : c = 32
    ·subst hc2
     go_wp2_with (at_builtin; refine wpList_append_str_k _ rfl (.tmp 89) (.const (.string ⟨#[32, 9]⟩)) 53 9 rfl 5 i0 Tryz.underlying53 Tryz.underlying9 HI.out.1 HI.out.2.1 HI.out.2.2.1 HI.out.2.2.2 _ _ _ rfl (row_base HT.out.1.t fun g _ => Nat.zero_le _) [32, 9] rfl (by have := HB.out; simp; omega) ?_; intro v1 w4 hrow hgr hblk; have HT1 := Lib.hid (HT.out.1.grow hrow (keep_grown hgr) hblk); clear hrow hgr hblk)
     go_roundg (gk - 1)
     all_goals first | omega | skip
     refine ⟨i + 1, a, by omega, by omega, by omega, by simp, by simp, by simp, _, HT1.out, ?_, by rw [HCN.out, if_neg (by rw [← HD.out]; decide), ← HCT.out]; rfl⟩
     rw [← HT.out.2, HCU.out, bl_at, if_neg (by rw [← HD.out]; decide)]
     unfold dblC
     rw [if_pos HD.out.symm, List.append_assoc]
    ·have hc3 : ((c : Int) == 32) = false := by rw [beq_eq_false_iff_ne]; omega
     have hc4 : ¬ (c : Int) = 32 := by omega
     go_wp2_with (at_builtin; refine wpList_append_own_at _ rfl (.tmp 91) (.tmp 95) 53 rfl w1.heap.size 5 i0 (.int .u8 0) 1 1 Tryz.underlying53 HI.out.1 HI.out.2.1 HI.out.2.2.1 HI.out.2.2.2 rfl (by decide) _ B.length _ rfl (row_keep HT.out.1.t ((Keep.refl (fun _ => False) _).alloc _) fun _ _ => id) ⟨_, 0, none⟩ 1 1 [.int .u8 (c : Int)] rfl rfl (cell_one_new _ _ _) (by simp [Value.oneCell']) (by have := HB.out; unfold maxLen; omega) (by have := HB.out; omega) (by have := HT.out.1.k.size; simp; omega) ?_; intro v1 w4 hrow hgr _ hblk; rw [show (c : Int) = (d.toNat : Int) from by rw [HD.out]] at hrow; have HT1 := Lib.hid (HT.out.1.grow1 hrow hgr hblk); clear hrow hgr hblk)
     go_roundg (gk - 1)
     all_goals first | omega | skip
     refine ⟨i + 1, a, by omega, by omega, by omega, by simp, by simp, by simp, _, HT1.out, ?_, by rw [HCN.out, if_neg (by rw [← HD.out]; exact hc), ← HCT.out]; rfl⟩
     rw [← HT.out.2, HCU.out, bl_at, if_neg (by rw [← HD.out]; exact hc)]
     unfold dblC
     rw [if_neg (by rw [← HD.out]; exact hc2), List.append_assoc]
end Sc
end Go.Proofs.YtkkecpamnnojoaaGreatDoor
