/- A part of the proof of ScriptBack: nothing is assumed. By an AI agent. -/
import Derived.Test.YtkkecpamnnojoaaGreatDoorBk20
import Derived.Test.YtkkecpamnnojoaaGreatDoorBk21
import Derived.Lib.SmallJoins
import Derived.Test.YtkkecpamnnojoaaGreatDoorBk03
import Derived.Test.YtkkecpamnnojoaaGreatDoorBk19
namespace Go.Proofs.YtkkecpamnnojoaaGreatDoor
open Go.ChangeShapes Go.WideShapes Go.ChangeAt Go.RowKit Go.Shelf
open Bt Dc By
set_option linter.unusedVariables false
namespace Sc

theorem plain_any (base most : Int) (w : World) : Calls Tryz.prog 38 #[.int .i64 base, .int .i64 most] w fun e w' => e = .returned (.agg #[.int .i64 4096, .int .i64 base, .int .i64 4, .int .i64 1000, .int .i64 most, .int .i64 1000, .float .f64 0, .float .f64 4602678819172646912]) ∧ Keep (fun _ => False) w w' := by
 go_enter Tryz.func38, Tryz.ntmps38
 go_wp2
 exact bodyPost_ret (v := .agg #[.int .i64 4096, .int .i64 base, .int .i64 4, .int .i64 1000, .int .i64 most, .int .i64 1000, .float .f64 0, .float .f64 4602678819172646912]) (by simp [results, Tryz.results38, go_sem]) rfl ⟨rfl, (Keep.refl _ _).alloc _⟩
theorem infoTs : ∃ i, Tryz.prog.info? 56 = some i ∧ i.zero = some (.slice none 0 0) ∧ i.size = 1 ∧ i.bytes = 24 := by
 have h : (Tryz.prog.info? 56).map (fun i => (i.zero, i.size, i.bytes)) = some (some (.slice none 0 0), 1, 24) := by kernel_rfl
 exact info_parts h
theorem cell_one_at (w : World) (u0 : Value) (t : TypeId) (g : Nat) (h : w.heap.size = g) : ∀ j u, [u0][j]? = some u → (w.alloc (.cells #[u0] t)).cell? ((⟨g, 0, none⟩ : Addr).add j) = some u := by
 subst h
 exact cell_one_new w u0 t
theorem row_from2 {w : World} {base sz n : Nat} {e : TypeId} {v : Value} {xs : List Value} (h : w.ownsRow base e sz v n xs) {g : Nat} (hg : v.ownBlock = some g) : base ≤ g := by
 rcases h.2 with ⟨h1, -⟩ | ⟨g2, c2, cur, h1, h2, -⟩
 ·rw [h1] at hg; cases hg
 ·rw [h1] at hg; cases hg; exact h2
theorem row_val1 {w : World} {base sz : Nat} {e : TypeId} {v : Value} {xs : List Value} (h : w.ownsRow base e sz v (0 + 1) xs) : ∃ o c, v = .slice o 1 c := by
 rcases h.2 with ⟨h1, h2⟩ | ⟨g, cap, cur, h1, -⟩
 ·omega
 ·exact ⟨_, cap, h1⟩
theorem slat_blk {w : World} {g n : Nat} {cs : Array Value} {t : TypeId} {fr : Nat × Nat} (h : w.heap[g]? = some (.cells cs t fr)) : SlAt w (.slice (some ⟨g, 0, none⟩) n n) n cs.toList :=
 ⟨_, n, rfl, Nat.le_refl _, fun i hi => ⟨g, 0, rfl, by rw [Nat.zero_add]; simp [World.cell?, h], lt_of_block h⟩, fun e => nomatch e⟩
theorem size_two {w : World} {q : Nat} (h : w.heap.size = q) (o1 o2 : Obj) : ((w.alloc o1).alloc o2).heap.size = q + 1 + 1 := by simp [h]
theorem size_one {w : World} {q : Nat} (h : w.heap.size = q) (o1 : Obj) : (w.alloc o1).heap.size = q + 1 := by simp [h]
theorem size_three {w : World} {q : Nat} (h : w.heap.size = q) (o1 o2 o3 : Obj) : q ≤ (((w.alloc o1).alloc o2).alloc o3).heap.size := by simp [h]; omega
theorem slat_nil (w : World) : SlAt w (.slice none 0 0) 0 [] := ⟨none, 0, rfl, Nat.le_refl _, fun i hi => by simp at hi, fun _ => rfl⟩
set_option maxRecDepth 100000 in
set_option maxHeartbeats 16000000 in
theorem one_any (w : World) : Calls Tryz.prog 16 #[.int .i64 1] w fun e w' => (∃ m : M, e = .returned (.agg m.val) ∧ m.play = oneP ∧ Seen w' m) ∧ Keep (fun _ => False) w w' := by
 obtain ⟨iS, hi0, hi1, hi2, hi3⟩ := infoTs
 have HI := Lib.hid (And.intro hi0 (And.intro hi1 (And.intro hi2 hi3)))
 clear hi0 hi1 hi2 hi3
 have HP := Lib.hid (plain_any 1 8)
 go_enter Tryz.func16, Tryz.ntmps16
 go_wp2_with (go_at_call 38; refine (HP.out _).mono ?_; rintro e w1 ⟨rfl, k1⟩; have HK := Lib.hid k1; clear k1)
 obtain ⟨q, hq⟩ : ∃ q, w1.heap.size = q := ⟨_, rfl⟩
 obtain ⟨W2, hW2⟩ : ∃ W2, w1.alloc (.cells #[.int .i64 1048576, .int .i64 4096, .int .i64 1, .int .i64 4, .int .i64 1000, .int .i64 8, .int .i64 1000, .float .f64 0, .float .f64 4602678819172646912, .slice none 0 0, .slice none 0 0, .slice none 0 0, .int .i64 1000, .slice none 0 0] 40) = W2 := ⟨_, rfl⟩
 have hb2 : W2.heap[q]? = some (.cells #[.int .i64 1048576, .int .i64 4096, .int .i64 1, .int .i64 4, .int .i64 1000, .int .i64 8, .int .i64 1000, .float .f64 0, .float .f64 4602678819172646912, .slice none 0 0, .slice none 0 0, .slice none 0 0, .int .i64 1000, .slice none 0 0] 40 (0, 0)) := by rw [← hW2, ← hq]; exact blk_new _ _
 have hs2 : W2.heap.size = q + 1 := by rw [← hW2, ← hq]; simp
 have k12 : Keep (fun _ => False) w1 W2 := by rw [← hW2]; exact (Keep.refl _ w1).alloc _
 obtain ⟨r, hr⟩ : ∃ r, w.heap.size = r := ⟨_, rfl⟩
 have hbr : W2.heap[r]? = some (.cells m0.val 40 (0, 0)) := by rw [← hr]; exact k12.same (HK.out.same (blk_new w _) id) id
 have hrq : r < q := by rw [← hq, ← hr]; have := HK.out.size; simp at this; omega
 have kw2 : Keep (fun _ => False) w W2 := (((Keep.refl _ w).alloc _).trans HK.out).trans k12
 have hwq : w.heap.size ≤ q := by omega
 have H2 := Lib.hid (And.intro hb2 (And.intro hs2 (And.intro hbr (And.intro hrq (And.intro kw2 (And.intro hwq hr))))))
 rw [hW2, hq, hr]
 have hcv := Go.Joins.run_convert_bytes_const_at (P := Tryz.prog) W2 53 5 #[.int .u8 97] 1 1 (q + 1) hs2.symm Tryz.underlying53 Tryz.underlying5
 clear hW2 hq hr hb2 hbr hrq k12 kw2 HP hwq
 go_loopg [4] 1 (fun gq s4 wr => ∃ k : Nat, gq + k = 1 ∧ s4 = .int .i64 (k : Int) ∧ Hid ((k = 0 → wr = W2) ∧ (k = 1 → ∃ (v : Value) (m : M), wr.heap[q]? = some (.cells #[.int .i64 1048576, .int .i64 4096, .int .i64 1, .int .i64 4, .int .i64 1000, .int .i64 8, .int .i64 1000, .float .f64 0, .float .f64 4602678819172646912, .slice none 0 0, v, .slice none 0 0, .int .i64 1000, .slice none 0 0] 40 (0, 0)) ∧ wr.heap[r]? = some (.cells m0.val 40 (0, 0)) ∧ m.val = #[.int .i64 1048576, .int .i64 4096, .int .i64 1, .int .i64 4, .int .i64 1000, .int .i64 8, .int .i64 1000, .float .f64 0, .float .f64 4602678819172646912, .slice none 0 0, v, .slice none 0 0, .int .i64 1000, .slice none 0 0] ∧ m.play = oneP ∧ (∀ W, Keep (fun g => g = r) wr W → Seen W m) ∧ Keep (fun _ => False) w wr)))
 case atStart => exact ⟨0, by omega, rfl, fun _ => rfl, fun h => by omega⟩
 case round =>
  obtain ⟨k, hgk, rfl, h0, h1⟩ := hrel
  by_cases hk : k = 0
  ·subst hk
   obtain rfl : wr = W2 := h0 rfl
   have c10 := blk_cell H2.out.1 10
   have f10 := blk_free H2.out.1 10
   simp at c10
   clear h0 h1
   go_wp2_with (at_builtin; refine wpList_append_own_at _ rfl (.tmp 13) (.tmp 18) 36 rfl (q + 1) 56 iS _ 1 24 Tryz.underlying36 HI.out.1 HI.out.2.1 HI.out.2.2.1 HI.out.2.2.2 rfl (by decide) (.slice none 0 0) 0 [] rfl (row_nil _ _ _ _) ⟨q + 1 + 1 + 1, 0, none⟩ 1 1 [.slice (some ⟨q + 1 + 1, 0, none⟩) 1 1] rfl rfl (cell_one_at _ _ _ _ (size_two H2.out.2.1 _ _)) (by simp [Value.oneCell']) (by unfold maxLen; omega) (by omega) (size_three H2.out.2.1 _ _ _) ?_; intro v4 w4 hown hgr _ _; obtain ⟨oT, cT, rfl⟩ := row_val1 hown; have hb1 := blk_none hgr (blk_alloc (blk_alloc (blk_new_at wr _ H2.out.2.1) _) _); have hb2 := blk_none hgr (blk_alloc (blk_new_at _ _ (size_one H2.out.2.1 _)) _); have kG : Keep (fun _ => False) wr w4 := ((((Keep.refl _ wr).alloc _).alloc _).alloc _).trans (keep_none hgr); have c10 := cell_kept kG c10; have f10 := (kG.frozen (p := ⟨q, 10, none⟩) (lt_of_block H2.out.1) id).trans f10; have HQ := Lib.hid (And.intro hown (And.intro hb1 (And.intro hb2 kG))); clear hown hgr hb1 hb2 kG)
   obtain ⟨W5, hW5⟩ : ∃ W5, w4.setCell ⟨q, 10, none⟩ (.slice oT 1 cT) = W5 := ⟨_, rfl⟩
   rw [hW5]
   have k45 : Keep (fun g => g = q) w4 W5 := by rw [← hW5]; exact (Keep.refl (fun g => g = q) w4).setCell (p := ⟨q, 10, none⟩) (Or.inl rfl) _
   have hq5 := blk_set (HQ.out.2.2.2.same H2.out.1 id) 10 (.slice oT 1 cT)
   rw [hW5] at hq5
   have hr5 := k45.same (HQ.out.2.2.2.same H2.out.2.2.1 id) (fun e => by have := H2.out.2.2.2.1; omega)
   have h1 := k45.same HQ.out.2.1 (fun e => by omega)
   have h2 := k45.same HQ.out.2.2.1 (fun e => by omega)
   have hrow := row_keep HQ.out.1 k45 fun g hg e => by have := row_from2 HQ.out.1 hg; omega
   have kw5 := (H2.out.2.2.2.2.1.trans HQ.out.2.2.2).own k45 fun i hi => Or.inr (by have := H2.out.2.2.2.2.2.1; omega)
   have HR := Lib.hid (And.intro hq5 (And.intro hr5 (And.intro h1 (And.intro h2 (And.intro hrow kw5)))))
   clear hW5 k45 hq5 hr5 h1 h2 hrow kw5
   go_roundg (gk - 1)
   all_goals first | omega | skip
   refine ⟨1, by omega, by simp, fun h => absurd h (by decide), fun _ => ⟨(.slice oT 1 cT), ⟨1048576, 4096, 1, 4, 1000, 8, 1000, 0, 4602678819172646912, .slice none 0 0, [], (.slice oT 1 cT), [⟨.slice (some ⟨q + 1 + 1, 0, none⟩) 1 1, [⟨⟨1, 0, [97]⟩, .slice (some ⟨q + 1, 0, none⟩) 1 1⟩]⟩], .slice none 0 0, [], 1000, .slice none 0 0, [], 0⟩, HR.out.1, HR.out.2.1, rfl, rfl, ?_, HR.out.2.2.2.2.2⟩⟩
   intro W kW
   have hrq := H2.out.2.2.2.1
   have g1 := kW.same HR.out.2.2.1 (fun e => by omega)
   have g2 := kW.same HR.out.2.2.2.1 (fun e => by omega)
   have g3 := row_keep HR.out.2.2.2.2.1 kW fun g hg e => by have := row_from2 HR.out.2.2.2.2.1 hg; omega
   exact ⟨slat_nil _, .of_row g3, fun t ht => by
    obtain rfl := List.mem_singleton.1 ht
    exact ⟨slat_blk g2, fun c hc => by
     obtain rfl := List.mem_singleton.1 hc
     exact slat_blk g1⟩, slat_nil _, slat_nil _, fun e he => by simp at he⟩
  ·obtain rfl : k = 1 := by omega
   obtain ⟨v, m, hb, hb', hmv, hmp, hsm, hkm⟩ := h1 rfl
   have HM := Lib.hid (And.intro hb (And.intro hb' (And.intro hmv (And.intro hmp (And.intro hsm hkm)))))
   clear h0 h1 hb hb' hmv hmp hsm hkm
   go_wp2_with (first
    | (refine load_guard (.tmp 3) 40 (by rfl) ?_; go_must (refine load_play rfl (.tmp 3) rfl q rfl #[.int .i64 1048576, .int .i64 4096, .int .i64 1, .int .i64 4, .int .i64 1000, .int .i64 8, .int .i64 1000, .float .f64 0, .float .f64 4602678819172646912, .slice none 0 0, v, .slice none 0 0, .int .i64 1000, .slice none 0 0] rfl HM.out.1 ?_))
    | (refine store_guard (.tmp 2) (.tmp 21) 40 (by rfl) ?_; go_must (refine store_play rfl (.tmp 2) (.tmp 21) rfl r #[.int .i64 1048576, .int .i64 4096, .int .i64 1, .int .i64 4, .int .i64 1000, .int .i64 8, .int .i64 1000, .float .f64 0, .float .f64 4602678819172646912, .slice none 0 0, v, .slice none 0 0, .int .i64 1000, .slice none 0 0] rfl rfl rfl m0.val rfl HM.out.2.1 (by rw [← HM.out.2.2.1]; exact (HM.out.2.2.2.2.1 _ (Keep.refl _ _)).val_one) ?_)))
   have hrow := setRow_heap wr r m0.val #[.int .i64 1048576, .int .i64 4096, .int .i64 1, .int .i64 4, .int .i64 1000, .int .i64 8, .int .i64 1000, .float .f64 0, .float .f64 4602678819172646912, .slice none 0 0, v, .slice none 0 0, .int .i64 1000, .slice none 0 0] _ _ HM.out.2.1
   refine bodyPost_ret (v := .agg #[.int .i64 1048576, .int .i64 4096, .int .i64 1, .int .i64 4, .int .i64 1000, .int .i64 8, .int .i64 1000, .float .f64 0, .float .f64 4602678819172646912, .slice none 0 0, v, .slice none 0 0, .int .i64 1000, .slice none 0 0]) (results_cell_row Tryz.results16 _ _ r 40 #[.int .i64 1048576, .int .i64 4096, .int .i64 1, .int .i64 4, .int .i64 1000, .int .i64 8, .int .i64 1000, .float .f64 0, .float .f64 4602678819172646912, .slice none 0 0, v, .slice none 0 0, .int .i64 1000, .slice none 0 0] (0, 0) _ rfl hrow Tryz.underlying40 rfl play_size) rfl ?_
   have ks : Keep (fun g => g = r) wr (wr.setRow r #[.int .i64 1048576, .int .i64 4096, .int .i64 1, .int .i64 4, .int .i64 1000, .int .i64 8, .int .i64 1000, .float .f64 0, .float .f64 4602678819172646912, .slice none 0 0, v, .slice none 0 0, .int .i64 1000, .slice none 0 0]) := Keep.setRow (g := r) (Keep.refl (fun g => g = r) wr) (Or.inl rfl) _
   have hsz : w.heap.size = r := H2.out.2.2.2.2.2.2
   have hkw : Keep (fun _ => False) w (wr.setRow r #[.int .i64 1048576, .int .i64 4096, .int .i64 1, .int .i64 4, .int .i64 1000, .int .i64 8, .int .i64 1000, .float .f64 0, .float .f64 4602678819172646912, .slice none 0 0, v, .slice none 0 0, .int .i64 1000, .slice none 0 0]) := HM.out.2.2.2.2.2.own ks fun i hi => Or.inr (by omega)
   exact ⟨⟨m, by rw [HM.out.2.2.1], HM.out.2.2.2.1, HM.out.2.2.2.2.1 _ ks⟩, hkw⟩
theorem Ev.up' {B : Nat} {w : World} (h : Ev B w) : Ev w.heap.size w := ⟨env_up h.env, tb_up h.tb, fun w' k => h.errs w' (k.mono h.le), fun w' k => h.mx w' (k.mono h.le)⟩
theorem pr_of {m : M} {N : Nat} (ok : PlayOk m.play) (hsm : Sml N m.play) (hN : N ≤ 1048576) (len : m.fs.length ≤ 1099511627776 ∧ m.ts.length ≤ 1099511627776 ∧ m.ps.length ≤ 1099511627776 ∧ m.es.length ≤ 1099511627776) : PrOk m := by
 refine ⟨ok, len, ⟨fun t ht c hc => ?_, fun e he k hk => ?_⟩, fun hm hk => full_max (Pt.of ok hm hk) hsm hN ⟨txtS_max ok.linger, txtS_max ok.alpha⟩⟩
 ·have := hsm.data _ (List.mem_map.2 ⟨t, ht, rfl⟩) _ (List.mem_map.2 ⟨c, hc, rfl⟩)
  omega
 ·have := hsm.junk _ (List.mem_map.2 ⟨e, he, rfl⟩) _ (List.mem_map.2 ⟨k, hk, rfl⟩)
  omega
theorem pr_inv {m : M} (h : Inv m.play) : PrOk m := by
 obtain ⟨h1, h2, h3, h4, h5, h6⟩ := many_not h.pt.many
 exact pr_of h.pt.ok h.sm (by omega) ⟨by omega, by omega, by omega, by omega⟩
theorem one_pr {m : M} (h : m.play = oneP) : PrOk m := pr_inv (by rw [h]; exact one_inv)
set_option maxRecDepth 100000 in
set_option maxHeartbeats 16000000 in
theorem begun_any (w : World) (hE : Ev w.heap.size w) : Calls Tryz.prog 7 #[] w fun e w' => e = .returned (.bool true) ∧ Keep (fun _ => False) w w' := by
 have HE := Lib.hid hE
 have HP1 := Lib.hid (parse_any bg1 w hE)
 have hp1 : parseF bg1 = (canP bgP, 0, 0) := by
  have h := back_parse bg_pt (by rw [bg_full txt_zero txt_hf]; decide) (txt_read hE) txt_gw
  rw [bg_full txt_zero txt_hf] at h
  exact h
 have HF := Lib.hid hp1
 clear hE hp1
 go_enter Tryz.func7, Tryz.ntmps7
 go_upto_region 2 with (first
  | (go_at_call 8; refine HP1.out.mono ?_; rintro e w1 ⟨mA, ownA, nA, cA, rfl, hpA, hlA, -, kA⟩; have HPA := Lib.hid (And.intro hpA (And.intro hlA kA)); clear hpA hlA kA)
  | (refine store_guard (.tmp 1) (.tmp 11) 40 (by rfl) ?_; go_must (refine store_play rfl (.tmp 1) (.tmp 11) rfl _ mA.val rfl rfl rfl m0.val rfl (blk_new _ _) HPA.out.2.1.seen.val_one ?_)))
 obtain ⟨z1, z2⟩ := Prod.mk.inj HPA.out.1
 obtain ⟨z2, z3⟩ := Prod.mk.inj z2
 rw [HF.out] at z1 z2 z3
 replace z2 : nA = 0 := z2
 replace z3 : cA = 0 := z3
 subst z2
 subst z3
 generalize hW7 : World.setRow _ _ mA.val = W7
 have hbA : W7.heap[w1.heap.size]? = some (.cells mA.val 40 (0, 0)) := by rw [← hW7]; exact setRow_heap _ _ _ mA.val _ _ (blk_new _ _)
 have k17 : Keep (fun _ => False) w1 W7 := by rw [← hW7]; exact Keep.setRow ((Keep.refl _ w1).alloc _) (Or.inr (Nat.le_refl _)) _
 obtain ⟨qA, hqA⟩ : ∃ q, w1.heap.size = q := ⟨_, rfl⟩
 rw [hqA] at hbA ⊢
 have HB7 := Lib.hid (And.intro hbA (And.intro (HPA.out.2.1.seen.kept k17) (And.intro (HPA.out.2.2.trans k17) z1)))
 have HP2 := Lib.hid (parse_any bg2 W7 (HE.out.on (HPA.out.2.2.trans k17).none).up')
 clear hW7 hqA hbA k17 z1 HPA HP1
 go_upto_region 3 with (first
  | (go_at_call 8; refine HP2.out.mono ?_; rintro e w8 ⟨mB, ownB, nB, cB, rfl, hpB, hlB, -, kB⟩; have HPB := Lib.hid (And.intro hpB (And.intro hlB kB)); clear hpB hlB kB)
  | (refine store_guard (.tmp 4) (.tmp 16) 40 (by rfl) ?_; go_must (refine store_play rfl (.tmp 4) (.tmp 16) rfl _ mB.val rfl rfl rfl m0.val rfl (blk_new _ _) HPB.out.2.1.seen.val_one ?_)))
 obtain ⟨z1, z2⟩ := Prod.mk.inj HPB.out.1
 obtain ⟨z2, z3⟩ := Prod.mk.inj z2
 rw [bg2_parse] at z2 z3
 replace z2 : nB = 1 := z2
 replace z3 : cB = 63 := z3
 subst z2
 subst z3
 generalize hW9 : World.setRow _ _ mB.val = W9
 have k79 : Keep (fun _ => False) W7 W9 := by rw [← hW9]; exact HPB.out.2.2.trans (Keep.setRow ((Keep.refl _ w8).alloc _) (Or.inr (Nat.le_refl _)) _)
 generalize w8.heap.size = qB at *
 have HK9 := Lib.hid (And.intro k79 (HB7.out.2.2.1.trans k79))
 have HON := Lib.hid (one_any W9)
 have HEV := Lib.hid (fun (W : World) (k : Keep (fun _ => False) W9 W) => (HE.out.on ((HB7.out.2.2.1.trans k79).trans k).none).up')
 clear hW9 k79 z1 HPB HP2
 go_upto_region 4 with (first
  | (go_at_call 16; refine HON.out.mono ?_; rintro e w10 ⟨⟨m1, rfl, hm1, hs1⟩, k10⟩; have HPR := Lib.hid (print_any m1 w10 (HEV.out _ k10) hs1 (one_pr hm1)); have H10 := Lib.hid (And.intro hm1 k10); clear hm1 hs1 k10)
  | (go_at_call 14; refine HPR.out.mono ?_; rintro e w11 ⟨rfl, k11⟩; have H11 := Lib.hid k11; clear k11))
 have hpf : printF m1.play = (fullS oneP, 0) := by
  rw [H10.out.1]
  unfold printF
  rw [if_neg (by rw [one_inv.pt.many]; decide), if_neg (by rw [one_inv.pt.known]; decide), if_neg (by rw [one_full txt_zero txt_hf]; decide)]
 rw [hpf]
 have hsz : ((strB (fullS oneP)).size : Int) = 65 := by rw [strB_size, one_full txt_zero txt_hf]; rfl
 generalize strB (fullS oneP) = SP at *
 have kV : Keep (fun _ => False) W7 w11 := (HK9.out.1.trans H10.out.2).trans H11.out
 have bV := kV.same HB7.out.1 id
 have hz := HB7.out.2.2.2
 have hsn := HB7.out.2.1.kept kV
 have v0 := blk_cell bV 0
 have v10 := blk_cell bV 10
 have v13 := blk_cell bV 13
 have hd : mA.disk = 1000 := congrArg Play.disk hz
 have htl : mA.ts.length = 1 := by have := congrArg (fun p => p.tasks.length) hz; simpa [M.play, canP, bgP] using this
 have hel : mA.es.length = 1 := by have := congrArg (fun p => p.ends.length) hz; simpa [M.play, canP, bgP] using this
 have h0 : 0 < mA.ts.length := by omega
 have hml : (mA.ts[0]).l.length = 2 := by
  have := congrArg (fun p => (p.tasks.getD 0 []).length) hz
  simpa [M.play, canP, bgP, h0] using this
 obtain ⟨o2, c2, hv2, -, hcs, -⟩ := hsn.ts
 obtain ⟨o4, c4, hv4⟩ := hsn.es.val
 obtain ⟨g, f, rfl, hc0, -⟩ := hcs 0 (by simpa using h0)
 obtain ⟨o5, c5, hv5⟩ := (hsn.calls _ (List.getElem_mem h0)).row.val
 rw [List.getElem?_map, List.getElem?_eq_getElem h0] at hc0
 simp only [Option.map_some] at hc0
 rw [hml] at hv5
 rw [hv5] at hc0
 rw [htl] at hv2
 rw [hel] at hv4
 have v0' : w11.cell? ⟨qA, 0, none⟩ = some (.int .i64 1000) := by rw [v0, ← hd]; rfl
 have v10' : w11.cell? ⟨qA, 10, none⟩ = some (.slice (some ⟨g, f, none⟩) 1 c2) := by rw [v10, ← hv2]; rfl
 have v13' : w11.cell? ⟨qA, 13, none⟩ = some (.slice o4 1 c4) := by rw [v13, ← hv4]; rfl
 have hc0' : w11.cell? ⟨g, f, none⟩ = some (.slice o5 2 c5) := hc0
 have HF1 := Lib.hid (HB7.out.2.2.1.trans kV)
 clear v0 v10 v13 hd htl hel h0 hml hv2 hv4 hcs hv5 hc0 hsn hz bV kV hpf
 go_wp2_with fail
 go_ret
 exact ⟨rfl, HF1.out⟩
end Sc
end Go.Proofs.YtkkecpamnnojoaaGreatDoor
namespace Go.Proofs.YtkkecpamnnojoaaGreatDoor
open Go.ChangeShapes Go.WideShapes Go.ChangeAt Go.RowKit
open Bt Dc By
set_option linter.unusedVariables false
namespace Sc

theorem ev_of {W : World} (hL : laidMetH Tryz.prog Rows.scriptPrintsRow.laid W) (hS : W.ShapedOpen Tryz.prog) : Ev W.heap.size W := by
 obtain ⟨hopt, hT⟩ := tables hL
 obtain ⟨hE, hX⟩ := env_of hL
 refine ⟨hE, hT, hX, fun w' k => ?_⟩
 obtain ⟨m, hm⟩ : ∃ m, W.cell? ⟨1, 0, none⟩ = some (.int .i64 m) :=
  Go.Proofs.cell_of_shapedOpen_int (zero := #[.int .i64 0]) (t := 3) hS (of_decide_eq_true (by kernel_rfl)) (by kernel_rfl) rfl (by kernel_rfl) (by kernel_rfl) Tryz.underlying3
 exact ⟨m, (k.cell (p := ⟨1, 0, none⟩) (World.block_lt_of_cell? W _ hm)).trans hm⟩
theorem strB_data (s : ByteArray) : strB s.data.toList = s := by
 cases s
 simp [strB]
section
variable {H : Type} {enc : TypeId × Value → H} {w : World} {base : Nat} {spare : Nat → Bool} {held : Bool}
end
end Sc
end Go.Proofs.YtkkecpamnnojoaaGreatDoor
namespace Go.Proofs.YtkkecpamnnojoaaGreatDoor
open Go.ChangeShapes Go.WideShapes Go.ChangeAt Go.RowKit Go.Shelf
open Bt Dc By
set_option linter.unusedVariables false
namespace Sc

def lC (c : MC) : Nat := 10 + c.c.data.length
def lT (t : MT) : Nat := 1 + (t.l.map lC).sum
def lK (k : MK) : Nat := 10 + k.k.junk.length
def lE (e : ME) : Nat := e.fs.length + (e.ks.map lK).sum
def lM (m : M) : Nat := m.ps.length + m.fs.length + (m.ts.map lT).sum + (m.es.map lE).sum
theorem sum_next {α : Type} (f : α → Nat) (l : List α) (k : Nat) (h : k < l.length) : ((l.take (k + 1)).map f).sum = ((l.take k).map f).sum + f l[k] := by
 have : l.take (k + 1) = l.take k ++ [l[k]] := by rw [List.take_add_one, List.getElem?_eq_getElem h]; rfl
 rw [this, List.map_append, List.sum_append]
 simp
theorem sum_le {α : Type} (f : α → Nat) (l : List α) (k : Nat) : ((l.take k).map f).sum ≤ (l.map f).sum := by
 have : (l.map f).sum = ((l.take k).map f).sum + ((l.drop k).map f).sum := by rw [← List.sum_append, ← List.map_append, List.take_append_drop]
 omega
theorem sum_len {α : Type} (f : α → Nat) (hf : ∀ x, 1 ≤ f x) (l : List α) : l.length ≤ (l.map f).sum := by
 induction l with
 | nil => simp
 | cons x l ih => have := hf x; simp only [List.length_cons, List.map_cons, List.sum_cons]; omega
theorem sum_mem {α : Type} (f : α → Nat) (l : List α) (k : Nat) (h : k < l.length) : f l[k] ≤ (l.map f).sum := by
 have h1 := sum_next f l k h
 have h2 := sum_le f l (k + 1)
 omega
set_option maxRecDepth 100000 in
set_option maxHeartbeats 16000000 in
theorem light_any (m : M) (w : World) (h : Seen w m) (hb : lM m ≤ 1099511627776) (hb4 : m.es.length ≤ 1099511627776) :
  Calls Tryz.prog 13 #[.agg m.val] w fun e w' => e = .returned (.bool (decide (lM m < 131072))) ∧ Keep (fun _ => False) w w' := by
 obtain ⟨o1, c1, hv1⟩ := h.fs.val
 obtain ⟨o2, c2, hv2⟩ := h.ts.val
 obtain ⟨o3, c3, hv3⟩ := h.ps.val
 obtain ⟨o4, c4, hv4⟩ := h.es.val
 obtain ⟨n1, hn1⟩ : ∃ n, m.fs.length = n := ⟨_, rfl⟩
 obtain ⟨n2, hn2⟩ : ∃ n, m.ts.length = n := ⟨_, rfl⟩
 obtain ⟨n3, hn3⟩ : ∃ n, m.ps.length = n := ⟨_, rfl⟩
 obtain ⟨n4, hn4⟩ : ∃ n, m.es.length = n := ⟨_, rfl⟩
 have hlm : lM m = n3 + n1 + (m.ts.map lT).sum + (m.es.map lE).sum := by unfold lM; rw [hn1, hn3]
 have h2 : n2 ≤ (m.ts.map lT).sum := by rw [← hn2]; exact sum_len lT (fun t => by unfold lT; omega) m.ts
 have hh4 := h.es
 unfold M.val
 rw [hn4] at hb4
 rw [hv1, hv2, hv3, hv4, hn1, hn2, hn3, hn4]
 have HH := Lib.hid (And.intro h (And.intro hn2 (And.intro hn4 (And.intro hv2 hv4))))
 have HB := Lib.hid (And.intro hlm hb)
 have hb1 : n1 ≤ 1099511627776 := by omega
 have hb2 : n2 ≤ 1099511627776 := by omega
 have hb3 : n3 ≤ 1099511627776 := by omega
 clear h hv1 hv2 hv3 hv4 hn1 hn2 hn3 hn4 hlm hb h2 hh4
 obtain ⟨q, hq⟩ : ∃ q, w.heap.size = q := ⟨_, rfl⟩
 obtain ⟨W0, hW0⟩ : ∃ W0, w.alloc (.cells #[.int .i64 m.disk, .int .i64 m.segMax, .int .i64 m.base, .int .i64 m.qcap, .int .i64 m.qbytes, .int .i64 m.pmost, .int .i64 m.pbytes, .float .f64 m.linger, .float .f64 m.alpha, .slice o1 n1 c1, .slice o2 n2 c2, .slice o3 n3 c3, .int .i64 m.most, .slice o4 n4 c4] 40) = W0 := ⟨_, rfl⟩
 have b0 : W0.heap[q]? = some (.cells #[.int .i64 m.disk, .int .i64 m.segMax, .int .i64 m.base, .int .i64 m.qcap, .int .i64 m.qbytes, .int .i64 m.pmost, .int .i64 m.pbytes, .float .f64 m.linger, .float .f64 m.alpha, .slice o1 n1 c1, .slice o2 n2 c2, .slice o3 n3 c3, .int .i64 m.most, .slice o4 n4 c4] 40 (0, 0)) := by rw [← hW0, ← hq]; exact blk_new _ _
 have k0 : Keep (fun _ => False) w W0 := by rw [← hW0]; exact (Keep.refl _ w).alloc _
 have HK0 := Lib.hid k0
 have e9 : W0.cell? ⟨q, 9, none⟩ = some (.slice o1 n1 c1) := blk_cell b0 9
 have e10 : W0.cell? ⟨q, 10, none⟩ = some (.slice o2 n2 c2) := blk_cell b0 10
 have e11 : W0.cell? ⟨q, 11, none⟩ = some (.slice o3 n3 c3) := blk_cell b0 11
 have e13 : W0.cell? ⟨q, 13, none⟩ = some (.slice o4 n4 c4) := blk_cell b0 13
 clear b0 k0
 go_enter Tryz.func13, Tryz.ntmps13
 go_wp2_with fail
 clear hW0 hq
 go_loopg [3, 4, 5] n2 (fun gq s3 s4 s5 wr => ∃ k N : Nat, gq + k = n2 ∧ s4 = .int .i64 (k : Int) ∧ s3 = .int .i64 (N : Int) ∧ Hid (N = n3 + n1 + ((m.ts.take k).map lT).sum ∧ Keep (fun _ => False) W0 wr))
 case atStart => exact ⟨0, n3 + n1, by omega, rfl, by simp, by simp, Keep.refl _ _⟩
 case round =>
  obtain ⟨k, N, hgk, rfl, rfl, hN, hkp⟩ := hrel
  have x10 := cell_kept hkp e10
  obtain ⟨G, hG⟩ : ∃ G, gk = G := ⟨_, rfl⟩
  rw [hG] at hgk
  have HGG := Lib.hid hG
  clear hG
  by_cases hk : k < n2
  ·have hkI : (k : Int) < (n2 : Int) := by omega
   have hk0 : (0 : Int) ≤ (k : Int) := by omega
   have hkl : k < m.ts.length := by rw [HH.out.2.1]; exact hk
   obtain ⟨o', c', e', -, hcs, -⟩ := HH.out.1.ts
   rw [HH.out.2.2.2.1, HH.out.2.1] at e'
   cases e'
   obtain ⟨g, f, rfl, hc, hl⟩ := hcs k (by simpa using hkl)
   have ht := HH.out.1.calls _ (List.getElem_mem hkl)
   obtain ⟨o5, c5, hv5, -, hcs5, -⟩ := ht.row
   obtain ⟨n5, hn5⟩ : ∃ n, (m.ts[k]).l.length = n := ⟨_, rfl⟩
   rw [hn5] at hv5
   have cg : wr.cell? ⟨g, f + k, none⟩ = some (.slice o5 n5 c5) := by
    rw [((HK0.out.trans hkp).cell (p := ⟨g, f + k, none⟩) hl id).trans hc, List.getElem?_map, List.getElem?_eq_getElem hkl, ← hv5]
    rfl
   have hnx := sum_next lT m.ts k hkl
   have hle := sum_le lT m.ts (k + 1)
   obtain ⟨tl, htl⟩ : ∃ tl, (m.ts[k]).l = tl := ⟨_, rfl⟩
   have hlt : lT m.ts[k] = 1 + (tl.map lC).sum := by unfold lT; rw [htl]
   rw [htl] at hn5 hcs5
   have hda := ht.data
   rw [htl] at hda
   have hbt := HB.out
   have hN1 : N + 1 + (tl.map lC).sum ≤ 1099511627776 := by omega
   have h5 : n5 ≤ (tl.map lC).sum := by rw [← hn5]; exact sum_len lC (fun t => by unfold lC; omega) tl
   have HNX := Lib.hid (show N + 1 + (tl.map lC).sum = n3 + n1 + ((m.ts.take (k + 1)).map lT).sum from by omega)
   have HT := Lib.hid (And.intro hcs5 (And.intro hn5 (And.intro hda hkp)))
   have hN2 : N ≤ 1099511627776 := by omega
   have hb5 : n5 ≤ 1099511627776 := by omega
   have HNB := Lib.hid hN1
   clear hc hcs ht hv5 hnx hle htl hlt hcs5 hn5 hda hbt h5 hkp hN1 hN hkl
   go_wp2_with fail
   go_loopg [3, 5] n5 (fun gq s3 s5 wr' => ∃ j N' : Nat, gq + j = n5 ∧ s5 = .int .i64 (j : Int) ∧ s3 = .int .i64 (N' : Int) ∧ Hid (N' = N + 1 + ((tl.take j).map lC).sum ∧ Keep (fun _ => False) wr wr'))
   case atStart => exact ⟨0, N + 1, by omega, rfl, by simp, by simp, Keep.refl _ _⟩
   case round =>
    obtain ⟨j, N', hgj, rfl, rfl, hN', hkj⟩ := hrel
    have y10 := cell_kept hkj x10
    have yg := cell_kept hkj cg
    by_cases hj : j < n5
    ·have hjI : (j : Int) < (n5 : Int) := by omega
     have hj0 : (0 : Int) ≤ (j : Int) := by omega
     have hjl : j < tl.length := by rw [HT.out.2.1]; exact hj
     obtain ⟨g2, f2, rfl, hgl⟩ := HT.out.1.some (by rw [flatc_len _ 3 (fun _ => rfl)]; omega)
     have hcs2 := HT.out.1.kept ((HK0.out.trans HT.out.2.2.2).trans hkj)
     have d2 := hcs2.get 3 (fun _ => rfl) (List.getElem?_eq_getElem hjl) 2 (by omega)
     unfold MC.cells at d2
     simp at d2
     have hdd := HT.out.2.2.1 _ (List.getElem_mem hjl)
     obtain ⟨oD, cD, hvD⟩ := hdd.val
     obtain ⟨nD, hnD⟩ : ∃ n, (tl[j]).c.data.length = n := ⟨_, rfl⟩
     rw [hvD, hnD] at d2
     have hnx := sum_next lC tl j hjl
     have hle := sum_le lC tl (j + 1)
     have hlc : lC tl[j] = 10 + nD := by unfold lC; rw [hnD]
     have hbt := HNB.out
     have HNX2 := Lib.hid (show N' + 10 + nD = N + 1 + ((tl.take (j + 1)).map lC).sum from by omega)
     have hN3 : N' ≤ 1099511627776 := by omega
     have hD3 : nD ≤ 1099511627776 := by omega
     have HKJ := Lib.hid hkj
     clear hcs2 hdd hvD hnD hnx hle hlc hbt hN' hkj hjl hgl
     go_wp2_with fail
     go_roundg (gk - 1)
     all_goals first | omega | skip
     exact ⟨j + 1, N' + 10 + nD, by omega, by simp, by simp, HNX2.out, HKJ.out⟩
    ·obtain rfl : j = n5 := by omega
     have hjI : ¬ (j : Int) < (j : Int) := by omega
     have HF := Lib.hid (show N' = N + 1 + (tl.map lC).sum from by rw [hN', List.take_of_length_le (by rw [HT.out.2.1]; exact Nat.le_refl _)])
     have HKJ := Lib.hid hkj
     clear hN' hkj
     go_wp2_with fail
     have hG := HGG.out
     go_roundg (G - 1)
     all_goals first | omega | skip
     exact ⟨k + 1, N', by omega, by simp, by simp, by rw [HF.out]; exact HNX.out, HT.out.2.2.2.trans HKJ.out⟩
  ·obtain rfl : k = n2 := by omega
   have hkI : ¬ (k : Int) < (k : Int) := by omega
   have hN1 : N + (m.es.map lE).sum = lM m := by
    rw [HB.out.1, hN, List.take_of_length_le (by rw [HH.out.2.1]; exact Nat.le_refl _)]
   have h4 : ∀ j, j < m.es.length → True := fun _ _ => trivial
   have x13 := cell_kept hkp e13
   have hbt := HB.out.2
   have HN := Lib.hid hN1
   have hN2 : N ≤ 1099511627776 := by omega
   have hes : (m.es.map lE).sum ≤ 1099511627776 := by omega
   have HES := Lib.hid hes
   have HKP := Lib.hid hkp
   clear e10 e11 e9 e13 h4 hN hN1 hbt hkp hes
   go_wp2_with fail
   go_loopg [3, 6, 7] n4 (fun gq s3 s6 s7 wx => ∃ j M : Nat, gq + j = n4 ∧ s6 = .int .i64 (j : Int) ∧ s3 = .int .i64 (M : Int) ∧ Hid (M = N + ((m.es.take j).map lE).sum ∧ Keep (fun _ => False) wr wx))
   case atStart => exact ⟨0, N, by omega, rfl, rfl, by simp, Keep.refl _ _⟩
   case round =>
    obtain ⟨j, M, hgj, rfl, rfl, hM, hkp⟩ := hrel
    have y13 := cell_kept hkp x13
    obtain ⟨G2, hG2⟩ : ∃ G, gk = G := ⟨_, rfl⟩
    rw [hG2] at hgj
    have HGG2 := Lib.hid hG2
    clear hG2
    by_cases hj : j < n4
    ·have hjI : (j : Int) < (n4 : Int) := by omega
     have hj0 : (0 : Int) ≤ (j : Int) := by omega
     have hjl : j < m.es.length := by rw [HH.out.2.2.1]; exact hj
     obtain ⟨o', c', e', -, hcs, -⟩ := HH.out.1.es
     rw [HH.out.2.2.2.2, HH.out.2.2.1] at e'
     cases e'
     obtain ⟨g, f, rfl, hgl⟩ := hcs.some (by rw [flatc_len _ 3 (fun _ => rfl)]; omega)
     have hcs2 := hcs.kept ((HK0.out.trans HKP.out).trans hkp)
     have d1 := hcs2.get 3 (fun _ => rfl) (List.getElem?_eq_getElem hjl) 1 (by omega)
     have d2 := hcs2.get 3 (fun _ => rfl) (List.getElem?_eq_getElem hjl) 2 (by omega)
     unfold ME.cells at d1 d2
     simp at d1 d2
     have he := HH.out.1.ends _ (List.getElem_mem hjl)
     have hnx := sum_next lE m.es j hjl
     have hle := sum_le lE m.es (j + 1)
     obtain ⟨E, hE⟩ : ∃ E, m.es[j] = E := ⟨_, rfl⟩
     rw [hE] at d1 d2 he hnx
     obtain ⟨oK, cK, hvK, -, hcsK, -⟩ := he.keeps
     obtain ⟨oF, cF, hvF⟩ := he.faults.val
     obtain ⟨nK, hnK⟩ : ∃ n, E.ks.length = n := ⟨_, rfl⟩
     obtain ⟨nF, hnF⟩ : ∃ n, E.fs.length = n := ⟨_, rfl⟩
     rw [hvK, hnK] at d1
     rw [hvF, hnF] at d2
     have hlt : lE E = nF + (E.ks.map lK).sum := by unfold lE; rw [hnF]
     have hbt := HB.out.2
     have hbn := HN.out
     have hM1 : M + nF + (E.ks.map lK).sum ≤ 1099511627776 := by have := HES.out; omega
     have h5 : nK ≤ (E.ks.map lK).sum := by rw [← hnK]; exact sum_len lK (fun t => by unfold lK; omega) E.ks
     have HNX := Lib.hid (show M + nF + (E.ks.map lK).sum = N + ((m.es.take (j + 1)).map lE).sum from by omega)
     have HT := Lib.hid (And.intro hcsK (And.intro hnK (And.intro he.junk hkp)))
     have hM2 : M ≤ 1099511627776 := by omega
     have hbF : nF ≤ 1099511627776 := by omega
     have hbK : nK ≤ 1099511627776 := by omega
     have HNB := Lib.hid hM1
     clear hcs hcs2 he hnx hle hE hvK hvF hnK hnF hlt hbt hbn hM1 h5 hM hkp hcsK hjl
     go_wp2_with fail
     go_loopg [3, 7] nK (fun gq s3 s7 wx => ∃ i M' : Nat, gq + i = nK ∧ s7 = .int .i64 (i : Int) ∧ s3 = .int .i64 (M' : Int) ∧ Hid (M' = M + nF + ((E.ks.take i).map lK).sum ∧ Keep (fun _ => False) wr wx))
     case atStart => exact ⟨0, M + nF, by omega, rfl, by simp, by simp, Keep.refl _ _⟩
     case round =>
      obtain ⟨i, M', hgi, rfl, rfl, hM', hki⟩ := hrel
      have z13 := cell_kept hki y13
      have z1 := cell_kept hki d1
      by_cases hi : i < nK
      ·have hiI : (i : Int) < (nK : Int) := by omega
       have hi0 : (0 : Int) ≤ (i : Int) := by omega
       have hil : i < E.ks.length := by rw [HT.out.2.1]; exact hi
       obtain ⟨g2, f2, rfl, hgl2⟩ := HT.out.1.some (by rw [flatc_len _ 2 (fun _ => rfl)]; omega)
       have hcs3 := HT.out.1.kept (((HK0.out.trans HKP.out).trans HT.out.2.2.2).trans hki)
       have d3 := hcs3.get 2 (fun _ => rfl) (List.getElem?_eq_getElem hil) 1 (by omega)
       unfold MK.cells at d3
       simp at d3
       have hdd := HT.out.2.2.1 _ (List.getElem_mem hil)
       obtain ⟨oD, cD, hvD⟩ := hdd.val
       obtain ⟨nD, hnD⟩ : ∃ n, (E.ks[i]).k.junk.length = n := ⟨_, rfl⟩
       rw [hvD, hnD] at d3
       have hnx := sum_next lK E.ks i hil
       have hle := sum_le lK E.ks (i + 1)
       have hlc : lK E.ks[i] = 10 + nD := by unfold lK; rw [hnD]
       have hbt := HNB.out
       have HNX2 := Lib.hid (show M' + 10 + nD = M + nF + ((E.ks.take (i + 1)).map lK).sum from by omega)
       have hN3 : M' ≤ 1099511627776 := by omega
       have hD3 : nD ≤ 1099511627776 := by omega
       have HKJ := Lib.hid hki
       clear hcs3 hdd hvD hnD hnx hle hlc hbt hM' hki hil hgl2
       go_wp2_with fail
       go_roundg (gk - 1)
       all_goals first | omega | skip
       exact ⟨i + 1, M' + 10 + nD, by omega, by simp, by simp, HNX2.out, HKJ.out⟩
      ·obtain rfl : i = nK := by omega
       have hiI : ¬ (i : Int) < (i : Int) := by omega
       have HF := Lib.hid (show M' = M + nF + (E.ks.map lK).sum from by rw [hM', List.take_of_length_le (by rw [HT.out.2.1]; exact Nat.le_refl _)])
       have HKJ := Lib.hid hki
       clear hM' hki
       go_wp2_with fail
       have hG := HGG2.out
       go_roundg (G2 - 1)
       all_goals first | omega | skip
       exact ⟨j + 1, M', by omega, by simp, by simp, by rw [HF.out]; exact HNX.out, HT.out.2.2.2.trans HKJ.out⟩
    ·obtain rfl : j = n4 := by omega
     have hjI : ¬ (j : Int) < (j : Int) := by omega
     have hF : M = lM m := by rw [← HN.out, hM, List.take_of_length_le (by rw [HH.out.2.2.1]; exact Nat.le_refl _)]
     have HKK := Lib.hid ((HK0.out.trans HKP.out).trans hkp)
     have HFM := Lib.hid hF
     have HMM := Lib.hid hM
     clear hM hkp hF HN
     by_cases hm : M < 131072
     ·have hmI : (M : Int) < 131072 := by omega
      go_wp2_with fail
      go_ret
      exact ⟨by rw [← HFM.out, decide_eq_true hm]; rfl, HKK.out⟩
     ·have hmI : ¬ (M : Int) < 131072 := by omega
      go_wp2_with fail
      go_ret
      exact ⟨by rw [← HFM.out, decide_eq_false hm]; rfl, HKK.out⟩

set_option maxRecDepth 100000 in
set_option maxHeartbeats 2000000 in
theorem eqS_any (v1 v2 : Value) (s : Str) (w : World) (h1 : SlAt w v1 s.length (u8v s)) (h2 : SlAt w v2 s.length (u8v s)) (hn : s.length ≤ 1099511627776) :
  Calls Tryz.prog 25 #[v1, v2] w fun e w' => e = .returned (.bool true) ∧ w' = w.drewN s.length := by
 obtain ⟨o1, c1, rfl, -, h1, -⟩ := h1
 obtain ⟨o2, c2, rfl, -, h2, -⟩ := h2
 obtain ⟨n, hL⟩ : ∃ n, s.length = n := ⟨_, rfl⟩
 have HH := Lib.hid (And.intro h1 (And.intro h2 hL))
 rw [hL] at hn ⊢
 clear h1 h2 hL
 go_enter Tryz.func25, Tryz.ntmps25
 go_wp2_with fail
 go_loopg [5] n (fun g i wr => ∃ k : Nat, g + k = n ∧ i = .int .i64 (k : Int) ∧ Hid (wr = w.drewN k))
 case atStart => exact ⟨0, by omega, rfl, rfl⟩
 case round =>
  obtain ⟨k, hgk, rfl, hw⟩ := hrel
  have hkp : Keep (fun _ => False) w wr := by rw [show wr = w.drewN k from hw]; exact (Keep.refl _ w).drewN k
  have HK := Lib.hid hw
  clear hw
  by_cases hk : k < n
  ·have hkI : (k : Int) < (n : Int) := by omega
   have hk0 : (0 : Int) ≤ (k : Int) := by omega
   have hks : k < s.length := by rw [HH.out.2.2]; exact hk
   obtain ⟨g1, f1, rfl, hc1, -⟩ := (HH.out.1.kept hkp) k (by rw [u8v_len]; exact hks)
   obtain ⟨g2, f2, rfl, hc2, -⟩ := (HH.out.2.1.kept hkp) k (by rw [u8v_len]; exact hks)
   have hu : (u8v s)[k]? = some (.int .u8 ((s[k]).toNat : Int)) := by unfold u8v; rw [List.getElem?_map, List.getElem?_eq_getElem hks]; rfl
   rw [hu] at hc1 hc2
   generalize (s[k]).toNat = x at *
   have e1 : ((x : Int) != (x : Int)) = false := by simp
   clear hkp hks hu
   go_wp2_with fail
   go_region
   go_wp2_with fail
   go_roundg (gk - 1)
   all_goals first | omega | skip
   case rel => exact ⟨k + 1, by omega, by simp, by rw [show wr = w.drewN k from HK.out]; rfl⟩
  ·obtain rfl : k = n := by omega
   have hkI : ¬ (k : Int) < (k : Int) := by omega
   clear hkp
   go_wp2_with fail
   go_ret
   exact ⟨rfl, HK.out⟩
theorem fault_neq (a b c : Int) (w : World) : (binOp BinOp.neq 114 (.agg #[.int .i64 a, .int .i64 b, .int .i64 c]) (.agg #[.int .i64 a, .int .i64 b, .int .i64 c])).run Tryz.prog w = .ok (.bool false) w := by
 simp [go_sem]
set_option maxRecDepth 100000 in
set_option maxHeartbeats 4000000 in
theorem eqF_any (v1 v2 : Value) (s : List Fault) (w : World) (h1 : SlAt w v1 s.length (fsv s)) (h2 : SlAt w v2 s.length (fsv s)) (hn : s.length ≤ 1099511627776) :
  Calls Tryz.prog 24 #[v1, v2] w fun e w' => e = .returned (.bool true) ∧ w' = w.drewN s.length := by
 obtain ⟨o1, c1, rfl, -, h1, -⟩ := h1
 obtain ⟨o2, c2, rfl, -, h2, -⟩ := h2
 obtain ⟨n, hL⟩ : ∃ n, s.length = n := ⟨_, rfl⟩
 have HH := Lib.hid (And.intro h1 (And.intro h2 hL))
 rw [hL] at hn ⊢
 clear h1 h2 hL
 go_enter Tryz.func24, Tryz.ntmps24
 go_wp2_with fail
 go_loopg [5] n (fun g i wr => ∃ k : Nat, g + k = n ∧ i = .int .i64 (k : Int) ∧ Hid (wr = w.drewN k))
 case atStart => exact ⟨0, by omega, rfl, rfl⟩
 case round =>
  obtain ⟨k, hgk, rfl, hw⟩ := hrel
  have hkp : Keep (fun _ => False) w wr := by rw [show wr = w.drewN k from hw]; exact (Keep.refl _ w).drewN k
  have HK := Lib.hid hw
  clear hw
  by_cases hk : k < n
  ·have hkI : (k : Int) < (n : Int) := by omega
   have hk0 : (0 : Int) ≤ (k : Int) := by omega
   have hks : k < s.length := by rw [HH.out.2.2]; exact hk
   obtain ⟨g1, f1, rfl, -⟩ := HH.out.1.some (by unfold fsv; rw [flatc_len _ 3 (fun _ => rfl)]; omega)
   obtain ⟨g2, f2, rfl, -⟩ := HH.out.2.1.some (by unfold fsv; rw [flatc_len _ 3 (fun _ => rfl)]; omega)
   have hcs1 := HH.out.1.kept hkp
   have hcs2 := HH.out.2.1.kept hkp
   unfold fsv at hcs1 hcs2
   have d0 := hcs1.get 3 (fun _ => rfl) (List.getElem?_eq_getElem hks) 0 (by omega)
   have d1 := hcs1.get 3 (fun _ => rfl) (List.getElem?_eq_getElem hks) 1 (by omega)
   have d2 := hcs1.get 3 (fun _ => rfl) (List.getElem?_eq_getElem hks) 2 (by omega)
   have e0 := hcs2.get 3 (fun _ => rfl) (List.getElem?_eq_getElem hks) 0 (by omega)
   have e1 := hcs2.get 3 (fun _ => rfl) (List.getElem?_eq_getElem hks) 1 (by omega)
   have e2 := hcs2.get 3 (fun _ => rfl) (List.getElem?_eq_getElem hks) 2 (by omega)
   unfold fcells at d0 d1 d2 e0 e1 e2
   simp at d0 d1 d2 e0 e1 e2
   generalize (s[k]).at_ = x0 at *
   generalize (s[k]).kind = x1 at *
   generalize (s[k]).part = x2 at *
   have hq := fault_neq x0 x1 x2
   clear hkp hks hcs1 hcs2
   go_wp2_with fail
   go_region
   go_wp2_with fail
   go_roundg (gk - 1)
   all_goals first | omega | skip
   case rel => exact ⟨k + 1, by omega, by simp, by rw [show wr = w.drewN k from HK.out]; rfl⟩
  ·obtain rfl : k = n := by omega
   have hkI : ¬ (k : Int) < (k : Int) := by omega
   clear hkp
   go_wp2_with fail
   go_ret
   exact ⟨rfl, HK.out⟩
theorem canon3_any (a : Nat) (w : World) : Calls Tryz.prog 23 #[.float .f64 a] w fun e w' => e = .returned (.float .f64 (canW a)) ∧ w = w' := by
 have HN := Lib.hid (nan3_any a)
 have f1 : ∀ w : World, (callFunc 58 #[.int .u64 9221120237041090561]).run Tryz.prog w = .ok (.value (.float .f64 9221120237041090561)) w := fun w => ext_from 9221120237041090561 w
 unfold canW
 cases hn : Flt.nan a
 ·rw [hn] at HN
  go_enter Tryz.func23, Tryz.ntmps23
  go_wp2_with fail
  refine (HN.out _).mono ?_
  rintro e w1 ⟨rfl, rfl⟩
  go_wp2_with fail
  go_ret
  exact ⟨rfl, rfl⟩
 ·rw [hn] at HN
  go_enter Tryz.func23, Tryz.ntmps23
  go_wp2_with fail
  refine (HN.out _).mono ?_
  rintro e w1 ⟨rfl, rfl⟩
  go_wp2_with fail
  go_ret
  exact ⟨rfl, rfl⟩
end Sc
end Go.Proofs.YtkkecpamnnojoaaGreatDoor
