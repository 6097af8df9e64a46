/- A part of the proof of ScriptBlanks: nothing is assumed. By an AI agent. -/
import Derived.Test.YtkkecpamnnojoaaGreatDoorBq18
import Derived.Lib.ItoaLen
import Derived.Test.YtkkecpamnnojoaaGreatDoorBq03
import Derived.Test.YtkkecpamnnojoaaGreatDoorBq11
import Derived.Deep.Strs
import Derived.Lib.SmallJoins
namespace Go.Proofs.YtkkecpamnnojoaaGreatDoor
open Go.ChangeShapes Go.WideShapes Go.ChangeAt Go.RowKit Go.Shelf
open Bt Dc By
set_option linter.unusedVariables false
namespace Sc

def keepT (k : Kp) : Str := decS k.n ++ (if k.junk = [] then [] else 58 :: pairsS (k.junk.take 65536))
def endT (r : Reopen) : Str := putL ([101, 110, 100] :: decS r.dir :: r.keeps.map keepT) ++ faultsS r.faults
def EndOk (r : Reopen) : Prop := IsI r.dir ∧ (∀ k ∈ r.keeps, IsI k.n) ∧ ∀ f ∈ r.faults, FaultOk f
theorem pairsS_len (b : Str) : (pairsS b).length ≤ 2 * b.length + 1 := by
 unfold pairsS
 split
 ·simp
 ·have : ∀ l : Str, (l.flatMap two16).length = 2 * l.length := fun l => by
   induction l with
   | nil => rfl
   | cons c l ih => rw [List.flatMap_cons, List.length_append, ih]; simp [two16]; omega
  rw [this]; omega
theorem strB_cat (a b : Str) : strB a ++ (⟨#[58]⟩ ++ strB b) = strB (a ++ 58 :: b) := by
 unfold strB
 apply ByteArray.ext
 simp [ByteArray.data_append]
theorem csat_take {w : World} {o : Option Addr} {s : Str} (h : CsAt w o (u8v s)) (n : Nat) : CsAt w o (u8v (s.take n)) := fun i hi => by
 have e : u8v (s.take n) = (u8v s).take n := by unfold u8v; rw [List.map_take]
 rw [e] at hi ⊢
 rw [List.length_take] at hi
 obtain ⟨g, f, h1, h2, h3⟩ := h i (by omega)
 exact ⟨g, f, h1, by rw [h2, List.getElem?_take_of_lt (by omega)], h3⟩
set_option maxRecDepth 100000 in
set_option maxHeartbeats 16000000 in
theorem pend_any {w : World} {own : Nat → Option T} {xb : Nat} {v : Value} {B : Str} (N0 : Nat) (e : ME) (h : Pr w own xb v B) (hE : Ev N0 w) (hlow : ∀ g, own g ≠ none → N0 ≤ g) (he : EndS w e)
  (hfr : 0 < e.fs.length → ∀ o cap n, e.fv = .slice (some o) n cap → own o.block = none) (hok : EndOk e.reopen) (hn : e.ks.length ≤ 256 ∧ e.fs.length ≤ 64 ∧ ∀ k ∈ e.ks, k.k.junk.length ≤ 1073741824) (hb : (B ++ endT e.reopen).length ≤ 1099511627776) :
  Calls Tryz.prog 67 #[.pointer (some ⟨xb, 0, none⟩), .agg #[.int .i64 e.dir, e.kv, e.fv]] w fun r w' => r = .returned (.tuple #[]) ∧ Puts w own xb (B ++ endT e.reopen) w' := by
 obtain ⟨o1, c1, hv1, -, hcs1, -⟩ := he.keeps
 obtain ⟨o2, c2, hv2⟩ := he.faults.val
 obtain ⟨n1, hn1⟩ : ∃ n, e.ks.length = n := ⟨_, rfl⟩
 obtain ⟨n2, hn2⟩ : ∃ n, e.fs.length = n := ⟨_, rfl⟩
 have hb1 : n1 ≤ 256 := by rw [← hn1]; exact hn.1
 have hb2 : n2 ≤ 64 := by rw [← hn2]; exact hn.2.1
 obtain ⟨dr, hdr⟩ : ∃ d, e.dir = d := ⟨_, rfl⟩
 obtain ⟨dS, hdS⟩ : ∃ s, decS dr = s := ⟨_, rfl⟩
 have HT := Lib.hid (show endT e.reopen = putL ([101, 110, 100] :: dS :: e.ks.map (fun k => keepT k.k)) ++ faultsS e.fs from by
  unfold endT ME.reopen; rw [hdr, hdS]; simp [Function.comp_def])
 obtain ⟨q, hq⟩ : ∃ q, w.heap.size = q := ⟨_, rfl⟩
 rw [hv1, hv2, hn1, hn2, hdr]
 obtain ⟨W0, hW0⟩ : ∃ W0, w.alloc (.cells #[.int .i64 dr, .slice o1 n1 c1, .slice o2 n2 c2] 82) = W0 := ⟨_, rfl⟩
 have b0 : W0.heap[q]? = some (.cells #[.int .i64 dr, .slice o1 n1 c1, .slice o2 n2 c2] 82 (0, 0)) := by rw [← hW0, ← hq]; exact blk_new _ _
 have k0 : Keep (fun _ => False) w W0 := by rw [← hW0]; exact (Keep.refl _ w).alloc _
 have hs0 : W0.heap.size = q + 1 := by rw [← hW0, ← hq]; simp
 have hdk : IsI dr := by have := hok.1; rw [← hdr]; exact this
 have HD := Lib.hid (fun W hE => dec_any dr N0 W hE hdk)
 rw [hdS] at HD
 have HH := Lib.hid (And.intro h (And.intro hE (And.intro hlow (And.intro he (And.intro hok (And.intro hcs1 (And.intro hn1 (And.intro hn2 (And.intro k0 (And.intro hs0 hn.2.2))))))))))
 have HV := Lib.hid (And.intro (show e.fv = .slice o2 n2 c2 from by rw [hv2, hn2]) hfr)
 have HB := Lib.hid hb
 have HE0 := Lib.hid (hE.kept k0.none)
 have HB0 := Lib.hid b0
 have e0 := blk_cell b0 0
 have e1 := blk_cell b0 1
 have e2 := blk_cell b0 2
 simp at e0 e1 e2
 have HNow := Lib.hid (Keep.refl (fun _ => False) W0)
 clear h hE hlow he hok hcs1 hn1 hn2 k0 hs0 hb b0 hv1 hv2 hdk hn hdr hdS hfr
 obtain ⟨iS, hi0, hi1, hi2, hi3⟩ := infoS
 have HI := Lib.hid (And.intro hi0 (And.intro hi1 (And.intro hi2 hi3)))
 clear hi0 hi1 hi2 hi3
 go_enter Tryz.func67, Tryz.ntmps67
 go_wp2_with (go_at_call 62; refine (HD.out _ (HE0.out.kept HNow.out.none)).mono ?_; rintro e' w' ⟨rfl, kx⟩; have HNow := Lib.hid ((HNow.out.trans kx).alloc (.cells #[.string ⟨#[101, 110, 100]⟩, .string (strB dS)] 9)); have f1 := cell_kept HNow.out e1; have f2 := cell_kept HNow.out e2; have HR0 := Lib.hid (row_new w' (q + 1) 9 ([[101, 110, 100], dS].map encS) (by have := kx.size; have := HH.out.2.2.2.2.2.2.2.2.2.1; omega) (by unfold maxLen; simp)); clear kx)
 go_loopg [4, 6, 7, 17] n1 (fun gq s4 s6 s7 s17 wr => ∃ k : Nat, gq + k = n1 ∧ s17 = .int .i64 (k : Int) ∧ Hid (wr.ownsRow (q + 1) 9 1 s4 (k + 2) (([101, 110, 100] :: dS :: (e.ks.take k).map (fun k => keepT k.k)).map encS) ∧ Keep (fun _ => False) W0 wr))
 case atStart => exact ⟨0, by omega, rfl, HR0.out, HNow.out⟩
 case round =>
  obtain ⟨k, hgk, rfl, hrow, hkp⟩ := hrel
  have HK := Lib.hid (And.intro hrow hkp)
  by_cases hk : k < n1
  ·have hkI : (k : Int) < (n1 : Int) := by omega
   have hk0 : (0 : Int) ≤ (k : Int) := by omega
   have hkl : k < e.ks.length := by rw [HH.out.2.2.2.2.2.2.1]; exact hk
   obtain ⟨g, f, rfl, hgl⟩ := HH.out.2.2.2.2.2.1.some (by rw [flatc_len _ 2 (fun _ => rfl)]; omega)
   have hcs2 := HH.out.2.2.2.2.2.1.kept (HH.out.2.2.2.2.2.2.2.2.1.trans hkp)
   have d0 := hcs2.get 2 (fun _ => rfl) (List.getElem?_eq_getElem hkl) 0 (by omega)
   have d1 := hcs2.get 2 (fun _ => rfl) (List.getElem?_eq_getElem hkl) 1 (by omega)
   unfold MK.cells at d0 d1
   simp at d0 d1
   have hj := HH.out.2.2.2.1.junk _ (List.getElem_mem hkl)
   have hjn := HH.out.2.2.2.2.2.2.2.2.2.2 _ (List.getElem_mem hkl)
   have hok := HH.out.2.2.2.2.1.2.1 _ (List.mem_map.2 ⟨_, List.getElem_mem hkl, rfl⟩)
   have htk : e.ks.take (k + 1) = e.ks.take k ++ [e.ks[k]] := by rw [List.take_add_one, List.getElem?_eq_getElem hkl]; rfl
   have hsn : [101, 110, 100] :: dS :: (e.ks.take (k + 1)).map (fun k => keepT k.k) = ([101, 110, 100] :: dS :: (e.ks.take k).map (fun k => keepT k.k)) ++ [keepT (e.ks[k]).k] := by rw [htk]; simp only [List.map_append, List.map_cons, List.map_nil, List.cons_append]
   obtain ⟨o3, c3, hv3, hcap3, hcs3, -⟩ := hj
   obtain ⟨kp, hkp2⟩ : ∃ kp, (e.ks[k]).k = kp := ⟨_, rfl⟩
   rw [hkp2] at hok hv3 hcap3 hcs3 hjn hsn d0
   rw [hv3] at d1
   obtain ⟨nj, hnj⟩ : ∃ n, kp.n = n := ⟨_, rfl⟩
   obtain ⟨J, hJ⟩ : ∃ J, kp.junk = J := ⟨_, rfl⟩
   obtain ⟨m, hm⟩ : ∃ m, J.length = m := ⟨_, rfl⟩
   obtain ⟨sN, hsN⟩ : ∃ s, decS nj = s := ⟨_, rfl⟩
   have hkT : keepT kp = sN ++ (if J = [] then [] else 58 :: pairsS (J.take 65536)) := by unfold keepT; rw [hnj, hJ, hsN]
   rw [hnj] at hok d0
   rw [hJ] at hcap3 hcs3 hjn d1
   rw [hm] at hcap3 hjn d1
   have HD2 := Lib.hid (fun W hE => dec_any nj N0 W hE hok)
   rw [hsN] at HD2
   have HS := Lib.hid (And.intro hsn (And.intro hcs3 (And.intro hcap3 (And.intro hm hkT))))
   obtain ⟨q2, hq2⟩ : ∃ q2, wr.heap.size = q2 := ⟨_, rfl⟩
   obtain ⟨W1, hW1⟩ : ∃ W1, wr.alloc (.cells #[.int .i64 nj, .slice o3 m c3] 84) = W1 := ⟨_, rfl⟩
   have b1 : W1.heap[q2]? = some (.cells #[.int .i64 nj, .slice o3 m c3] 84 (0, 0)) := by rw [← hW1, ← hq2]; exact blk_new _ _
   have k1 : Keep (fun _ => False) wr W1 := by rw [← hW1]; exact (Keep.refl _ wr).alloc _
   have HK1 := Lib.hid k1
   have x0 := blk_cell b1 0
   have x1 := blk_cell b1 1
   simp at x0 x1
   have HN1 := Lib.hid (Keep.refl (fun _ => False) W1)
   have hev1 := Lib.hid (HE0.out.kept (hkp.trans k1).none)
   have HSN := Lib.hid (show sN.length ≤ 21 from by rw [← hsN]; exact Lib.itoa_length_le nj hok.1 hok.2)
   clear hrow hkp hcs2 hkp2 hv3 hcap3 hcs3 hnj hJ hm hsN hkT hok hsn htk hkl b1 k1 f1 f2
   by_cases h0 : m = 0
   ·subst h0
    go_wp2_with (first
     | (go_at_call 62; refine (HD2.out _ (hev1.out.kept HN1.out.none)).mono ?_; rintro e' w' ⟨rfl, kx⟩; have y1 := cell_kept kx x1; have HN1 := Lib.hid (HN1.out.trans kx); clear kx)
     | (at_builtin; refine wpList_append_own_at _ rfl (.tmp 39) (.tmp 41) 22 rfl (q + 1) 9 iS _ 1 16 Tryz.underlying22 HI.out.1 HI.out.2.1 HI.out.2.2.1 HI.out.2.2.2 rfl (by decide) u4 (k + 2) _ rfl (row_keep HK.out.1 ((HK1.out.trans HN1.out).alloc _) fun _ _ => id) ⟨_, 0, none⟩ 1 1 [.string (strB sN)] rfl rfl (cell_one_new _ _ _) (by simp [Value.oneCell']) (by unfold maxLen; omega) (by omega) (by have := HN1.out.size; have := HK1.out.size; have := HK.out.2.size; have := HH.out.2.2.2.2.2.2.2.2.2.1; simp; omega) ?_; intro v4 w4 hown hgr _ _; have HQ := Lib.hid (And.intro hown (grow_row (row_keep HK.out.1 (HK1.out.trans HN1.out) fun _ _ => id) hgr)); clear hown hgr))
    go_roundg (gk - 1)
    all_goals first | omega | skip
    case rel =>
     refine ⟨k + 1, by omega, by simp, ?_, ((HK.out.2.trans HK1.out).trans HN1.out).own HQ.out.2 fun i hi => Or.inr (by have := HH.out.2.2.2.2.2.2.2.2.2.1; omega)⟩
     have h := HQ.out.1
     rw [HS.out.1, HS.out.2.2.2.2, if_pos (List.length_eq_zero_iff.1 HS.out.2.2.2.1), List.append_nil, List.map_append]
     exact h
   ·have hm0 : (0 : Int) < (m : Int) := by omega
    obtain ⟨g3, f3, rfl, hg3⟩ := HS.out.2.1.some (by rw [u8v_len, HS.out.2.2.2.1]; omega)
    obtain ⟨P, hP⟩ : ∃ P, (J.take 65536).length = P := ⟨_, rfl⟩
    have hmn : min (m : Int) 65536 = (P : Int) := by rw [← hP, List.length_take, HS.out.2.2.2.1]; omega
    have hPm : P ≤ m := by rw [← hP, List.length_take, HS.out.2.2.2.1]; omega
    have HPX := Lib.hid (fun W k => pairs_any (some ⟨g3, f3, none⟩) c3 (J.take 65536) W ((csat_take (HS.out.2.1) 65536).kept k) (by rw [hP]; omega))
    rw [hP] at HPX
    have hP0 : (0 : Int) ≤ (P : Int) := by omega
    have hPc : (P : Int) ≤ (c3 : Int) := by have := HS.out.2.2.1; omega
    have hc3 : ¬ c3 = 0 := by have := HS.out.2.2.1; omega
    have hjt : J ≠ [] := fun e => h0 (by rw [← HS.out.2.2.2.1, e]; rfl)
    obtain ⟨sP, hsP⟩ : ∃ s, pairsS (J.take 65536) = s := ⟨_, rfl⟩
    rw [hsP] at HPX
    have HS2 := Lib.hid (show keepT kp = sN ++ 58 :: sP from by rw [HS.out.2.2.2.2, if_neg hjt, hsP])
    have hz1 : ¬ 9223372036854775807 < 1 + (strB sP).size := by
     have := pairsS_len (J.take 65536)
     rw [strB_size, ← hsP]
     rw [List.length_take] at this
     omega
    have hz2 : ¬ 9223372036854775807 < (strB sN).size + (1 + (strB sP).size) := by
     have := pairsS_len (J.take 65536)
     rw [strB_size, strB_size, ← hsP]
     rw [List.length_take] at this
     have := HSN.out
     omega
    obtain ⟨sT, hsT⟩ : ∃ s, sN ++ 58 :: sP = s := ⟨_, rfl⟩
    have hcat : strB sN ++ (⟨#[58]⟩ ++ strB sP) = strB sT := by rw [← hsT]; exact strB_cat sN sP
    rw [hsT] at HS2
    clear hP hsP hjt hg3 hsT
    go_wp2_with (first
     | (go_at_call 62; refine (HD2.out _ (hev1.out.kept HN1.out.none)).mono ?_; rintro e' w' ⟨rfl, kx⟩; have y1 := cell_kept kx x1; have HN1 := Lib.hid (HN1.out.trans kx); clear kx)
     | (go_at_call 94; refine (HPX.out _ (((HH.out.2.2.2.2.2.2.2.2.1.trans HK.out.2).trans HK1.out).trans HN1.out)).mono ?_; rintro e' w' ⟨rfl, kx⟩; have HN1 := Lib.hid (HN1.out.trans kx); clear kx)
     | (at_builtin; refine wpList_append_own_at _ rfl (.tmp 39) (.tmp 41) 22 rfl (q + 1) 9 iS _ 1 16 Tryz.underlying22 HI.out.1 HI.out.2.1 HI.out.2.2.1 HI.out.2.2.2 rfl (by decide) u4 (k + 2) _ rfl (row_keep HK.out.1 ((HK1.out.trans HN1.out).alloc _) fun _ _ => id) ⟨_, 0, none⟩ 1 1 [.string (strB sT)] rfl rfl (cell_one_new _ _ _) (by simp [Value.oneCell']) (by unfold maxLen; omega) (by omega) (by have := HN1.out.size; have := HK1.out.size; have := HK.out.2.size; have := HH.out.2.2.2.2.2.2.2.2.2.1; simp; omega) ?_; intro v4 w4 hown hgr _ _; have HQ := Lib.hid (And.intro hown (grow_row (row_keep HK.out.1 (HK1.out.trans HN1.out) fun _ _ => id) hgr)); clear hown hgr))
    go_roundg (gk - 1)
    all_goals first | omega | skip
    case rel =>
     refine ⟨k + 1, by omega, by simp, ?_, ((HK.out.2.trans HK1.out).trans HN1.out).own HQ.out.2 fun i hi => Or.inr (by have := HH.out.2.2.2.2.2.2.2.2.2.1; omega)⟩
     have h := HQ.out.1
     rw [HS.out.1, HS2.out, List.map_append]
     exact h
  ·obtain rfl : k = n1 := by omega
   have hkI : ¬ (k : Int) < (k : Int) := by omega
   rw [List.take_of_length_le (by rw [HH.out.2.2.2.2.2.2.1]; exact Nat.le_refl _)] at hrow
   obtain ⟨ws, hws⟩ : ∃ ws, [101, 110, 100] :: dS :: e.ks.map (fun k => keepT k.k) = ws := ⟨_, rfl⟩
   have hwl : ws.length = k + 2 := by rw [← hws]; simp [HH.out.2.2.2.2.2.2.1]
   rw [hws] at hrow HT
   rw [← hwl] at hrow
   have hbase := hrow
   obtain ⟨o, cap, rfl, -, hcap, hwat⟩ := WsAt.of_row hrow
   obtain ⟨g, f, rfl, -, hgl⟩ := hwat 0 (by omega)
   have hgb : q + 1 ≤ g := by
    rcases hbase.2 with ⟨h1, -⟩ | ⟨g', c', cur, h1, h2, -⟩
    ·cases h1
    ·cases h1; exact h2
   have hpr := HH.out.1.kept (HH.out.2.2.2.2.2.2.2.2.1.trans hkp)
   have hgo : own g = none := HH.out.1.past (by omega)
   have hB := HB.out
   rw [HT.out, ← List.append_assoc] at hB
   have HPU := Lib.hid (put_any g f cap ws hpr hwat hgo hcap (by omega) (by rw [List.length_append] at hB; omega))
   rw [hwl] at HPU ⊢
   have hqo : own q = none := HH.out.1.past (Nat.le_of_eq hq)
   have HG := Lib.hid (fun (w2 : World) (B2 : Str) (own2 : Nat → Option T) (v2 : Value) (hp : Pr w2 own2 xb v2 B2) (ht : To own own2 wr w2) (hle : (B2 ++ faultsS e.fs).length ≤ 1099511627776) => by
    have htw : To own own2 w w2 := (To.kept (HH.out.2.2.2.2.2.2.2.2.1.trans hkp)).trans ht
    have hsl := HH.out.2.2.2.1.faults.to htw (fun h0 => HV.out.2 (by unfold fsv at h0; rw [flatc_len _ 3 (fun _ => rfl)] at h0; omega))
    exact pfaults_any N0 e.fv e.fs hp (HH.out.2.1.on (htw.keep.below HH.out.2.1.le HH.out.2.2.1)) (fun g hg => by
     rcases Nat.lt_or_ge g w.heap.size with h | h
     ·refine HH.out.2.2.1 g fun e0 => hg (htw.old g h e0)
     ·exact Nat.le_trans HH.out.2.1.le h) hsl.1 (fun h0 => hsl.2 (by unfold fsv; rw [flatc_len _ 3 (fun _ => rfl)]; omega)) (fun f hf => HH.out.2.2.2.2.1.2.2 f hf) (by have := HH.out.2.2.2.2.2.2.2.1; omega) hle)
   rw [HV.out.1] at HG
   have hf2 := cell_kept hkp e2
   have HX := Lib.hid (And.intro hf2 (And.intro hqo (And.intro (lt_of_block (hkp.same HB0.out id)) hB)))
   have HKP := Lib.hid hkp
   clear hrow hkp HK hws hwl hbase hcap hwat hgl hgb hpr hgo hB hqo f1 f2 hf2
   go_wp2_with (first
    | (go_at_call 61; refine HPU.out.mono ?_; rintro e' w2 ⟨rfl, own2, v2, hp2, ht2⟩; have hc2 := (ht2.keep.cell (p := ⟨q, 2, none⟩) HX.out.2.2.1 (by rw [HX.out.2.1]; simp)).trans HX.out.1; have HF2 := Lib.hid (HG.out w2 _ own2 v2 hp2 ht2 HX.out.2.2.2); have HT2 := Lib.hid ht2; clear hp2 ht2)
    | (go_at_call 65; refine HF2.out.mono ?_; rintro e' w3 ⟨rfl, hpt⟩; have HP3 := Lib.hid hpt; clear hpt))
   go_end0
   obtain ⟨own3, v3, hp3, ht3⟩ := HP3.out
   refine ⟨rfl, own3, v3, ?_, ((To.kept (HH.out.2.2.2.2.2.2.2.2.1.trans HKP.out)).trans HT2.out).trans ht3⟩
   rw [HT.out, ← List.append_assoc]
   exact hp3

def txtS (u : Nat) : Str := (txt u).data.toList
theorem txtS_b (u : Nat) : strB (txtS u) = txt u := (str_of rfl).symm
def headS (p : Play) : Str := putL [[112, 108, 97, 121], decS p.disk, decS p.segMax, decS p.base, decS p.qcap, decS p.qbytes, decS p.pmost, decS p.pbytes, txtS p.linger, txtS p.alpha] ++ putL [[109, 111, 115, 116], decS p.most]
def taskS (l : List Call) : Str := putL [[116, 97, 115, 107]] ++ l.flatMap callT
def picksS (l : List Int) : Str := if l = [] then [] else putL ([112, 105, 99, 107, 115] :: l.map decS)
def fullS (p : Play) : Str := headS p ++ faultsS p.faults ++ p.tasks.flatMap taskS ++ picksS p.picks ++ p.ends.flatMap endT
structure PlayOk (p : Play) : Prop where
 disk : IsI p.disk
 segMax : IsI p.segMax
 base : IsI p.base
 qcap : IsI p.qcap
 qbytes : IsI p.qbytes
 pmost : IsI p.pmost
 pbytes : IsI p.pbytes
 linger : p.linger < 18446744073709551616
 alpha : p.alpha < 18446744073709551616
 most : IsI p.most
 faults : ∀ f ∈ p.faults, FaultOk f
 calls : ∀ l ∈ p.tasks, ∀ c ∈ l, IsI c.lsn
 picks : ∀ n ∈ p.picks, IsI n
 ends : ∀ r ∈ p.ends, EndOk r
theorem to_cell {w w' : World} {own own' : Nat → Option T} {q i : Nat} {u : Value} (t : To own own' w w') (hq : own q = none) (h : w.cell? ⟨q, i, none⟩ = some u) : w'.cell? ⟨q, i, none⟩ = some u :=
 (t.keep.cell (p := ⟨q, i, none⟩) (World.block_lt_of_cell? w _ h) (by rw [hq]; simp)).trans h
structure Pn (w0 w : World) (own : Nat → Option T) : Prop where
 keep : Keep (fun _ => False) w0 w
 low : ∀ g, own g ≠ none → w0.heap.size ≤ g
theorem Pn.to {w0 w w' : World} {own own' : Nat → Option T} (h : Pn w0 w own) (t : To own own' w w') : Pn w0 w' own' :=
 ⟨h.keep.own t.keep fun i hi => Or.inr (h.low i hi), fun g hg => by
  rcases Nat.lt_or_ge g w.heap.size with h1 | h1
  ·exact h.low g fun e => hg (t.old g h1 e)
  ·exact Nat.le_trans h.keep.size h1⟩
theorem Pn.kept {w0 w w' : World} {own : Nat → Option T} (h : Pn w0 w own) (k : Keep (fun _ => False) w w') : Pn w0 w' own := ⟨h.keep.trans k, h.low⟩
theorem Pn.free {w0 w : World} {own : Nat → Option T} (h : Pn w0 w own) {v : Value} {n : Nat} {xs : List Value} (hs : SlAt w0 v n xs) : 0 < xs.length → ∀ o cap n, v = .slice (some o) n cap → own o.block = none := by
 obtain ⟨o, cap, rfl, -, hc, -⟩ := hs
 intro hx o' cap' n' e
 cases e
 obtain ⟨g, f, e, -, hl⟩ := hc 0 hx
 cases e
 cases hq : own g with
 | none => rfl
 | some t => have := h.low g (by rw [hq]; simp); omega
structure St (w0 ws : World) (own0 : Nat → Option T) (q xb : Nat) (t : TypeId) (cs : Array Value) (W : World) (own : Nat → Option T) (v : Value) (B : Str) : Prop where
 pr : Pr W own xb v B
 pn : Pn w0 W own
 bk : W.heap[q]? = some (.cells cs t (0, 0))
 qo : own q = none
 tt : To own0 own ws W
theorem St.kept {w0 ws W W' : World} {own0 own : Nat → Option T} {q xb : Nat} {t : TypeId} {cs : Array Value} {v : Value} {B : Str} (h : St w0 ws own0 q xb t cs W own v B) (k : Keep (fun _ => False) W W') : St w0 ws own0 q xb t cs W' own v B :=
 ⟨h.pr.kept k, h.pn.kept k, k.same h.bk id, h.qo, h.tt.trans (To.kept k)⟩
theorem St.step {w0 ws W W' : World} {own0 own : Nat → Option T} {q xb : Nat} {t : TypeId} {cs : Array Value} {v : Value} {B B' : Str} (h : St w0 ws own0 q xb t cs W own v B) (p : Puts W own xb B' W') : ∃ own' v', St w0 ws own0 q xb t cs W' own' v' B' := by
 obtain ⟨own', v', hp, ht⟩ := p
 exact ⟨own', v', hp, h.pn.to ht, ht.keep.same h.bk (by rw [h.qo]; simp), ht.old q (lt_of_block h.bk) h.qo, h.tt.trans ht⟩
theorem St.cell {w0 ws W : World} {own0 own : Nat → Option T} {q xb : Nat} {t : TypeId} {cs : Array Value} {v : Value} {B : Str} (h : St w0 ws own0 q xb t cs W own v B) {i : Nat} {u : Value} (hu : cs[i]? = some u) : W.cell? ⟨q, i, none⟩ = some u := by
 rw [blk_cell h.bk i, hu]
def taskM (t : MT) : Str := putL [[116, 97, 115, 107]] ++ t.l.flatMap (fun c => callT c.c)
def endM (e : ME) : Str := endT e.reopen
theorem fullS_is (m : M) : fullS m.play = headS m.play ++ faultsS m.fs ++ m.ts.flatMap taskM ++ picksS m.ps ++ m.es.flatMap endM := by
 unfold fullS
 have e1 : m.play.tasks.flatMap taskS = m.ts.flatMap taskM := by
  show (m.ts.map (fun t => t.l.map (·.c))).flatMap taskS = _
  rw [List.flatMap_map]
  have : (fun a : MT => taskS (a.l.map (·.c))) = taskM := by
   funext t
   unfold taskS taskM
   rw [List.flatMap_map]
  rw [this]
 have e2 : m.play.ends.flatMap endT = m.es.flatMap endM := by
  show (m.es.map ME.reopen).flatMap endT = _
  rw [List.flatMap_map]
  rfl
 rw [e1, e2]
 rfl
theorem flat_split {α : Type} (f : α → Str) (l : List α) (k : Nat) (h : k < l.length) : l.flatMap f = (l.take k).flatMap f ++ (f l[k] ++ (l.drop (k + 1)).flatMap f) := by
 rw [← List.flatMap_cons, ← List.drop_eq_getElem_cons h, ← List.flatMap_append, List.take_append_drop]
theorem flat_next {α : Type} (f : α → Str) (l : List α) (k : Nat) (h : k < l.length) : (l.take (k + 1)).flatMap f = (l.take k).flatMap f ++ f l[k] := by
 have : l.take (k + 1) = l.take k ++ [l[k]] := by rw [List.take_add_one, List.getElem?_eq_getElem h]; rfl
 rw [this, List.flatMap_append]
 simp only [List.flatMap_cons, List.flatMap_nil, List.append_nil]
end Sc
end Go.Proofs.YtkkecpamnnojoaaGreatDoor
namespace Go.Proofs.YtkkecpamnnojoaaGreatDoor
open Go.ChangeShapes Go.WideShapes Go.ChangeAt Go.RowKit Go.Shelf
open Bt Dc By
set_option linter.unusedVariables false
set_option linter.unusedSimpArgs false
namespace Sc

theorem off_add (a m i : Nat) (h : m ≤ i) : a + m + (i - m) = a + i := by omega
theorem bulk_one {H : Type} (d : DataW H) : 1 ≤ Rows.uptoBulk d := by
 cases d with
 | lit l => cases l <;> simp [Rows.uptoBulk]
 | nil => simp [Rows.uptoBulk]
 | ptr d => simp [Rows.uptoBulk]
 | slice elems spare => simp [Rows.uptoBulk]
 | agg parts => simp [Rows.uptoBulk]
 | iface t d => simp [Rows.uptoBulk]
 | map entries => simp [Rows.uptoBulk]
 | held h => simp [Rows.uptoBulk]
theorem bulk_app {H : Type} (a b : List (DataW H)) : Rows.uptoBulkAll (a ++ b) = Rows.uptoBulkAll a + Rows.uptoBulkAll b := by
 induction a with
 | nil => simp [Rows.uptoBulkAll]
 | cons x a ih => simp only [List.cons_append, Rows.uptoBulkAll, ih]; omega
section
variable {H : Type} {enc : TypeId × Value → H} {w : World} {base : Nat} {spare : Nat → Bool} {held : Bool}

theorem open_slm {α : Type} (cl : α → List Value) (μ : α → Nat) (Q : α → Prop) (k : Nat) (hk : ∀ x, (cl x).length = k) (hk0 : 0 < k) {t e : TypeId} {fuel : Nat} {cs : List Value} {x : DataW H × List MemPlace} (ht : Tryz.prog.underlying t = some (.slice e)) (hC : Tryz.prog.cellsOf e = k)
  (hel : ∀ n cs' y, cs'.length = k → DataW.trod enc Tryz.prog w base spare held n e cs' = some y → ∃ z, cs' = cl z ∧ Q z ∧ μ z ≤ Rows.uptoBulk y.1) (h : DataW.trod enc Tryz.prog w base spare held fuel t cs = some x) :
  ∃ (zs : List α) (v : Value), cs = [v] ∧ SlAt w v zs.length (zs.flatMap cl) ∧ (∀ z ∈ zs, Q z) ∧ (zs.map μ).sum + 1 ≤ Rows.uptoBulk x.1 ∧ zs.length ≤ maxLen := by
 rcases Go.Deep.open_slice ht h with ⟨rfl, rfl⟩ | ⟨a, len, cap, m, n, D, Pl, rfl, hb, hl, hm, hmm, rfl, hi⟩
 ·exact ⟨[], _, rfl, ⟨none, 0, rfl, Nat.le_refl _, fun i hi => by simp at hi, fun _ => rfl⟩, fun z hz => by simp at hz, by simp [Rows.uptoBulk], Nat.zero_le _⟩
 ·have hlm : len ≤ m := by subst hmm; split <;> omega
  rw [hC] at hi
  have hspot : 0 < len → a.spot = none := by
   intro h0
   obtain ⟨cs0, hc0, -⟩ := hi 0 (by omega)
   obtain ⟨_, hcl0, hat0⟩ := World.cells?_some hc0
   have hx0 := hat0 0 (by omega)
   cases hsp : a.spot with
   | none => rfl
   | some s =>
    exfalso
    have : cs0[0]? = some (cs0[0]'(by omega)) := List.getElem?_eq_getElem _
    rw [this] at hx0
    simp [Addr.add, World.cell?, hsp] at hx0
    split at hx0 <;> simp at hx0
  have key : ∀ j, j ≤ len → ∃ zs : List α, zs.length = j ∧ (∀ z ∈ zs, Q z) ∧ (zs.map μ).sum ≤ Rows.uptoBulkAll ((List.range j).map D) ∧ ∀ i u, (zs.flatMap cl)[i]? = some u → w.cell? (a.add i) = some u := by
   intro j
   induction j with
   | zero => exact fun _ => ⟨[], rfl, fun z hz => by simp at hz, by simp, fun i u h => by simp at h⟩
   | succ j ih =>
    intro hj
    obtain ⟨zs, h1, h2, h3, h4⟩ := ih (by omega)
    obtain ⟨cs', hc, ht'⟩ := hi j (by omega)
    obtain ⟨_, hcl, hat⟩ := World.cells?_some hc
    obtain ⟨z, rfl, hq, hmu⟩ := hel _ _ _ hcl ht'
    refine ⟨zs ++ [z], by simp [h1], fun y hy => ?_, ?_, fun i u hu => ?_⟩
    ·rcases List.mem_append.1 hy with hy | hy
     ·exact h2 y hy
     ·obtain rfl : y = z := by simpa using hy
      exact hq
    ·rw [List.range_succ, List.map_append, List.map_append, bulk_app, List.sum_append]
     have hmu2 : μ z ≤ Rows.uptoBulk (D j) := hmu
     simp [Rows.uptoBulkAll]
     omega
    ·have hfl : (zs.flatMap cl).length = j * k := by rw [flatc_len cl k hk, h1, Nat.mul_comm]
     rw [List.flatMap_append] at hu
     rcases Nat.lt_or_ge i (j * k) with hlt | hge
     ·rw [List.getElem?_append_left (by rw [hfl]; exact hlt)] at hu
      exact h4 i u hu
     ·rw [List.getElem?_append_right (by rw [hfl]; exact hge), hfl] at hu
      have hu' : (cl z)[i - j * k]? = some u := by simpa using hu
      have hlt := (List.getElem?_eq_some_iff.1 hu').1
      rw [hk] at hlt
      have := hat (i - j * k) hlt
      rw [hu'] at this
      rw [← this]
      have hsp := hspot (by omega)
      have e : (a.add (j * k)).add (i - j * k) = a.add i := by
       obtain ⟨ab, ao, sp⟩ := a
       simp only at hsp
       subst hsp
       rw [addr_add, addr_add, addr_add, off_add _ _ _ hge]
      rw [e]
  obtain ⟨zs, h1, h2, h3, h4⟩ := key len (Nat.le_refl _)
  refine ⟨zs, _, rfl, ⟨some a, cap, by rw [h1], by rw [h1]; exact hl, fun i hi' => ?_, fun e => nomatch e⟩, h2, ?_, by rw [h1]; exact Nat.le_trans hl hm⟩
  ·have hz0 : 0 < len := by
    rcases Nat.eq_zero_or_pos len with h0 | h0
    ·rw [h0] at h1
     rw [List.length_eq_zero_iff.1 h1] at hi'
     simp at hi'
    ·exact h0
   obtain ⟨ab, ao, sp⟩ := a
   obtain rfl : sp = none := hspot hz0
   have hc := h4 i _ (List.getElem?_eq_getElem hi')
   rw [addr_add] at hc
   exact ⟨ab, ao, rfl, by rw [hc, List.getElem?_eq_getElem hi'], World.block_lt_of_cell? w _ hc⟩
  ·simp only [Rows.uptoBulk]
   omega
end
end Sc
end Go.Proofs.YtkkecpamnnojoaaGreatDoor
namespace Go.Proofs.YtkkecpamnnojoaaGreatDoor
open Go.ChangeShapes Go.WideShapes Go.ChangeAt Go.RowKit Go.Shelf
open Bt Dc By
set_option linter.unusedVariables false
namespace Sc

theorem fsv_len (l : List Fault) : (fsv l).length = 3 * l.length := flatc_len _ 3 (fun _ => rfl) l
theorem text_s (u N0 : Nat) (W : World) (hE : Ev N0 W) (hu : u < 18446744073709551616) : Calls Tryz.prog 64 #[.float .f64 u] W fun e w' => e = .returned (.string (strB (txtS u))) ∧ Keep (fun _ => False) W w' :=
 (hE.text u hu).mono fun e w' h => ⟨by rw [txtS_b]; exact h.1, keep_of_below h.2⟩
theorem pf_any {w0 ws W : World} {own0 own : Nat → Option T} {q xb n c : Nat} {o : Option Addr} {t : TypeId} {cs : Array Value} {v : Value} {B : Str} (N0 : Nat) {m : M} (hn : m.fs.length = n) (hv : m.fv = .slice o n c) (h : St w0 ws own0 q xb t cs W own v B) (hE : Ev N0 w0) (hs : Seen w0 m) (hok : PlayOk m.play) (hc : m.fs.length ≤ 64) (hb : (B ++ faultsS m.fs).length ≤ 1099511627776) :
  Calls Tryz.prog 65 #[.pointer (some ⟨xb, 0, none⟩), .slice o n c] W fun e w' => e = .returned (.tuple #[]) ∧ Puts W own xb (B ++ faultsS m.fs) w' := by
 have hz := fsv_len m.fs
 rw [← hv]
 exact pfaults_any N0 m.fv m.fs h.pr (hE.kept h.pn.keep.none) (fun g hg => Nat.le_trans hE.le (h.pn.low g hg)) (hs.fs.kept h.pn.keep) (fun h0 => h.pn.free hs.fs (by omega)) hok.faults (by omega) hb
def AllR (own : Nat → Option T) (xb : Nat) (p : Play) (w : World) (e : Ending) (w' : World) : Prop :=
 e = .returned (.tuple #[]) ∧ ∃ B', Puts w own xb B' w' ∧ (B' = fullS p ∨ (65536 < B'.length ∧ 65536 < (fullS p).length))
set_option maxRecDepth 100000 in
set_option maxHeartbeats 32000000 in
theorem all_any {w0 w : World} {own : Nat → Option T} {xb : Nat} {v : Value} (N0 : Nat) (m : M) (hp : Pr w own xb v []) (hn : Pn w0 w own) (hE : Ev N0 w0) (hok : PlayOk m.play) (hs : Seen w0 m)
  (hc : m.fs.length ≤ 64 ∧ m.ts.length ≤ 16 ∧ (∀ t ∈ m.ts, t.l.length ≤ 256) ∧ m.ps.length ≤ 65536 ∧ m.es.length ≤ 16 ∧ ∀ e ∈ m.es, e.fs.length ≤ 64 ∧ e.ks.length ≤ 256)
  (hdat : (∀ t ∈ m.ts, ∀ c ∈ t.l, c.c.data.length ≤ 1073741824) ∧ ∀ e ∈ m.es, ∀ k ∈ e.ks, k.k.junk.length ≤ 1073741824) (hb : (fullS m.play).length ≤ 1099511627776) :
  Calls Tryz.prog 30 #[.pointer (some ⟨xb, 0, none⟩), .agg m.val] w (AllR own xb m.play w) := by
 obtain ⟨o1, c1, hv1⟩ := hs.fs.val
 obtain ⟨o2, c2, hv2⟩ := hs.ts.val
 obtain ⟨o3, c3, hv3⟩ := hs.ps.val
 obtain ⟨o4, c4, hv4⟩ := hs.es.val
 obtain ⟨n1, hn1⟩ : ∃ n, m.fs.length = n := ⟨_, rfl⟩
 obtain ⟨n2, hn2⟩ : ∃ n, m.ts.length = n := ⟨_, rfl⟩
 obtain ⟨n3, hn3⟩ : ∃ n, m.ps.length = n := ⟨_, rfl⟩
 obtain ⟨n4, hn4⟩ : ∃ n, m.es.length = n := ⟨_, rfl⟩
 rw [hn1] at hv1
 rw [hn2] at hv2
 rw [hn3] at hv3
 rw [hn4] at hv4
 have ix0 := hok.disk
 have ix1 := hok.segMax
 have ix2 := hok.base
 have ix3 := hok.qcap
 have ix4 := hok.qbytes
 have ix5 := hok.pmost
 have ix6 := hok.pbytes
 have ix7 := hok.linger
 have ix8 := hok.alpha
 have ix9 := hok.most
 simp only [M.play] at ix0 ix1 ix2 ix3 ix4 ix5 ix6 ix7 ix8 ix9
 have HHead := Lib.hid (show headS m.play = putL [[112, 108, 97, 121], decS m.disk, decS m.segMax, decS m.base, decS m.qcap, decS m.qbytes, decS m.pmost, decS m.pbytes, txtS m.linger, txtS m.alpha] ++ putL [[109, 111, 115, 116], decS m.most] from rfl)
 unfold M.val
 rw [hv1, hv2, hv3, hv4]
 have HC := Lib.hid (And.intro hn1 (And.intro hn2 (And.intro hn3 (And.intro hn4 (And.intro hv1 (And.intro hv2 (And.intro hv3 hv4)))))))
 generalize m.disk = x0 at *
 generalize m.segMax = x1 at *
 generalize m.base = x2 at *
 generalize m.qcap = x3 at *
 generalize m.qbytes = x4 at *
 generalize m.pmost = x5 at *
 generalize m.pbytes = x6 at *
 generalize m.linger = x7 at *
 generalize m.alpha = x8 at *
 generalize m.most = x9 at *
 obtain ⟨q, hq⟩ : ∃ q, w.heap.size = q := ⟨_, rfl⟩
 obtain ⟨W1, hW1⟩ : ∃ W1, w.alloc (.cells #[.int .i64 x0, .int .i64 x1, .int .i64 x2, .int .i64 x3, .int .i64 x4, .int .i64 x5, .int .i64 x6, .float .f64 x7, .float .f64 x8, .slice o1 n1 c1, .slice o2 n2 c2, .slice o3 n3 c3, .int .i64 x9, .slice o4 n4 c4] 40) = W1 := ⟨_, rfl⟩
 have b1 : W1.heap[q]? = some (.cells #[.int .i64 x0, .int .i64 x1, .int .i64 x2, .int .i64 x3, .int .i64 x4, .int .i64 x5, .int .i64 x6, .float .f64 x7, .float .f64 x8, .slice o1 n1 c1, .slice o2 n2 c2, .slice o3 n3 c3, .int .i64 x9, .slice o4 n4 c4] 40 (0, 0)) := by rw [← hW1, ← hq]; exact blk_new _ _
 have k1 : Keep (fun _ => False) w W1 := by rw [← hW1]; exact (Keep.refl _ w).alloc _
 have hz1 : W1.heap.size = q + 1 := by rw [← hW1, ← hq]; simp
 obtain ⟨W0, hW0⟩ : ∃ W0, W1.alloc (.cells #[.int .i64 x1, .int .i64 x2, .int .i64 x3, .int .i64 x4, .int .i64 x5, .int .i64 x6, .float .f64 x7, .float .f64 x8] 34) = W0 := ⟨_, rfl⟩
 have b0 : W0.heap[q + 1]? = some (.cells #[.int .i64 x1, .int .i64 x2, .int .i64 x3, .int .i64 x4, .int .i64 x5, .int .i64 x6, .float .f64 x7, .float .f64 x8] 34 (0, 0)) := by rw [← hW0, ← hz1]; exact blk_new _ _
 have k01 : Keep (fun _ => False) W1 W0 := by rw [← hW0]; exact (Keep.refl _ W1).alloc _
 have k0 := k1.trans k01
 have HH := Lib.hid (And.intro hp (And.intro hn (And.intro hE (And.intro hok (And.intro hs (And.intro hc (And.intro hdat (And.intro hb k0))))))))
 have HP := Lib.hid (hp.kept k0)
 have HN := Lib.hid (hn.kept k0)
 have HE0 := Lib.hid (hE.kept (hn.kept k0).keep.none)
 have HQ := Lib.hid (And.intro (hp.past (Nat.le_of_eq hq)) (And.intro (hp.past (show w.heap.size ≤ q + 1 by omega)) (And.intro (k01.same b1 id) b0)))
 have g1 : W1.cell? ⟨q, 1, none⟩ = some (.int .i64 x1) := blk_cell b1 1
 have g2 : W1.cell? ⟨q, 2, none⟩ = some (.int .i64 x2) := blk_cell b1 2
 have g3 : W1.cell? ⟨q, 3, none⟩ = some (.int .i64 x3) := blk_cell b1 3
 have g4 : W1.cell? ⟨q, 4, none⟩ = some (.int .i64 x4) := blk_cell b1 4
 have g5 : W1.cell? ⟨q, 5, none⟩ = some (.int .i64 x5) := blk_cell b1 5
 have g6 : W1.cell? ⟨q, 6, none⟩ = some (.int .i64 x6) := blk_cell b1 6
 have g7 : W1.cell? ⟨q, 7, none⟩ = some (.float .f64 x7) := blk_cell b1 7
 have g8 : W1.cell? ⟨q, 8, none⟩ = some (.float .f64 x8) := blk_cell b1 8
 have e0 : W0.cell? ⟨q, 0, none⟩ = some (.int .i64 x0) := blk_cell HQ.out.2.2.1 0
 have y0 : W0.cell? ⟨q + 1, 0, none⟩ = some (.int .i64 x1) := blk_cell b0 0
 have y1 : W0.cell? ⟨q + 1, 1, none⟩ = some (.int .i64 x2) := blk_cell b0 1
 have y2 : W0.cell? ⟨q + 1, 2, none⟩ = some (.int .i64 x3) := blk_cell b0 2
 have y3 : W0.cell? ⟨q + 1, 3, none⟩ = some (.int .i64 x4) := blk_cell b0 3
 have y4 : W0.cell? ⟨q + 1, 4, none⟩ = some (.int .i64 x5) := blk_cell b0 4
 have y5 : W0.cell? ⟨q + 1, 5, none⟩ = some (.int .i64 x6) := blk_cell b0 5
 have y6 : W0.cell? ⟨q + 1, 6, none⟩ = some (.float .f64 x7) := blk_cell b0 6
 have y7 : W0.cell? ⟨q + 1, 7, none⟩ = some (.float .f64 x8) := blk_cell b0 7
 clear hp hn hE hok hs hc hdat hb k0 k1 k01 b0 b1 hv1 hv2 hv3 hv4 hn1 hn2 hn3 hn4
 go_enter Tryz.func30, Tryz.ntmps30
 go_wp2_with fail
 have HNow := Lib.hid ((Keep.refl (fun _ => False) W0).drewN 1)
 clear hq hW1 hW0 hz1 g1 g2 g3 g4 g5 g6 g7 g8
 go_region_held3 (fun W' => W'.cell? ⟨q, 0, none⟩ = some (.int .i64 x0) ∧ W'.cell? ⟨q + 1, 0, none⟩ = some (.int .i64 x1) ∧ W'.cell? ⟨q + 1, 1, none⟩ = some (.int .i64 x2) ∧ W'.cell? ⟨q + 1, 2, none⟩ = some (.int .i64 x3) ∧ W'.cell? ⟨q + 1, 3, none⟩ = some (.int .i64 x4) ∧ W'.cell? ⟨q + 1, 4, none⟩ = some (.int .i64 x5) ∧ W'.cell? ⟨q + 1, 5, none⟩ = some (.int .i64 x6) ∧ W'.cell? ⟨q + 1, 6, none⟩ = some (.float .f64 x7) ∧ W'.cell? ⟨q + 1, 7, none⟩ = some (.float .f64 x8))
    (first
     | exact ⟨cell_kept HNow.out e0, cell_kept HNow.out y0, cell_kept HNow.out y1, cell_kept HNow.out y2, cell_kept HNow.out y3, cell_kept HNow.out y4, cell_kept HNow.out y5, cell_kept HNow.out y6, cell_kept HNow.out y7⟩
     | exact ⟨cell_kept (HNow.out.alloc _) e0, cell_kept (HNow.out.alloc _) y0, cell_kept (HNow.out.alloc _) y1, cell_kept (HNow.out.alloc _) y2, cell_kept (HNow.out.alloc _) y3, cell_kept (HNow.out.alloc _) y4, cell_kept (HNow.out.alloc _) y5, cell_kept (HNow.out.alloc _) y6, cell_kept (HNow.out.alloc _) y7⟩
     | exact ⟨to_cell HT2.out HQ.out.1 (cell_kept HNowA.out e0), to_cell HT2.out HQ.out.2.1 (cell_kept HNowA.out y0), to_cell HT2.out HQ.out.2.1 (cell_kept HNowA.out y1), to_cell HT2.out HQ.out.2.1 (cell_kept HNowA.out y2), to_cell HT2.out HQ.out.2.1 (cell_kept HNowA.out y3), to_cell HT2.out HQ.out.2.1 (cell_kept HNowA.out y4), to_cell HT2.out HQ.out.2.1 (cell_kept HNowA.out y5), to_cell HT2.out HQ.out.2.1 (cell_kept HNowA.out y6), to_cell HT2.out HQ.out.2.1 (cell_kept HNowA.out y7)⟩)
    (first
     | (go_at_call 62; refine (dec_any _ N0 _ (HE0.out.kept HNow.out.none) (by assumption)).mono ?_; rintro e w' ⟨rfl, kx⟩; have HNow := Lib.hid (HNow.out.trans kx); clear kx)
     | (go_at_call 63; refine (dec64_any _ N0 _ (HE0.out.kept HNow.out.none) (by assumption)).mono ?_; rintro e w' ⟨rfl, kx⟩; have HNow := Lib.hid (HNow.out.trans kx); clear kx)
     | (go_at_call 64; refine (text_s _ N0 _ (HE0.out.kept HNow.out.none) (by assumption)).mono ?_; rintro e w' ⟨rfl, kx⟩; have HNow := Lib.hid (HNow.out.trans kx); clear kx)
     | (go_at_call 61; refine (put_any _ 0 10 [[112, 108, 97, 121], decS x0, decS x1, decS x2, decS x3, decS x4, decS x5, decS x6, txtS x7, txtS x8] (HP.out.kept (HNow.out.alloc _)) (ws_new _ [[112, 108, 97, 121], decS x0, decS x1, decS x2, decS x3, decS x4, decS x5, decS x6, txtS x7, txtS x8]) (HP.out.past HNow.out.size) (Nat.le_refl _) (by simp) (by have := HH.out.2.2.2.2.2.2.2.1; unfold fullS at this; rw [HHead.out] at this; simp only [List.length_append] at this; simp only [List.nil_append]; omega)).mono ?_; rintro e w2 ⟨rfl, own2, v2, hp2, ht2⟩; have HNowA := Lib.hid (HNow.out.alloc (.cells ([[112, 108, 97, 121], decS x0, decS x1, decS x2, decS x3, decS x4, decS x5, decS x6, txtS x7, txtS x8].map encS).toArray 9)); have HP2 := Lib.hid hp2; have HT2 := Lib.hid ht2; clear hp2 ht2))
 have hs2 : St w0 w own q xb 40 #[.int .i64 x0, .int .i64 x1, .int .i64 x2, .int .i64 x3, .int .i64 x4, .int .i64 x5, .int .i64 x6, .float .f64 x7, .float .f64 x8, .slice o1 n1 c1, .slice o2 n2 c2, .slice o3 n3 c3, .int .i64 x9, .slice o4 n4 c4] w2 own2 v2 ([] ++ putL [[112, 108, 97, 121], decS x0, decS x1, decS x2, decS x3, decS x4, decS x5, decS x6, txtS x7, txtS x8]) :=
  ⟨HP2.out, (HN.out.kept HNowA.out).to HT2.out, HT2.out.keep.same (HNowA.out.same HQ.out.2.2.1 id) (by rw [HQ.out.1]; simp), HT2.out.old q (lt_of_block (HNowA.out.same HQ.out.2.2.1 id)) HQ.out.1, (To.kept (HH.out.2.2.2.2.2.2.2.2.trans HNowA.out)).trans HT2.out⟩
 rw [List.nil_append] at hs2
 have HS := Lib.hid hs2
 clear hs2 HP2 HT2 HNowA HNow e0 y0 y1 y2 y3 y4 y5 y6 y7 HP HN HE0
 have k9 := HS.out.cell (i := 9) (u := .slice o1 n1 c1) rfl
 have k10 := HS.out.cell (i := 10) (u := .slice o2 n2 c2) rfl
 have k11 := HS.out.cell (i := 11) (u := .slice o3 n3 c3) rfl
 have k12 := HS.out.cell (i := 12) (u := .int .i64 x9) rfl
 have k13 := HS.out.cell (i := 13) (u := .slice o4 n4 c4) rfl
 obtain ⟨p1, hp1⟩ : ∃ p, putL [[112, 108, 97, 121], decS x0, decS x1, decS x2, decS x3, decS x4, decS x5, decS x6, txtS x7, txtS x8] = p := ⟨_, rfl⟩
 rw [hp1] at HS HHead
 have HFU := Lib.hid (show fullS m.play = p1 ++ putL [[109, 111, 115, 116], decS x9] ++ faultsS m.fs ++ m.ts.flatMap taskM ++ picksS m.ps ++ m.es.flatMap endM from by rw [fullS_is, HHead.out])
 have HBD := Lib.hid (show (p1 ++ putL [[109, 111, 115, 116], decS x9] ++ faultsS m.fs ++ m.ts.flatMap taskM ++ picksS m.ps ++ m.es.flatMap endM).length ≤ 1099511627776 from by rw [← HFU.out]; exact HH.out.2.2.2.2.2.2.2.1)
 have HEV := Lib.hid HH.out.2.2.1
 have hcb := HH.out.2.2.2.2.2.1
 rw [HC.out.1, HC.out.2.1, HC.out.2.2.1, HC.out.2.2.2.1] at hcb
 have hb1 := hcb.1
 have hb2 := hcb.2.1
 have hb3 := hcb.2.2.2.1
 have hb4 := hcb.2.2.2.2.1
 clear hp1 ix0 ix1 ix2 ix3 ix4 ix5 ix6 ix7 ix8 HHead HQ hcb
 go_wp2_with (first
  | (go_at_call 62; refine (dec_any _ N0 _ (HEV.out.kept HS.out.pn.keep.none) (by assumption)).mono ?_; rintro e w' ⟨rfl, kx⟩; have HLT := Lib.hid (show own2 w'.heap.size = none from (HS.out.kept kx).pr.past (Nat.le_refl _)); have HS := Lib.hid ((HS.out.kept kx).kept ((Keep.refl _ w').alloc (.cells ([[109, 111, 115, 116], decS x9].map encS).toArray 9))); clear kx)
  | (go_at_call 61; refine (put_any _ 0 2 [[109, 111, 115, 116], decS x9] HS.out.pr (ws_new _ [[109, 111, 115, 116], decS x9]) HLT.out (Nat.le_refl _) (by simp) (by have := HBD.out; simp only [List.length_append] at this ⊢; omega)).mono ?_; rintro e w3 ⟨rfl, hpt⟩; obtain ⟨own3, v3, hs3⟩ := HS.out.step hpt; have HS := Lib.hid hs3; clear hpt hs3; have k9 := HS.out.cell (i := 9) (u := .slice o1 n1 c1) rfl; have k10 := HS.out.cell (i := 10) (u := .slice o2 n2 c2) rfl; have k11 := HS.out.cell (i := 11) (u := .slice o3 n3 c3) rfl; have k12 := HS.out.cell (i := 12) (u := .int .i64 x9) rfl; have k13 := HS.out.cell (i := 13) (u := .slice o4 n4 c4) rfl)
  | (go_at_call 65; refine (pf_any N0 HC.out.1 HC.out.2.2.2.2.1 HS.out HEV.out HH.out.2.2.2.2.1 HH.out.2.2.2.1 HH.out.2.2.2.2.2.1.1 (by have := HBD.out; simp only [List.length_append] at this ⊢; omega)).mono ?_; rintro e w4 ⟨rfl, hpt⟩; obtain ⟨own4, v4, hs4⟩ := HS.out.step hpt; have HS := Lib.hid hs4; clear hpt hs4; have k9 := HS.out.cell (i := 9) (u := .slice o1 n1 c1) rfl; have k10 := HS.out.cell (i := 10) (u := .slice o2 n2 c2) rfl; have k11 := HS.out.cell (i := 11) (u := .slice o3 n3 c3) rfl; have k12 := HS.out.cell (i := 12) (u := .int .i64 x9) rfl; have k13 := HS.out.cell (i := 13) (u := .slice o4 n4 c4) rfl))
 obtain ⟨A0, hA0⟩ : ∃ A, p1 ++ putL [[109, 111, 115, 116], decS x9] ++ faultsS m.fs = A := ⟨_, rfl⟩
 rw [hA0] at HS HFU HBD
 clear hA0 k9 k10 k11 k12 k13
 generalize w4 = wA at *
 go_loopg [6, 8, 65] n2 (fun gq s6 s8 s65 wr => ∃ k : Nat, gq + k = n2 ∧ s65 = .int .i64 (k : Int) ∧ Hid (∃ own' v', St w0 w own q xb 40 #[.int .i64 x0, .int .i64 x1, .int .i64 x2, .int .i64 x3, .int .i64 x4, .int .i64 x5, .int .i64 x6, .float .f64 x7, .float .f64 x8, .slice o1 n1 c1, .slice o2 n2 c2, .slice o3 n3 c3, .int .i64 x9, .slice o4 n4 c4] wr own' v' (A0 ++ (m.ts.take k).flatMap taskM)))
 case atStart => exact ⟨0, by omega, rfl, own4, v4, by simpa using HS.out⟩
 case round =>
  obtain ⟨k, hgk, rfl, own5, v5, hst⟩ := hrel
  obtain ⟨G, hG⟩ : ∃ G, gk = G := ⟨_, rfl⟩
  rw [hG] at hgk
  have HGG := Lib.hid hG
  clear hG
  by_cases hk : k < n2
  ·have hkI : (k : Int) < (n2 : Int) := by omega
   have hk0 : (0 : Int) ≤ (k : Int) := by omega
   have hkl : k < m.ts.length := by rw [HC.out.2.1]; exact hk
   obtain ⟨o', c', e', -, hcs, -⟩ := HH.out.2.2.2.2.1.ts
   rw [HC.out.2.2.2.2.2.1, HC.out.2.1] at e'
   cases e'
   obtain ⟨g, f, rfl, hc, hl⟩ := hcs k (by simpa using hkl)
   have ht := HH.out.2.2.2.2.1.calls _ (List.getElem_mem hkl)
   obtain ⟨o5, c5, hv5, -, hcs5, -⟩ := ht.row
   obtain ⟨n5, hn5⟩ : ∃ n, (m.ts[k]).l.length = n := ⟨_, rfl⟩
   have hb5 : n5 ≤ 256 := by rw [← hn5]; exact HH.out.2.2.2.2.2.1.2.2.1 _ (List.getElem_mem hkl)
   have cg : wr.cell? ⟨g, f + k, none⟩ = some (.slice o5 n5 c5) := by
    rw [(hst.pn.keep.cell (p := ⟨g, f + k, none⟩) hl id).trans hc, List.getElem?_map, List.getElem?_eq_getElem hkl, ← hn5, ← hv5]
    rfl
   have hdl := HH.out.2.2.2.2.2.2.1.1 _ (List.getElem_mem hkl)
   have hlo : ∀ c ∈ (m.ts[k]).l, IsI c.c.lsn := fun c hc => HH.out.2.2.2.1.calls _ (List.mem_map.2 ⟨_, List.getElem_mem hkl, rfl⟩) _ (List.mem_map.2 ⟨_, hc, rfl⟩)
   obtain ⟨B, hB⟩ : ∃ B, A0 ++ (m.ts.take k).flatMap taskM = B := ⟨_, rfl⟩
   obtain ⟨R, hR⟩ : ∃ R, (m.ts.drop (k + 1)).flatMap taskM ++ picksS m.ps ++ m.es.flatMap endM = R := ⟨_, rfl⟩
   obtain ⟨tl, htl⟩ : ∃ tl, (m.ts[k]).l = tl := ⟨_, rfl⟩
   have hFK : fullS m.play = B ++ (putL [[116, 97, 115, 107]] ++ tl.flatMap (fun c => callT c.c)) ++ R := by
    rw [HFU.out, flat_split taskM m.ts k hkl, ← hB, ← hR]
    unfold taskM
    rw [htl]
    simp only [List.append_assoc]
   have hNX : A0 ++ (m.ts.take (k + 1)).flatMap taskM = B ++ (putL [[116, 97, 115, 107]] ++ tl.flatMap (fun c => callT c.c)) := by
    rw [flat_next taskM m.ts k hkl, ← hB, ← List.append_assoc]
    unfold taskM
    rw [htl]
   rw [htl] at hn5 hcs5 hdl hlo
   have hda := ht.data
   rw [htl] at hda
   rw [hB] at hst
   have HT := Lib.hid (And.intro hcs5 (And.intro hn5 (And.intro hda (And.intro hdl (And.intro hlo (And.intro hFK hNX))))))
   have hlen := HBD.out
   rw [← HFU.out, hFK] at hlen
   simp only [List.length_append] at hlen
   have HS := Lib.hid hst
   have HLEN := Lib.hid hlen
   clear hc hcs ht hv5 hkl hn5 hB hR htl hcs5 hdl hlo hFK hNX hda hst hlen
   go_wp2_with (first
    | (go_at_call 61; refine (put_any _ 0 1 [[116, 97, 115, 107]] (HS.out.kept ((Keep.refl _ wr).alloc (.cells ([[116, 97, 115, 107]].map encS).toArray 9))).pr (ws_new _ [[116, 97, 115, 107]]) (HS.out.pr.past (Nat.le_refl _)) (Nat.le_refl _) (by simp) (by have := HLEN.out; simp only [List.length_append]; omega)).mono ?_; rintro e w3 ⟨rfl, hpt⟩; obtain ⟨own6, v6, hs3⟩ := (HS.out.kept ((Keep.refl _ wr).alloc (.cells ([[116, 97, 115, 107]].map encS).toArray 9))).step hpt; have HS := Lib.hid hs3; clear hpt hs3))
   go_loopg [8, 74] n5 (fun gq s8 s74 wr => ∃ j : Nat, gq + j = n5 ∧ s74 = .int .i64 (j : Int) ∧ Hid (∃ own' v', St w0 w own q xb 40 #[.int .i64 x0, .int .i64 x1, .int .i64 x2, .int .i64 x3, .int .i64 x4, .int .i64 x5, .int .i64 x6, .float .f64 x7, .float .f64 x8, .slice o1 n1 c1, .slice (some ⟨g, f, none⟩) n2 c2, .slice o3 n3 c3, .int .i64 x9, .slice o4 n4 c4] wr own' v' (B ++ (putL [[116, 97, 115, 107]] ++ (tl.take j).flatMap (fun c => callT c.c)))))
   case atStart => exact ⟨0, by omega, rfl, own6, v6, by simpa using HS.out⟩
   case round =>
    obtain ⟨j, hgj, rfl, own7, v7, hst⟩ := hrel
    by_cases hj : j < n5
    ·have hjI : (j : Int) < (n5 : Int) := by omega
     have hj0 : (0 : Int) ≤ (j : Int) := by omega
     have hjl : j < tl.length := by rw [HT.out.2.1]; exact hj
     obtain ⟨g2, f2, rfl, hgl⟩ := HT.out.1.some (by rw [flatc_len _ 3 (fun _ => rfl)]; omega)
     have hcs2 := HT.out.1.kept hst.pn.keep
     have d0 := hcs2.get 3 (fun _ => rfl) (List.getElem?_eq_getElem hjl) 0 (by omega)
     have d1 := hcs2.get 3 (fun _ => rfl) (List.getElem?_eq_getElem hjl) 1 (by omega)
     have d2 := hcs2.get 3 (fun _ => rfl) (List.getElem?_eq_getElem hjl) 2 (by omega)
     unfold MC.cells at d0 d1 d2
     simp at d0 d1 d2
     have hdd := HT.out.2.2.1 _ (List.getElem_mem hjl)
     have hdn := HT.out.2.2.2.1 _ (List.getElem_mem hjl)
     have hdo := HT.out.2.2.2.2.1 _ (List.getElem_mem hjl)
     have hsp := flat_split (fun c : MC => callT c.c) tl j hjl
     have hnx := flat_next (fun c : MC => callT c.c) tl j hjl
     obtain ⟨X, hX⟩ : ∃ X, B ++ (putL [[116, 97, 115, 107]] ++ (tl.take j).flatMap (fun c => callT c.c)) = X := ⟨_, rfl⟩
     obtain ⟨c, hcc⟩ : ∃ c, tl[j] = c := ⟨_, rfl⟩
     rw [hcc] at d0 d1 d2 hdd hdn hdo hsp hnx
     have hXN : B ++ (putL [[116, 97, 115, 107]] ++ (tl.take (j + 1)).flatMap (fun c => callT c.c)) = X ++ callT c.c := by rw [hnx, ← hX]; simp only [List.append_assoc]
     have hXL : (X ++ callT c.c).length ≤ 1099511627776 ∧ X.length ≤ (fullS m.play).length := by
      have h1 := HLEN.out
      rw [HT.out.2.2.2.2.2.1, ← hX]
      rw [hsp] at h1 ⊢
      simp only [List.length_append] at h1 ⊢
      omega
     rw [hX] at hst
     obtain ⟨oD, cD, hvD⟩ := hdd.val
     obtain ⟨nD, hnD⟩ : ∃ n, c.c.data.length = n := ⟨_, rfl⟩
     have hpc := fun (W : World) (hS : St w0 w own q xb 40 #[.int .i64 x0, .int .i64 x1, .int .i64 x2, .int .i64 x3, .int .i64 x4, .int .i64 x5, .int .i64 x6, .float .f64 x7, .float .f64 x8, .slice o1 n1 c1, .slice (some ⟨g, f, none⟩) n2 c2, .slice o3 n3 c3, .int .i64 x9, .slice o4 n4 c4] W own7 v7 X) => pcall_any N0 c hS.pr (HEV.out.kept hS.pn.keep.none) (fun g hg => Nat.le_trans HEV.out.le (hS.pn.low g hg)) (hdd.kept hS.pn.keep) hdo hdn hXL.1
     rw [hvD, hnD] at hpc
     rw [hvD, hnD] at d2
     obtain ⟨ck, hck⟩ : ∃ ck, c.c.kind = ck := ⟨_, rfl⟩
     obtain ⟨cl, hcl⟩ : ∃ cl, c.c.lsn = cl := ⟨_, rfl⟩
     rw [hck, hcl] at hpc
     rw [hck] at d0
     rw [hcl] at d1
     have HPC := Lib.hid hpc
     have HX := Lib.hid (And.intro hXN hXL)
     have HS := Lib.hid (hst.kept ((Keep.refl _ wr).alloc (.cells #[.int .i64 ck, .int .i64 cl, .slice oD nD cD] 76)))
     have HLG := Lib.hid (long_any HS.out.pr)
     clear hcs2 hdd hdn hdo hsp hnx hX hcc hXN hXL hvD hnD hpc hck hcl hst hjl hgl
     by_cases hlong : 65536 < X.length
     ·rw [decide_eq_true hlong] at HLG
      have HLL := Lib.hid hlong
      clear hlong
      go_wp2_with (go_at_call 31; refine HLG.out.mono ?_; rintro e w' ⟨rfl, rfl⟩)
      refine bodyPost_ret (results_none rfl _ _ _) rfl ?_
      exact ⟨rfl, X, ⟨own7, v7, HS.out.pr, HS.out.tt⟩, Or.inr ⟨HLL.out, Nat.lt_of_lt_of_le HLL.out HX.out.2.2⟩⟩
     ·rw [decide_eq_false hlong] at HLG
      clear hlong
      go_wp2_with (first
       | (go_at_call 31; refine HLG.out.mono ?_; rintro e w' ⟨rfl, rfl⟩)
       | (go_at_call 66; refine (HPC.out _ HS.out).mono ?_; rintro e w' ⟨rfl, hpt⟩; obtain ⟨own8, v8, hs8⟩ := HS.out.step hpt; have HS := Lib.hid hs8; clear hpt hs8))
      go_roundg (gk - 1)
      all_goals first | omega | skip
      exact ⟨j + 1, by omega, by simp, own8, v8, by rw [HX.out.1]; exact HS.out⟩
    ·obtain rfl : j = n5 := by omega
     have hjI : ¬ (j : Int) < (j : Int) := by omega
     rw [List.take_of_length_le (by rw [HT.out.2.1]; exact Nat.le_refl _)] at hst
     have HS := Lib.hid hst
     clear hst
     go_wp2_with fail
     have hG := HGG.out
     go_roundg (G - 1)
     all_goals first | omega | skip
     exact ⟨k + 1, by omega, by simp, own7, v7, by rw [HT.out.2.2.2.2.2.2]; exact HS.out⟩
  ·obtain rfl : k = n2 := by omega
   have hkI : ¬ (k : Int) < (k : Int) := by omega
   rw [List.take_of_length_le (by rw [HC.out.2.1]; exact Nat.le_refl _)] at hst
   obtain ⟨A1, hA1⟩ : ∃ A, A0 ++ m.ts.flatMap taskM = A := ⟨_, rfl⟩
   have hFU1 := HFU.out
   have hB1 := HBD.out
   rw [hA1] at hst hFU1 hB1
   have HF1 := Lib.hid (And.intro hFU1 hB1)
   have HS := Lib.hid hst
   have k11 := HS.out.cell (i := 11) (u := .slice o3 n3 c3) rfl
   have k13 := HS.out.cell (i := 13) (u := .slice o4 n4 c4) rfl
   clear hA1 hst hFU1 hB1 HFU HBD
   by_cases h3 : n3 = 0
   ·subst h3
    have HF2 := Lib.hid (show fullS m.play = A1 ++ m.es.flatMap endM ∧ (A1 ++ m.es.flatMap endM).length ≤ 1099511627776 from by
     have h := HF1.out
     have hp : picksS m.ps = [] := by unfold picksS; rw [if_pos (List.length_eq_zero_iff.1 HC.out.2.2.1)]
     rw [hp, List.append_nil] at h
     exact h)
    clear HF1
    go_wp2_with fail
    clear k11
    generalize wr = wB at *
    go_loopg [13, 109] n4 (fun gq s13 s109 wx => ∃ j : Nat, gq + j = n4 ∧ s109 = .int .i64 (j : Int) ∧ Hid (∃ own' v', St w0 w own q xb 40 #[.int .i64 x0, .int .i64 x1, .int .i64 x2, .int .i64 x3, .int .i64 x4, .int .i64 x5, .int .i64 x6, .float .f64 x7, .float .f64 x8, .slice o1 n1 c1, .slice o2 k c2, .slice o3 0 c3, .int .i64 x9, .slice o4 n4 c4] wx own' v' (A1 ++ (m.es.take j).flatMap endM)))
    case atStart => exact ⟨0, by omega, rfl, own5, v5, by simpa using HS.out⟩
    case round =>
     obtain ⟨j, hgj, rfl, own8, v8, hst⟩ := hrel
     have k13 := hst.cell (i := 13) (u := .slice o4 n4 c4) rfl
     by_cases hj : j < n4
     ·have hjI : (j : Int) < (n4 : Int) := by omega
      have hj0 : (0 : Int) ≤ (j : Int) := by omega
      have hjl : j < m.es.length := by rw [HC.out.2.2.2.1]; exact hj
      obtain ⟨o', c', e', -, hcs, -⟩ := HH.out.2.2.2.2.1.es
      rw [HC.out.2.2.2.2.2.2.2, HC.out.2.2.2.1] at e'
      cases e'
      obtain ⟨g, f, rfl, hgl⟩ := hcs.some (by rw [flatc_len _ 3 (fun _ => rfl)]; omega)
      have hcs2 := hcs.kept hst.pn.keep
      have d0 := hcs2.get 3 (fun _ => rfl) (List.getElem?_eq_getElem hjl) 0 (by omega)
      have d1 := hcs2.get 3 (fun _ => rfl) (List.getElem?_eq_getElem hjl) 1 (by omega)
      have d2 := hcs2.get 3 (fun _ => rfl) (List.getElem?_eq_getElem hjl) 2 (by omega)
      unfold ME.cells at d0 d1 d2
      simp at d0 d1 d2
      have he := HH.out.2.2.2.2.1.ends _ (List.getElem_mem hjl)
      have hcb := HH.out.2.2.2.2.2.1.2.2.2.2.2 _ (List.getElem_mem hjl)
      have hjk := HH.out.2.2.2.2.2.2.1.2 _ (List.getElem_mem hjl)
      have hoe := HH.out.2.2.2.1.ends _ (List.mem_map.2 ⟨_, List.getElem_mem hjl, rfl⟩)
      have hsp := flat_split endM m.es j hjl
      have hnx := flat_next endM m.es j hjl
      obtain ⟨X, hX⟩ : ∃ X, A1 ++ (m.es.take j).flatMap endM = X := ⟨_, rfl⟩
      obtain ⟨E, hE⟩ : ∃ E, m.es[j] = E := ⟨_, rfl⟩
      rw [hE] at d0 d1 d2 he hcb hjk hoe hsp hnx
      have hXN : A1 ++ (m.es.take (j + 1)).flatMap endM = X ++ endT E.reopen := by rw [hnx, ← hX, List.append_assoc]; rfl
      have hXL : (X ++ endT E.reopen).length ≤ 1099511627776 ∧ X.length ≤ (fullS m.play).length := by
       have h1 := HF2.out.2
       rw [HF2.out.1, ← hX]
       rw [hsp] at h1 ⊢
       unfold endM at h1 ⊢
       simp only [List.length_append] at h1 ⊢
       omega
      rw [hX] at hst
      obtain ⟨oK, cK, hvK⟩ := he.keeps.val
      obtain ⟨oF, cF, hvF⟩ := he.faults.val
      obtain ⟨nK, hnK⟩ : ∃ n, E.ks.length = n := ⟨_, rfl⟩
      obtain ⟨nF, hnF⟩ : ∃ n, E.fs.length = n := ⟨_, rfl⟩
      have hpc := fun (W : World) (hS : St w0 w own q xb 40 #[.int .i64 x0, .int .i64 x1, .int .i64 x2, .int .i64 x3, .int .i64 x4, .int .i64 x5, .int .i64 x6, .float .f64 x7, .float .f64 x8, .slice o1 n1 c1, .slice o2 k c2, .slice o3 0 c3, .int .i64 x9, .slice (some ⟨g, f, none⟩) n4 c4] W own8 v8 X) => pend_any N0 E hS.pr (HEV.out.kept hS.pn.keep.none) (fun g hg => Nat.le_trans HEV.out.le (hS.pn.low g hg)) (he.kept hS.pn.keep) (fun h0 => hS.pn.free he.faults (by unfold fsv; rw [flatc_len _ 3 (fun _ => rfl)]; omega)) hoe ⟨hcb.2, hcb.1, hjk⟩ hXL.1
      rw [hvK, hvF, hnK, hnF] at hpc
      rw [hvK, hnK] at d1
      rw [hvF, hnF] at d2
      obtain ⟨dr, hdr⟩ : ∃ d, E.dir = d := ⟨_, rfl⟩
      rw [hdr] at hpc d0
      have HPC := Lib.hid hpc
      have HX := Lib.hid (And.intro hXN hXL)
      have HS := Lib.hid (hst.kept ((Keep.refl _ wr).alloc (.cells #[.int .i64 dr, .slice oK nK cK, .slice oF nF cF] 82)))
      have HLG := Lib.hid (long_any HS.out.pr)
      clear hcs hcs2 he hcb hjk hoe hsp hnx hX hE hXN hXL hvK hvF hnK hnF hpc hdr hst hjl hgl
      by_cases hlong : 65536 < X.length
      ·rw [decide_eq_true hlong] at HLG
       have HLL := Lib.hid hlong
       clear hlong
       go_wp2_with (go_at_call 31; refine HLG.out.mono ?_; rintro e w' ⟨rfl, rfl⟩)
       refine bodyPost_ret (results_none rfl _ _ _) rfl ?_
       exact ⟨rfl, X, ⟨own8, v8, HS.out.pr, HS.out.tt⟩, Or.inr ⟨HLL.out, Nat.lt_of_lt_of_le HLL.out HX.out.2.2⟩⟩
      ·rw [decide_eq_false hlong] at HLG
       clear hlong
       go_wp2_with (first
        | (go_at_call 31; refine HLG.out.mono ?_; rintro e w' ⟨rfl, rfl⟩)
        | (go_at_call 67; refine (HPC.out _ HS.out).mono ?_; rintro e w' ⟨rfl, hpt⟩; obtain ⟨own9, v9, hs9⟩ := HS.out.step hpt; have HS := Lib.hid hs9; clear hpt hs9))
       go_roundg (gk - 1)
       all_goals first | omega | skip
       exact ⟨j + 1, by omega, by simp, own9, v9, by rw [HX.out.1]; exact HS.out⟩
     ·obtain rfl : j = n4 := by omega
      have hjI : ¬ (j : Int) < (j : Int) := by omega
      rw [List.take_of_length_le (by rw [HC.out.2.2.2.1]; exact Nat.le_refl _)] at hst
      have HS := Lib.hid hst
      clear hst
      go_wp2_with fail
      refine bodyPost_ret (results_none rfl _ _ _) rfl ?_
      exact ⟨rfl, _, ⟨own8, v8, HS.out.pr, HS.out.tt⟩, Or.inl HF2.out.1.symm⟩
   ·have h3I : (0 : Int) < (n3 : Int) := by omega
    obtain ⟨iS, hi0, hi1, hi2, hi3⟩ := infoS
    have HI := Lib.hid (And.intro hi0 (And.intro hi1 (And.intro hi2 hi3)))
    clear hi0 hi1 hi2 hi3
    obtain ⟨wB, hwB⟩ : ∃ wB, wr = wB := ⟨_, rfl⟩
    rw [hwB] at HS k11 k13 ⊢
    obtain ⟨q2, hq2⟩ : ∃ q2, wB.heap.size = q2 := ⟨_, rfl⟩
    have HQ2 := Lib.hid hq2
    have HR0 := Lib.hid (row_new wB q2 9 ([[112, 105, 99, 107, 115]].map encS) (by omega) (by unfold maxLen; simp))
    have HNow := Lib.hid ((Keep.refl (fun _ => False) wB).alloc (.cells #[.string ⟨#[112, 105, 99, 107, 115]⟩] 9))
    have k11 := cell_kept HNow.out k11
    clear hwB hq2
    go_wp2_with fail
    go_loopg [9, 11, 93] n3 (fun gq s9 s11 s93 wx => ∃ i : Nat, gq + i = n3 ∧ s93 = .int .i64 (i : Int) ∧ Hid (wx.ownsRow q2 9 1 s9 (i + 1) (([112, 105, 99, 107, 115] :: (m.ps.take i).map decS).map encS) ∧ Keep (fun _ => False) wB wx))
    case atStart => exact ⟨0, by omega, rfl, HR0.out, HNow.out⟩
    case round =>
     obtain ⟨i, hgj, rfl, hrow, hkp⟩ := hrel
     have HK := Lib.hid (And.intro hrow hkp)
     by_cases hj : i < n3
     ·have hjI : (i : Int) < (n3 : Int) := by omega
      have hj0 : (0 : Int) ≤ (i : Int) := by omega
      have hjl : i < m.ps.length := by rw [HC.out.2.2.1]; exact hj
      obtain ⟨o', c', e', -, hcs, -⟩ := HH.out.2.2.2.2.1.ps
      rw [HC.out.2.2.2.2.2.2.1, HC.out.2.2.1] at e'
      cases e'
      obtain ⟨g, f, rfl, hc, hl⟩ := hcs i (by simpa using hjl)
      have cg : wr.cell? ⟨g, f + i, none⟩ = some (.int .i64 m.ps[i]) := by
       rw [((HS.out.pn.keep.trans hkp).cell (p := ⟨g, f + i, none⟩) hl id).trans hc, List.getElem?_map, List.getElem?_eq_getElem hjl]
       rfl
      have hok := HH.out.2.2.2.1.picks _ (List.getElem_mem hjl)
      have htk : m.ps.take (i + 1) = m.ps.take i ++ [m.ps[i]] := by rw [List.take_add_one, List.getElem?_eq_getElem hjl]; rfl
      have hsn : [112, 105, 99, 107, 115] :: (m.ps.take (i + 1)).map decS = ([112, 105, 99, 107, 115] :: (m.ps.take i).map decS) ++ [decS m.ps[i]] := by rw [htk]; simp only [List.map_append, List.map_cons, List.map_nil, List.cons_append]
      obtain ⟨z, hz⟩ : ∃ z, m.ps[i] = z := ⟨_, rfl⟩
      rw [hz] at cg hok hsn
      obtain ⟨sN, hsN⟩ : ∃ s, decS z = s := ⟨_, rfl⟩
      have HD2 := Lib.hid (fun W hE => dec_any z N0 W hE hok)
      rw [hsN] at HD2 hsn
      have HSN := Lib.hid hsn
      have hev1 := Lib.hid (HEV.out.kept (HS.out.pn.keep.trans hkp).none)
      have HN1 := Lib.hid (Keep.refl (fun _ => False) wr)
      clear hrow hkp hcs hc hl hok htk hsn hz hsN hjl
      go_wp2_with (first
       | (go_at_call 62; refine (HD2.out _ (hev1.out.kept HN1.out.none)).mono ?_; rintro e' w' ⟨rfl, kx⟩; have HN1 := Lib.hid (HN1.out.trans kx); clear kx)
       | (at_builtin; refine wpList_append_own_at _ rfl (.tmp 97) (.tmp 100) 22 rfl q2 9 iS _ 1 16 Tryz.underlying22 HI.out.1 HI.out.2.1 HI.out.2.2.1 HI.out.2.2.2 rfl (by decide) _ (i + 1) _ rfl (row_keep HK.out.1 (HN1.out.alloc _) fun _ _ => id) ⟨_, 0, none⟩ 1 1 [.string (strB sN)] rfl rfl (cell_one_new _ _ _) (by simp [Value.oneCell']) (by unfold maxLen; omega) (by omega) (by have := HN1.out.size; have := HK.out.2.size; have := HQ2.out; simp; omega) ?_; intro v4 w4 hown hgr _ _; have HQ := Lib.hid (And.intro hown (grow_row (row_keep HK.out.1 HN1.out fun _ _ => id) hgr)); clear hown hgr))
      go_roundg (gk - 1)
      all_goals first | omega | skip
      case rel =>
       refine ⟨i + 1, by omega, by simp, ?_, (HK.out.2.trans HN1.out).own HQ.out.2 fun i hi => Or.inr (by have := HQ2.out; omega)⟩
       have h := HQ.out.1
       rw [HSN.out, List.map_append]
       exact h
     ·obtain rfl : i = n3 := by omega
      have hjI : ¬ (i : Int) < (i : Int) := by omega
      rw [List.take_of_length_le (by rw [HC.out.2.2.1]; exact Nat.le_refl _)] at hrow
      obtain ⟨ws, hws⟩ : ∃ ws, [112, 105, 99, 107, 115] :: m.ps.map decS = ws := ⟨_, rfl⟩
      have hwl : ws.length = i + 1 := by rw [← hws]; simp [HC.out.2.2.1]
      have hpS : picksS m.ps = putL ws := by
       unfold picksS
       rw [if_neg (fun e => h3 (by rw [← HC.out.2.2.1, e]; rfl)), hws]
      rw [hws] at hrow
      rw [← hwl] at hrow
      have hbase := hrow
      obtain ⟨o, cap, rfl, -, hcap, hwat⟩ := WsAt.of_row hrow
      obtain ⟨g, f, rfl, -, hgl⟩ := hwat 0 (by omega)
      have hgb : q2 ≤ g := by
       rcases hbase.2 with ⟨h1, -⟩ | ⟨g', c', cur, h1, h2, -⟩
       ·cases h1
       ·cases h1; exact h2
      have hS2 := HS.out.kept hkp
      have hgo : own5 g = none := HS.out.pr.past (by have := HQ2.out; omega)
      have HF2 := Lib.hid (show fullS m.play = (A1 ++ putL ws) ++ m.es.flatMap endM ∧ ((A1 ++ putL ws) ++ m.es.flatMap endM).length ≤ 1099511627776 from by
       have h := HF1.out
       rw [hpS] at h
       exact h)
      have hB := HF2.out.2
      have HPU := Lib.hid (put_any g f cap ws hS2.pr hwat hgo hcap (by omega) (by rw [List.length_append] at hB; omega))
      rw [hwl] at HPU ⊢
      have HS := Lib.hid hS2
      obtain ⟨A2, hA2⟩ : ∃ A, A1 ++ putL ws = A := ⟨_, rfl⟩
      rw [hA2] at HPU HF2
      clear hrow HK hws hwl hpS hbase hcap hwat hgl hgb hgo hS2 hB hkp HF1 k11 k13 hA2
      go_wp2_with (go_at_call 61; refine HPU.out.mono ?_; rintro e' w2 ⟨rfl, hpt⟩; obtain ⟨own7, v7, hs7⟩ := HS.out.step hpt; have HS := Lib.hid hs7; have k13 := HS.out.cell (i := 13) (u := .slice o4 n4 c4) rfl; clear hpt hs7)
      go_loopg [13, 109] n4 (fun gq s13 s109 wx => ∃ j : Nat, gq + j = n4 ∧ s109 = .int .i64 (j : Int) ∧ Hid (∃ own' v', St w0 w own q xb 40 #[.int .i64 x0, .int .i64 x1, .int .i64 x2, .int .i64 x3, .int .i64 x4, .int .i64 x5, .int .i64 x6, .float .f64 x7, .float .f64 x8, .slice o1 n1 c1, .slice o2 k c2, .slice o3 i c3, .int .i64 x9, .slice o4 n4 c4] wx own' v' (A2 ++ (m.es.take j).flatMap endM)))
      case atStart => exact ⟨0, by omega, rfl, own7, v7, by simpa using HS.out⟩
      case round =>
       obtain ⟨j, hgj, rfl, own8, v8, hst⟩ := hrel
       have k13 := hst.cell (i := 13) (u := .slice o4 n4 c4) rfl
       by_cases hj : j < n4
       ·have hjI : (j : Int) < (n4 : Int) := by omega
        have hj0 : (0 : Int) ≤ (j : Int) := by omega
        have hjl : j < m.es.length := by rw [HC.out.2.2.2.1]; exact hj
        obtain ⟨o', c', e', -, hcs, -⟩ := HH.out.2.2.2.2.1.es
        rw [HC.out.2.2.2.2.2.2.2, HC.out.2.2.2.1] at e'
        cases e'
        obtain ⟨g, f, rfl, hgl⟩ := hcs.some (by rw [flatc_len _ 3 (fun _ => rfl)]; omega)
        have hcs2 := hcs.kept hst.pn.keep
        have d0 := hcs2.get 3 (fun _ => rfl) (List.getElem?_eq_getElem hjl) 0 (by omega)
        have d1 := hcs2.get 3 (fun _ => rfl) (List.getElem?_eq_getElem hjl) 1 (by omega)
        have d2 := hcs2.get 3 (fun _ => rfl) (List.getElem?_eq_getElem hjl) 2 (by omega)
        unfold ME.cells at d0 d1 d2
        simp at d0 d1 d2
        have he := HH.out.2.2.2.2.1.ends _ (List.getElem_mem hjl)
        have hcb := HH.out.2.2.2.2.2.1.2.2.2.2.2 _ (List.getElem_mem hjl)
        have hjk := HH.out.2.2.2.2.2.2.1.2 _ (List.getElem_mem hjl)
        have hoe := HH.out.2.2.2.1.ends _ (List.mem_map.2 ⟨_, List.getElem_mem hjl, rfl⟩)
        have hsp := flat_split endM m.es j hjl
        have hnx := flat_next endM m.es j hjl
        obtain ⟨X, hX⟩ : ∃ X, A2 ++ (m.es.take j).flatMap endM = X := ⟨_, rfl⟩
        obtain ⟨E, hE⟩ : ∃ E, m.es[j] = E := ⟨_, rfl⟩
        rw [hE] at d0 d1 d2 he hcb hjk hoe hsp hnx
        have hXN : A2 ++ (m.es.take (j + 1)).flatMap endM = X ++ endT E.reopen := by rw [hnx, ← hX, List.append_assoc]; rfl
        have hXL : (X ++ endT E.reopen).length ≤ 1099511627776 ∧ X.length ≤ (fullS m.play).length := by
         have h1 := HF2.out.2
         rw [HF2.out.1, ← hX]
         rw [hsp] at h1 ⊢
         unfold endM at h1 ⊢
         simp only [List.length_append] at h1 ⊢
         omega
        rw [hX] at hst
        obtain ⟨oK, cK, hvK⟩ := he.keeps.val
        obtain ⟨oF, cF, hvF⟩ := he.faults.val
        obtain ⟨nK, hnK⟩ : ∃ n, E.ks.length = n := ⟨_, rfl⟩
        obtain ⟨nF, hnF⟩ : ∃ n, E.fs.length = n := ⟨_, rfl⟩
        have hpc := fun (W : World) (hS : St w0 w own q xb 40 #[.int .i64 x0, .int .i64 x1, .int .i64 x2, .int .i64 x3, .int .i64 x4, .int .i64 x5, .int .i64 x6, .float .f64 x7, .float .f64 x8, .slice o1 n1 c1, .slice o2 k c2, .slice o3 i c3, .int .i64 x9, .slice (some ⟨g, f, none⟩) n4 c4] W own8 v8 X) => pend_any N0 E hS.pr (HEV.out.kept hS.pn.keep.none) (fun g hg => Nat.le_trans HEV.out.le (hS.pn.low g hg)) (he.kept hS.pn.keep) (fun h0 => hS.pn.free he.faults (by unfold fsv; rw [flatc_len _ 3 (fun _ => rfl)]; omega)) hoe ⟨hcb.2, hcb.1, hjk⟩ hXL.1
        rw [hvK, hvF, hnK, hnF] at hpc
        rw [hvK, hnK] at d1
        rw [hvF, hnF] at d2
        obtain ⟨dr, hdr⟩ : ∃ d, E.dir = d := ⟨_, rfl⟩
        rw [hdr] at hpc d0
        have HPC := Lib.hid hpc
        have HX := Lib.hid (And.intro hXN hXL)
        have HS := Lib.hid (hst.kept ((Keep.refl _ wr).alloc (.cells #[.int .i64 dr, .slice oK nK cK, .slice oF nF cF] 82)))
        have HLG := Lib.hid (long_any HS.out.pr)
        clear hcs hcs2 he hcb hjk hoe hsp hnx hX hE hXN hXL hvK hvF hnK hnF hpc hdr hst hjl hgl
        by_cases hlong : 65536 < X.length
        ·rw [decide_eq_true hlong] at HLG
         have HLL := Lib.hid hlong
         clear hlong
         go_wp2_with (go_at_call 31; refine HLG.out.mono ?_; rintro e w' ⟨rfl, rfl⟩)
         refine bodyPost_ret (results_none rfl _ _ _) rfl ?_
         exact ⟨rfl, X, ⟨own8, v8, HS.out.pr, HS.out.tt⟩, Or.inr ⟨HLL.out, Nat.lt_of_lt_of_le HLL.out HX.out.2.2⟩⟩
        ·rw [decide_eq_false hlong] at HLG
         clear hlong
         go_wp2_with (first
          | (go_at_call 31; refine HLG.out.mono ?_; rintro e w' ⟨rfl, rfl⟩)
          | (go_at_call 67; refine (HPC.out _ HS.out).mono ?_; rintro e w' ⟨rfl, hpt⟩; obtain ⟨own9, v9, hs9⟩ := HS.out.step hpt; have HS := Lib.hid hs9; clear hpt hs9))
         go_roundg (gk - 1)
         all_goals first | omega | skip
         exact ⟨j + 1, by omega, by simp, own9, v9, by rw [HX.out.1]; exact HS.out⟩
       ·obtain rfl : j = n4 := by omega
        have hjI : ¬ (j : Int) < (j : Int) := by omega
        rw [List.take_of_length_le (by rw [HC.out.2.2.2.1]; exact Nat.le_refl _)] at hst
        have HS := Lib.hid hst
        clear hst
        go_wp2_with fail
        refine bodyPost_ret (results_none rfl _ _ _) rfl ?_
        exact ⟨rfl, _, ⟨own8, v8, HS.out.pr, HS.out.tt⟩, Or.inl HF2.out.1.symm⟩
end Sc
end Go.Proofs.YtkkecpamnnojoaaGreatDoor
