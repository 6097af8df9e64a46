/- A part of the proof of ScriptPrints: nothing is assumed. By an AI agent. -/
import Derived.Test.YtkkecpamnnojoaaGreatDoorBp17
import Derived.Lib.ItoaLen
import Derived.Test.YtkkecpamnnojoaaGreatDoorBp03
import Derived.Test.YtkkecpamnnojoaaGreatDoorBp11
import Derived.Deep.Strs
import Derived.Lib.SmallJoins
set_option linter.unusedVariables false
set_option linter.unusedSimpArgs false
set_option maxRecDepth 100000
set_option maxHeartbeats 32000000
namespace Go.Proofs.YtkkecpamnnojoaaGreatDoor
open Go.ChangeShapes Go.WideShapes Go.ChangeAt Go.RowKit Go.Shelf
open Bt Dc By
namespace Sc

def callT (c:Call):Str:=
 if c.kind = 1 ∨ c.kind = 2 then (if 65536 < c.data.length then c.data else putL [callWord c.kind,pairsS c.data])
 else if c.kind = 3 ∨ c.kind = 7 then putL [callWord c.kind] else putL [callWord c.kind,decS c.lsn]
theorem puts_kept {w W w':World} {own:Nat → Option T} {xb:Nat} {B:Str} (k:Keep (fun _ => False) w W) (h:Puts W own xb B w'):Puts w own xb B w':=by
 obtain ⟨own',v',h1,h2⟩:=h
 exact ⟨own',v',h1,(To.kept k).trans h2⟩
theorem csat_news {w:World} {g f:Nat} {xs:List Value} (h:CsAt w (some ⟨g,f,none⟩) xs):∀ j u,xs[j]? = some u → w.cell? ((⟨g,f,none⟩:Addr).add j) = some u:=fun j u hj => by
 obtain ⟨g',f',e1,e2,-⟩:=h j (List.getElem?_eq_some_iff.1 hj).1
 cases e1
 rw [addr_add,e2,hj]
theorem u8v_one' {s:Str}:∀ u ∈ u8v s,u.oneCell' = true:=by
 intro u hu
 obtain ⟨b,-,rfl⟩:=List.mem_map.1 hu
 rfl
theorem pcall_any {w : World} {own : Nat → Option T} {xb : Nat} {v : Value} {B : Str} (N0 : Nat) (c : MC) (h : Pr w own xb v B) (hE : Ev N0 w) (hlow : ∀ g, own g ≠ none → N0 ≤ g) (hd : SlAt w c.d c.c.data.length (u8v c.c.data)) (hok : IsI c.c.lsn) (hn : c.c.data.length ≤ 1073741824) (hb : (B ++ callT c.c).length ≤ 1099511627776) :
    Calls Tryz.prog 66 #[.pointer (some ⟨xb, 0, none⟩), .agg #[.int .i64 c.c.kind, .int .i64 c.c.lsn, c.d]] w fun e w' => e = .returned (.tuple #[]) ∧ Puts w own xb (B ++ callT c.c) w' := by
  obtain ⟨oD, cD, hv, hcap, hcs, hcn⟩ := hd
  obtain ⟨k, hk⟩ : ∃ k, c.c.kind = k := ⟨_, rfl⟩
  obtain ⟨l, hl⟩ : ∃ l, c.c.lsn = l := ⟨_, rfl⟩
  obtain ⟨D, hD⟩ : ∃ D, c.c.data = D := ⟨_, rfl⟩
  obtain ⟨n, hN⟩ : ∃ n, D.length = n := ⟨_, rfl⟩
  have hX : callT c.c = (if k = 1 ∨ k = 2 then (if 65536 < n then D else putL [callWord k, pairsS D]) else if k = 3 ∨ k = 7 then putL [callWord k] else putL [callWord k, decS l]) := by
    unfold callT; rw [hk, hl, hD, hN]
  rw [hD] at hv hcap hcs hn
  rw [hN] at hv hcap hn
  rw [hX] at hb ⊢
  rw [hv, hk, hl]
  rw [hl] at hok
  have hfr := True.intro
  obtain ⟨q, hq⟩ : ∃ q, w.heap.size = q := ⟨_, rfl⟩
  obtain ⟨W0, hW0⟩ : ∃ W0, w.alloc (.cells #[.int .i64 k, .int .i64 l, .slice oD n cD] 76) = W0 := ⟨_, rfl⟩
  have b0 : W0.heap[q]? = some (.cells #[.int .i64 k, .int .i64 l, .slice oD n cD] 76 (0, 0)) := by rw [← hW0, ← hq]; exact blk_new _ _
  have k0 : Keep (fun _ => False) w W0 := by rw [← hW0]; exact (Keep.refl _ w).alloc _
  have HH := Lib.hid (And.intro h (And.intro hE (And.intro hlow (And.intro hcs (And.intro hfr (And.intro hok (And.intro hN (And.intro k0 hcn))))))))
  have HE0 := Lib.hid (hE.kept k0.none)
  have HQ := Lib.hid (h.past (Nat.le_of_eq hq))
  have hp0 := h.kept k0
  have HP := Lib.hid hp0
  have HW := Lib.hid (fun W => callWord_any k W)
  have HB := Lib.hid hb
  have e0 := blk_cell b0 0
  have e1 := blk_cell b0 1
  have e2 := blk_cell b0 2
  simp at e0 e1 e2
  clear h hE hlow hcs hfr hok hN k0 hp0 b0 hv hk hl hD hX hcn hb
  have b1 : ∀ j : Int, k ≠ j → (k == j) = false := fun j h => by rw [beq_eq_false_iff_ne]; exact h
  by_cases h12 : k = 1 ∨ k = 2
  · rw [if_pos h12] at HB ⊢
    by_cases hbig : 65536 < n
    · rw [if_pos hbig] at HB ⊢
      have hb2 : (65536 : Int) < (n : Int) := by omega
      have c0 := blk_cell HP.out.blk 0
      have f0 := blk_free HP.out.blk 0
      simp at c0
      obtain ⟨o, p, hv⟩ := HP.out.row.len
      have hrw := HP.out.row.row
      rw [hv] at hrw c0
      obtain ⟨L, hL⟩ : ∃ L, B.length = L := ⟨_, rfl⟩
      have HL := Lib.hid hL
      rw [hL] at hv hrw c0
      have hsz : L + n ≤ 1099511627776 := by have := HB.out; rw [List.length_append, hL, HH.out.2.2.2.2.2.2.1] at this; exact this
      have HR := Lib.hid (And.intro hrw (And.intro hv hsz))
      obtain ⟨g, f, rfl, hgl⟩ := HH.out.2.2.2.1.some (by rw [u8v_len, HH.out.2.2.2.2.2.2.1]; omega)
      obtain ⟨i0, hi0, hz0, hz1, hz2⟩ := info8k
      clear hv hrw hL hsz hbig
      rcases h12 with rfl | rfl
      all_goals
        clear b1
        go_enter Tryz.func66, Tryz.ntmps66
        go_wp2_with (go_at_call 93; refine (HW.out _).mono ?_; rintro e w' ⟨rfl, hw⟩; obtain rfl : W0 = w' := hw.symm)
        go_region_law (first
          | (refine step_append_k rfl (.tmp 28) (.tmp 30) 53 rfl 0 5 i0 (.int .u8 0) 1 1 Tryz.underlying53 hi0 hz0 hz1 hz2 rfl (by decide) (.slice o L p) L (u8v B) rfl (row_keep HR.out.1 ((Keep.refl (fun _ => False) W0).drewN 1) fun _ _ => id) ⟨g, f, none⟩ n cD (u8v D) rfl (by rw [u8v_len, HH.out.2.2.2.2.2.2.1, Nat.mul_one]) (csat_news (HH.out.2.2.2.1.kept (HH.out.2.2.2.2.2.2.2.1.drewN 1))) u8v_one' (by have := HR.out.2.2; unfold maxLen; omega) (by have := HR.out.2.2; omega) (Nat.zero_le _) ?_
             intro v4 w4 hown hgr hblk
             rw [← HH.out.2.2.2.2.2.2.1] at hown
             rw [← HR.out.2.1] at hgr hblk
             obtain ⟨o2, L2, p2, hv2, hm⟩ := more_x (HP.out.kept ((Keep.refl (fun _ => False) W0).drewN 1)) HL.out hown hgr (hblk.imp_right fun e => ⟨_, e, Nat.le_refl _⟩)
             have c4 := more_c (HP.out.kept ((Keep.refl (fun _ => False) W0).drewN 1)) hgr c0
             have f4 := more_f (HP.out.kept ((Keep.refl (fun _ => False) W0).drewN 1)) hgr f0
             have HM := Lib.hid hm
             rw [hv2]
             clear hown hgr hblk hm hv2))
        all_goals go_wp2_with fail
        all_goals refine bodyPost_ret (results_none rfl _ _ _) rfl ?_
        all_goals exact ⟨rfl, _, .slice o2 L2 p2, HM.out.1, (To.kept (HH.out.2.2.2.2.2.2.2.1.drewN 1)).trans HM.out.2.1⟩
    · rw [if_neg hbig] at HB ⊢
      have hb2 : ¬ (65536 : Int) < (n : Int) := by omega
      have HPA := Lib.hid (fun W k => pairs_any oD cD D W (HH.out.2.2.2.1.kept k) (by rw [HH.out.2.2.2.2.2.2.1]; exact hn))
      rw [HH.out.2.2.2.2.2.2.1] at HPA
      obtain ⟨s1, hs1⟩ : ∃ s, callWord k = s := ⟨_, rfl⟩
      obtain ⟨s2, hs2⟩ : ∃ s, pairsS D = s := ⟨_, rfl⟩
      rw [hs1] at HW HB ⊢
      rw [hs2] at HPA HB ⊢
      have HNow := Lib.hid (Keep.refl (fun _ => False) W0)
      clear hbig hs1 hs2
      rcases h12 with rfl | rfl
      all_goals
        clear b1
        go_enter Tryz.func66, Tryz.ntmps66
        go_wp2_with (first
          | (go_at_call 93; refine (HW.out _).mono ?_; rintro e w' ⟨rfl, hw⟩; obtain rfl : W0 = w' := hw.symm)
          | (go_at_call 94; refine (HPA.out _ (HH.out.2.2.2.2.2.2.2.1.trans HNow.out)).mono ?_; rintro e w' ⟨rfl, kx⟩; have HNow := Lib.hid (HNow.out.trans kx); clear kx)
          | (go_at_call 61; refine (put_any _ 0 2 [s1, s2] (HP.out.kept (HNow.out.alloc _)) (ws_new _ [s1, s2]) (HP.out.past HNow.out.size) (Nat.le_refl _) (by simp) (by skip; exact HB.out)).mono ?_; rintro e w' ⟨rfl, hpt⟩; have HPut := Lib.hid hpt; have HNow := Lib.hid (HNow.out.alloc (.cells ([s1, s2].map encS).toArray 9)); clear hpt))
        go_end0
        exact ⟨rfl, puts_kept (HH.out.2.2.2.2.2.2.2.1.trans HNow.out) HPut.out⟩
  · rw [if_neg h12] at HB ⊢
    have n1 : k ≠ 1 := fun e => h12 (Or.inl e)
    have n2 : k ≠ 2 := fun e => h12 (Or.inr e)
    have e1' := b1 1 n1
    have e2' := b1 2 n2
    obtain ⟨s1, hs1⟩ : ∃ s, callWord k = s := ⟨_, rfl⟩
    have HNow := Lib.hid (Keep.refl (fun _ => False) W0)
    by_cases h37 : k = 3 ∨ k = 7
    · rw [if_pos h37] at HB ⊢
      rw [hs1] at HW HB ⊢
      clear hs1 h12 n1 n2
      rcases h37 with rfl | rfl
      all_goals
        clear b1 e1' e2'
        go_enter Tryz.func66, Tryz.ntmps66
        go_wp2_with (first
          | (go_at_call 93; refine (HW.out _).mono ?_; rintro e w' ⟨rfl, hw⟩; obtain rfl : W0 = w' := hw.symm)
          | (go_at_call 61; refine (put_any _ 0 1 [s1] (HP.out.kept (HNow.out.alloc _)) (ws_new _ [s1]) (HP.out.past HNow.out.size) (Nat.le_refl _) (by simp) (by skip; exact HB.out)).mono ?_; rintro e w' ⟨rfl, hpt⟩; have HPut := Lib.hid hpt; have HNow := Lib.hid (HNow.out.alloc (.cells ([s1].map encS).toArray 9)); clear hpt))
        go_end0
        exact ⟨rfl, puts_kept (HH.out.2.2.2.2.2.2.2.1.trans HNow.out) HPut.out⟩
    · rw [if_neg h37] at HB ⊢
      have e3' := b1 3 (fun e => h37 (Or.inl e))
      have e7' := b1 7 (fun e => h37 (Or.inr e))
      have HDC := Lib.hid (fun W hE => dec64_any l N0 W hE HH.out.2.2.2.2.2.1)
      obtain ⟨s2, hs2⟩ : ∃ s, decS l = s := ⟨_, rfl⟩
      rw [hs1] at HW HB ⊢
      rw [hs2] at HDC HB ⊢
      clear hs1 hs2 h12 n1 n2 h37 b1
      go_enter Tryz.func66, Tryz.ntmps66
      go_wp2_with (first
        | (go_at_call 93; refine (HW.out _).mono ?_; rintro e w' ⟨rfl, hw⟩; obtain rfl : W0 = w' := hw.symm)
        | (go_at_call 63; refine (HDC.out _ (HE0.out.kept HNow.out.none)).mono ?_; rintro e w' ⟨rfl, kx⟩; have HNow := Lib.hid (HNow.out.trans kx); clear kx)
        | (go_at_call 61; refine (put_any _ 0 2 [s1, s2] (HP.out.kept (HNow.out.alloc _)) (ws_new _ [s1, s2]) (HP.out.past HNow.out.size) (Nat.le_refl _) (by simp) (by skip; exact HB.out)).mono ?_; rintro e w' ⟨rfl, hpt⟩; have HPut := Lib.hid hpt; have HNow := Lib.hid (HNow.out.alloc (.cells ([s1, s2].map encS).toArray 9)); clear hpt))
      go_end0
      exact ⟨rfl, puts_kept (HH.out.2.2.2.2.2.2.2.1.trans HNow.out) HPut.out⟩

def keepT (k:Kp):Str:=decS k.n ++ (if k.junk = [] then [] else 58 :: pairsS (k.junk.take 65536))
def endT (r:Reopen):Str:=putL ([101,110,100] :: decS r.dir :: r.keeps.map keepT) ++ faultsS r.faults
def EndOk (r:Reopen):Prop:=IsI r.dir ∧ (∀ k ∈ r.keeps,IsI k.n) ∧ ∀ f ∈ r.faults,FaultOk f
theorem pairsS_len (b:Str):(pairsS b).length ≤ 2 * b.length + 1:=by
 unfold pairsS
 split
 ·simp
 ·have:∀ l:Str,(l.flatMap two16).length = 2 * l.length:=fun l => by
   induction l with
   | nil => rfl
   | cons c l ih => rw [List.flatMap_cons,List.length_append,ih]; simp [two16]; omega
  rw [this]; omega
theorem strB_cat (a b:Str):strB a ++ (⟨#[58]⟩ ++ strB b) = strB (a ++ 58 :: b):=by
 unfold strB
 apply ByteArray.ext
 simp [ByteArray.data_append]
theorem csat_take {w:World} {o:Option Addr} {s:Str} (h:CsAt w o (u8v s)) (n:Nat):CsAt w o (u8v (s.take n)):=fun i hi => by
 have e:u8v (s.take n) = (u8v s).take n:=by unfold u8v; rw [List.map_take]
 rw [e] at hi ⊢
 rw [List.length_take] at hi
 obtain ⟨g,f,h1,h2,h3⟩:=h i (by omega)
 exact ⟨g,f,h1,by rw [h2,List.getElem?_take_of_lt (by omega)],h3⟩
theorem pend_any {w:World} {own:Nat → Option T} {xb:Nat} {v:Value} {B:Str} (N0:Nat) (e:ME) (h:Pr w own xb v B) (hE:Ev N0 w) (hlow:∀ g,own g ≠ none → N0 ≤ g) (he:EndS w e)
  (hfr:0 < e.fs.length → ∀ o cap n,e.fv = .slice (some o) n cap → own o.block = none) (hok:EndOk e.reopen) (hn:e.ks.length ≤ 256 ∧ e.fs.length ≤ 64 ∧ ∀ k ∈ e.ks,k.k.junk.length ≤ 1073741824) (hb:(B ++ endT e.reopen).length ≤ 1099511627776) :
  Calls Tryz.prog 67 #[.pointer (some ⟨xb,0,none⟩),.agg #[.int .i64 e.dir,e.kv,e.fv]] w fun r w' => r = .returned (.tuple #[]) ∧ Puts w own xb (B ++ endT e.reopen) w':=by
 obtain ⟨o1,c1,hv1,-,hcs1,-⟩:=he.keeps
 obtain ⟨o2,c2,hv2⟩:=he.faults.val
 obtain ⟨n1,hn1⟩:∃ n,e.ks.length = n:=⟨_,rfl⟩
 obtain ⟨n2,hn2⟩:∃ n,e.fs.length = n:=⟨_,rfl⟩
 have hb1:n1 ≤ 256:=by rw [← hn1]; exact hn.1
 have hb2:n2 ≤ 64:=by rw [← hn2]; exact hn.2.1
 obtain ⟨dr,hdr⟩:∃ d,e.dir = d:=⟨_,rfl⟩
 obtain ⟨dS,hdS⟩:∃ s,decS dr = s:=⟨_,rfl⟩
 have HT:=Lib.hid (show endT e.reopen = putL ([101,110,100] :: dS :: e.ks.map (fun k => keepT k.k)) ++ faultsS e.fs from by
  unfold endT ME.reopen; rw [hdr,hdS]; simp [Function.comp_def])
 obtain ⟨q,hq⟩:∃ q,w.heap.size = q:=⟨_,rfl⟩
 rw [hv1,hv2,hn1,hn2,hdr]
 obtain ⟨W0,hW0⟩:∃ W0,w.alloc (.cells #[.int .i64 dr,.slice o1 n1 c1,.slice o2 n2 c2] 82) = W0:=⟨_,rfl⟩
 have b0:W0.heap[q]? = some (.cells #[.int .i64 dr,.slice o1 n1 c1,.slice o2 n2 c2] 82 (0,0)):=by rw [← hW0,← hq]; exact blk_new _ _
 have k0:Keep (fun _ => False) w W0:=by rw [← hW0]; exact (Keep.refl _ w).alloc _
 have hs0:W0.heap.size = q + 1:=by rw [← hW0,← hq]; simp
 have hdk:IsI dr:=by have:=hok.1; rw [← hdr]; exact this
 have HD:=Lib.hid (fun W hE => dec_any dr N0 W hE hdk)
 rw [hdS] at HD
 have HH:=Lib.hid (And.intro h (And.intro hE (And.intro hlow (And.intro he (And.intro hok (And.intro hcs1 (And.intro hn1 (And.intro hn2 (And.intro k0 (And.intro hs0 hn.2.2))))))))))
 have HV:=Lib.hid (And.intro (show e.fv = .slice o2 n2 c2 from by rw [hv2,hn2]) hfr)
 have HB:=Lib.hid hb
 have HE0:=Lib.hid (hE.kept k0.none)
 have HB0:=Lib.hid b0
 have e0:=blk_cell b0 0
 have e1:=blk_cell b0 1
 have e2:=blk_cell b0 2
 simp at e0 e1 e2
 have HNow:=Lib.hid (Keep.refl (fun _ => False) W0)
 clear h hE hlow he hok hcs1 hn1 hn2 k0 hs0 hb b0 hv1 hv2 hdk hn hdr hdS hfr
 obtain ⟨iS,hi0,hi1,hi2,hi3⟩:=infoS
 have HI:=Lib.hid (And.intro hi0 (And.intro hi1 (And.intro hi2 hi3)))
 clear hi0 hi1 hi2 hi3
 go_enter Tryz.func67,Tryz.ntmps67
 go_wp2_with (go_at_call 62; refine (HD.out _ (HE0.out.kept HNow.out.none)).mono ?_; rintro e' w' ⟨rfl,kx⟩; have HNow:=Lib.hid ((HNow.out.trans kx).alloc (.cells #[.string ⟨#[101,110,100]⟩,.string (strB dS)] 9)); have f1:=cell_kept HNow.out e1; have f2:=cell_kept HNow.out e2; have HR0:=Lib.hid (row_new w' (q + 1) 9 ([[101,110,100],dS].map encS) (by have:=kx.size; have:=HH.out.2.2.2.2.2.2.2.2.2.1; omega) (by unfold maxLen; simp)); clear kx)
 go_loopg [4,6,7,17] n1 (fun gq s4 s6 s7 s17 wr => ∃ k:Nat,gq + k = n1 ∧ s17 = .int .i64 (k:Int) ∧ Hid (wr.ownsRow (q + 1) 9 1 s4 (k + 2) (([101,110,100] :: dS :: (e.ks.take k).map (fun k => keepT k.k)).map encS) ∧ Keep (fun _ => False) W0 wr))
 case atStart => exact ⟨0,by omega,rfl,HR0.out,HNow.out⟩
 case round =>
  obtain ⟨k,hgk,rfl,hrow,hkp⟩:=hrel
  have HK:=Lib.hid (And.intro hrow hkp)
  by_cases hk:k < n1
  ·have hkI:(k:Int) < (n1:Int):=by omega
   have hk0:(0:Int) ≤ (k:Int):=by omega
   have hkl:k < e.ks.length:=by rw [HH.out.2.2.2.2.2.2.1]; exact hk
   obtain ⟨g,f,rfl,hgl⟩:=HH.out.2.2.2.2.2.1.some (by rw [flatc_len _ 2 (fun _ => rfl)]; omega)
   have hcs2:=HH.out.2.2.2.2.2.1.kept (HH.out.2.2.2.2.2.2.2.2.1.trans hkp)
   have d0:=hcs2.get 2 (fun _ => rfl) (List.getElem?_eq_getElem hkl) 0 (by omega)
   have d1:=hcs2.get 2 (fun _ => rfl) (List.getElem?_eq_getElem hkl) 1 (by omega)
   unfold MK.cells at d0 d1
   simp at d0 d1
   have hj:=HH.out.2.2.2.1.junk _ (List.getElem_mem hkl)
   have hjn:=HH.out.2.2.2.2.2.2.2.2.2.2 _ (List.getElem_mem hkl)
   have hok:=HH.out.2.2.2.2.1.2.1 _ (List.mem_map.2 ⟨_,List.getElem_mem hkl,rfl⟩)
   have htk:e.ks.take (k + 1) = e.ks.take k ++ [e.ks[k]]:=by rw [List.take_add_one,List.getElem?_eq_getElem hkl]; rfl
   have hsn:[101,110,100] :: dS :: (e.ks.take (k + 1)).map (fun k => keepT k.k) = ([101,110,100] :: dS :: (e.ks.take k).map (fun k => keepT k.k)) ++ [keepT (e.ks[k]).k]:=by rw [htk]; simp only [List.map_append,List.map_cons,List.map_nil,List.cons_append]
   obtain ⟨o3,c3,hv3,hcap3,hcs3,-⟩:=hj
   obtain ⟨kp,hkp2⟩:∃ kp,(e.ks[k]).k = kp:=⟨_,rfl⟩
   rw [hkp2] at hok hv3 hcap3 hcs3 hjn hsn d0
   rw [hv3] at d1
   obtain ⟨nj,hnj⟩:∃ n,kp.n = n:=⟨_,rfl⟩
   obtain ⟨J,hJ⟩:∃ J,kp.junk = J:=⟨_,rfl⟩
   obtain ⟨m,hm⟩:∃ m,J.length = m:=⟨_,rfl⟩
   obtain ⟨sN,hsN⟩:∃ s,decS nj = s:=⟨_,rfl⟩
   have hkT:keepT kp = sN ++ (if J = [] then [] else 58 :: pairsS (J.take 65536)):=by unfold keepT; rw [hnj,hJ,hsN]
   rw [hnj] at hok d0
   rw [hJ] at hcap3 hcs3 hjn d1
   rw [hm] at hcap3 hjn d1
   have HD2:=Lib.hid (fun W hE => dec_any nj N0 W hE hok)
   rw [hsN] at HD2
   have HS:=Lib.hid (And.intro hsn (And.intro hcs3 (And.intro hcap3 (And.intro hm hkT))))
   obtain ⟨q2,hq2⟩:∃ q2,wr.heap.size = q2:=⟨_,rfl⟩
   obtain ⟨W1,hW1⟩:∃ W1,wr.alloc (.cells #[.int .i64 nj,.slice o3 m c3] 84) = W1:=⟨_,rfl⟩
   have b1:W1.heap[q2]? = some (.cells #[.int .i64 nj,.slice o3 m c3] 84 (0,0)):=by rw [← hW1,← hq2]; exact blk_new _ _
   have k1:Keep (fun _ => False) wr W1:=by rw [← hW1]; exact (Keep.refl _ wr).alloc _
   have HK1:=Lib.hid k1
   have x0:=blk_cell b1 0
   have x1:=blk_cell b1 1
   simp at x0 x1
   have HN1:=Lib.hid (Keep.refl (fun _ => False) W1)
   have hev1:=Lib.hid (HE0.out.kept (hkp.trans k1).none)
   have HSN:=Lib.hid (show sN.length ≤ 21 from by rw [← hsN]; exact Lib.itoa_length_le nj hok.1 hok.2)
   clear hrow hkp hcs2 hkp2 hv3 hcap3 hcs3 hnj hJ hm hsN hkT hok hsn htk hkl b1 k1 f1 f2
   by_cases h0:m = 0
   ·subst h0
    go_wp2_with (first
     | (go_at_call 62; refine (HD2.out _ (hev1.out.kept HN1.out.none)).mono ?_; rintro e' w' ⟨rfl,kx⟩; have y1:=cell_kept kx x1; have HN1:=Lib.hid (HN1.out.trans kx); clear kx)
     | (at_builtin; refine wpList_append_own_at _ rfl (.tmp 39) (.tmp 41) 22 rfl (q + 1) 9 iS _ 1 16 Tryz.underlying22 HI.out.1 HI.out.2.1 HI.out.2.2.1 HI.out.2.2.2 rfl (by decide) u4 (k + 2) _ rfl (row_keep HK.out.1 ((HK1.out.trans HN1.out).alloc _) fun _ _ => id) ⟨_,0,none⟩ 1 1 [.string (strB sN)] rfl rfl (cell_one_new _ _ _) (by simp [Value.oneCell']) (by unfold maxLen; omega) (by omega) (by have:=HN1.out.size; have:=HK1.out.size; have:=HK.out.2.size; have:=HH.out.2.2.2.2.2.2.2.2.2.1; simp; omega) ?_; intro v4 w4 hown hgr _ _; have HQ:=Lib.hid (And.intro hown (grow_row (row_keep HK.out.1 (HK1.out.trans HN1.out) fun _ _ => id) hgr)); clear hown hgr))
    go_roundg (gk - 1)
    all_goals first | omega | skip
    case rel =>
     refine ⟨k + 1,by omega,by simp,?_,((HK.out.2.trans HK1.out).trans HN1.out).own HQ.out.2 fun i hi => Or.inr (by have:=HH.out.2.2.2.2.2.2.2.2.2.1; omega)⟩
     have h:=HQ.out.1
     rw [HS.out.1,HS.out.2.2.2.2,if_pos (List.length_eq_zero_iff.1 HS.out.2.2.2.1),List.append_nil,List.map_append]
     exact h
   ·have hm0:(0:Int) < (m:Int):=by omega
    obtain ⟨g3,f3,rfl,hg3⟩:=HS.out.2.1.some (by rw [u8v_len,HS.out.2.2.2.1]; omega)
    obtain ⟨P,hP⟩:∃ P,(J.take 65536).length = P:=⟨_,rfl⟩
    have hmn:min (m:Int) 65536 = (P:Int):=by rw [← hP,List.length_take,HS.out.2.2.2.1]; omega
    have hPm:P ≤ m:=by rw [← hP,List.length_take,HS.out.2.2.2.1]; omega
    have HPX:=Lib.hid (fun W k => pairs_any (some ⟨g3,f3,none⟩) c3 (J.take 65536) W ((csat_take (HS.out.2.1) 65536).kept k) (by rw [hP]; omega))
    rw [hP] at HPX
    have hP0:(0:Int) ≤ (P:Int):=by omega
    have hPc:(P:Int) ≤ (c3:Int):=by have:=HS.out.2.2.1; omega
    have hc3:¬ c3 = 0:=by have:=HS.out.2.2.1; omega
    have hjt:J ≠ []:=fun e => h0 (by rw [← HS.out.2.2.2.1,e]; rfl)
    obtain ⟨sP,hsP⟩:∃ s,pairsS (J.take 65536) = s:=⟨_,rfl⟩
    rw [hsP] at HPX
    have HS2:=Lib.hid (show keepT kp = sN ++ 58 :: sP from by rw [HS.out.2.2.2.2,if_neg hjt,hsP])
    have hz1:¬ 9223372036854775807 < 1 + (strB sP).size:=by
     have:=pairsS_len (J.take 65536)
     rw [strB_size,← hsP]
     rw [List.length_take] at this
     omega
    have hz2:¬ 9223372036854775807 < (strB sN).size + (1 + (strB sP).size):=by
     have:=pairsS_len (J.take 65536)
     rw [strB_size,strB_size,← hsP]
     rw [List.length_take] at this
     have:=HSN.out
     omega
    obtain ⟨sT,hsT⟩:∃ s,sN ++ 58 :: sP = s:=⟨_,rfl⟩
    have hcat:strB sN ++ (⟨#[58]⟩ ++ strB sP) = strB sT:=by rw [← hsT]; exact strB_cat sN sP
    rw [hsT] at HS2
    clear hP hsP hjt hg3 hsT
    go_wp2_with (first
     | (go_at_call 62; refine (HD2.out _ (hev1.out.kept HN1.out.none)).mono ?_; rintro e' w' ⟨rfl,kx⟩; have y1:=cell_kept kx x1; have HN1:=Lib.hid (HN1.out.trans kx); clear kx)
     | (go_at_call 94; refine (HPX.out _ (((HH.out.2.2.2.2.2.2.2.2.1.trans HK.out.2).trans HK1.out).trans HN1.out)).mono ?_; rintro e' w' ⟨rfl,kx⟩; have HN1:=Lib.hid (HN1.out.trans kx); clear kx)
     | (at_builtin; refine wpList_append_own_at _ rfl (.tmp 39) (.tmp 41) 22 rfl (q + 1) 9 iS _ 1 16 Tryz.underlying22 HI.out.1 HI.out.2.1 HI.out.2.2.1 HI.out.2.2.2 rfl (by decide) u4 (k + 2) _ rfl (row_keep HK.out.1 ((HK1.out.trans HN1.out).alloc _) fun _ _ => id) ⟨_,0,none⟩ 1 1 [.string (strB sT)] rfl rfl (cell_one_new _ _ _) (by simp [Value.oneCell']) (by unfold maxLen; omega) (by omega) (by have:=HN1.out.size; have:=HK1.out.size; have:=HK.out.2.size; have:=HH.out.2.2.2.2.2.2.2.2.2.1; simp; omega) ?_; intro v4 w4 hown hgr _ _; have HQ:=Lib.hid (And.intro hown (grow_row (row_keep HK.out.1 (HK1.out.trans HN1.out) fun _ _ => id) hgr)); clear hown hgr))
    go_roundg (gk - 1)
    all_goals first | omega | skip
    case rel =>
     refine ⟨k + 1,by omega,by simp,?_,((HK.out.2.trans HK1.out).trans HN1.out).own HQ.out.2 fun i hi => Or.inr (by have:=HH.out.2.2.2.2.2.2.2.2.2.1; omega)⟩
     have h:=HQ.out.1
     rw [HS.out.1,HS2.out,List.map_append]
     exact h
  ·obtain rfl:k = n1:=by omega
   have hkI:¬ (k:Int) < (k:Int):=by omega
   rw [List.take_of_length_le (by rw [HH.out.2.2.2.2.2.2.1]; exact Nat.le_refl _)] at hrow
   obtain ⟨ws,hws⟩:∃ ws,[101,110,100] :: dS :: e.ks.map (fun k => keepT k.k) = ws:=⟨_,rfl⟩
   have hwl:ws.length = k + 2:=by rw [← hws]; simp [HH.out.2.2.2.2.2.2.1]
   rw [hws] at hrow HT
   rw [← hwl] at hrow
   have hbase:=hrow
   obtain ⟨o,cap,rfl,-,hcap,hwat⟩:=WsAt.of_row hrow
   obtain ⟨g,f,rfl,-,hgl⟩:=hwat 0 (by omega)
   have hgb:q + 1 ≤ g:=by
    rcases hbase.2 with ⟨h1,-⟩ | ⟨g',c',cur,h1,h2,-⟩
    ·cases h1
    ·cases h1; exact h2
   have hpr:=HH.out.1.kept (HH.out.2.2.2.2.2.2.2.2.1.trans hkp)
   have hgo:own g = none:=HH.out.1.past (by omega)
   have hB:=HB.out
   rw [HT.out,← List.append_assoc] at hB
   have HPU:=Lib.hid (put_any g f cap ws hpr hwat hgo hcap (by omega) (by rw [List.length_append] at hB; omega))
   rw [hwl] at HPU ⊢
   have hqo:own q = none:=HH.out.1.past (Nat.le_of_eq hq)
   have HG:=Lib.hid (fun (w2:World) (B2:Str) (own2:Nat → Option T) (v2:Value) (hp:Pr w2 own2 xb v2 B2) (ht:To own own2 wr w2) (hle:(B2 ++ faultsS e.fs).length ≤ 1099511627776) => by
    have htw:To own own2 w w2:=(To.kept (HH.out.2.2.2.2.2.2.2.2.1.trans hkp)).trans ht
    have hsl:=HH.out.2.2.2.1.faults.to htw (fun h0 => HV.out.2 (by unfold fsv at h0; rw [flatc_len _ 3 (fun _ => rfl)] at h0; omega))
    exact pfaults_any N0 e.fv e.fs hp (HH.out.2.1.on (htw.keep.below HH.out.2.1.le HH.out.2.2.1)) (fun g hg => by
     rcases Nat.lt_or_ge g w.heap.size with h | h
     ·refine HH.out.2.2.1 g fun e0 => hg (htw.old g h e0)
     ·exact Nat.le_trans HH.out.2.1.le h) hsl.1 (fun h0 => hsl.2 (by unfold fsv; rw [flatc_len _ 3 (fun _ => rfl)]; omega)) (fun f hf => HH.out.2.2.2.2.1.2.2 f hf) (by have:=HH.out.2.2.2.2.2.2.2.1; omega) hle)
   rw [HV.out.1] at HG
   have hf2:=cell_kept hkp e2
   have HX:=Lib.hid (And.intro hf2 (And.intro hqo (And.intro (lt_of_block (hkp.same HB0.out id)) hB)))
   have HKP:=Lib.hid hkp
   clear hrow hkp HK hws hwl hbase hcap hwat hgl hgb hpr hgo hB hqo f1 f2 hf2
   go_wp2_with (first
    | (go_at_call 61; refine HPU.out.mono ?_; rintro e' w2 ⟨rfl,own2,v2,hp2,ht2⟩; have hc2:=(ht2.keep.cell (p:=⟨q,2,none⟩) HX.out.2.2.1 (by rw [HX.out.2.1]; simp)).trans HX.out.1; have HF2:=Lib.hid (HG.out w2 _ own2 v2 hp2 ht2 HX.out.2.2.2); have HT2:=Lib.hid ht2; clear hp2 ht2)
    | (go_at_call 65; refine HF2.out.mono ?_; rintro e' w3 ⟨rfl,hpt⟩; have HP3:=Lib.hid hpt; clear hpt))
   go_end0
   obtain ⟨own3,v3,hp3,ht3⟩:=HP3.out
   refine ⟨rfl,own3,v3,?_,((To.kept (HH.out.2.2.2.2.2.2.2.2.1.trans HKP.out)).trans HT2.out).trans ht3⟩
   rw [HT.out,← List.append_assoc]
   exact hp3

def txtS (u:Nat):Str:=(txt u).data.toList
theorem txtS_b (u:Nat):strB (txtS u) = txt u:=(str_of rfl).symm
def headS (p:Play):Str:=putL [[112,108,97,121],decS p.disk,decS p.segMax,decS p.base,decS p.qcap,decS p.qbytes,decS p.pmost,decS p.pbytes,txtS p.linger,txtS p.alpha] ++ putL [[109,111,115,116],decS p.most]
def taskS (l:List Call):Str:=putL [[116,97,115,107]] ++ l.flatMap callT
def picksS (l:List Int):Str:=if l = [] then [] else putL ([112,105,99,107,115] :: l.map decS)
def fullS (p:Play):Str:=headS p ++ faultsS p.faults ++ p.tasks.flatMap taskS ++ picksS p.picks ++ p.ends.flatMap endT
structure PlayOk (p:Play):Prop where
 disk:IsI p.disk
 segMax:IsI p.segMax
 base:IsI p.base
 qcap:IsI p.qcap
 qbytes:IsI p.qbytes
 pmost:IsI p.pmost
 pbytes:IsI p.pbytes
 linger:p.linger < 18446744073709551616
 alpha:p.alpha < 18446744073709551616
 most:IsI p.most
 faults:∀ f ∈ p.faults,FaultOk f
 calls:∀ l ∈ p.tasks,∀ c ∈ l,IsI c.lsn
 picks:∀ n ∈ p.picks,IsI n
 ends:∀ r ∈ p.ends,EndOk r
theorem to_cell {w w':World} {own own':Nat → Option T} {q i:Nat} {u:Value} (t:To own own' w w') (hq:own q = none) (h:w.cell? ⟨q,i,none⟩ = some u):w'.cell? ⟨q,i,none⟩ = some u:=
 (t.keep.cell (p:=⟨q,i,none⟩) (World.block_lt_of_cell? w _ h) (by rw [hq]; simp)).trans h
structure Pn (w0 w:World) (own:Nat → Option T):Prop where
 keep:Keep (fun _ => False) w0 w
 low:∀ g,own g ≠ none → w0.heap.size ≤ g
theorem Pn.to {w0 w w':World} {own own':Nat → Option T} (h:Pn w0 w own) (t:To own own' w w'):Pn w0 w' own':=
 ⟨h.keep.own t.keep fun i hi => Or.inr (h.low i hi),fun g hg => by
  rcases Nat.lt_or_ge g w.heap.size with h1 | h1
  ·exact h.low g fun e => hg (t.old g h1 e)
  ·exact Nat.le_trans h.keep.size h1⟩
theorem Pn.kept {w0 w w':World} {own:Nat → Option T} (h:Pn w0 w own) (k:Keep (fun _ => False) w w'):Pn w0 w' own:=⟨h.keep.trans k,h.low⟩
theorem Pn.free {w0 w:World} {own:Nat → Option T} (h:Pn w0 w own) {v:Value} {n:Nat} {xs:List Value} (hs:SlAt w0 v n xs):0 < xs.length → ∀ o cap n,v = .slice (some o) n cap → own o.block = none:=by
 obtain ⟨o,cap,rfl,-,hc,-⟩:=hs
 intro hx o' cap' n' e
 cases e
 obtain ⟨g,f,e,-,hl⟩:=hc 0 hx
 cases e
 cases hq:own g with
 | none => rfl
 | some t => have:=h.low g (by rw [hq]; simp); omega
structure St (w0 ws:World) (own0:Nat → Option T) (q xb:Nat) (t:TypeId) (cs:Array Value) (W:World) (own:Nat → Option T) (v:Value) (B:Str):Prop where
 pr:Pr W own xb v B
 pn:Pn w0 W own
 bk:W.heap[q]? = some (.cells cs t (0,0))
 qo:own q = none
 tt:To own0 own ws W
theorem St.kept {w0 ws W W':World} {own0 own:Nat → Option T} {q xb:Nat} {t:TypeId} {cs:Array Value} {v:Value} {B:Str} (h:St w0 ws own0 q xb t cs W own v B) (k:Keep (fun _ => False) W W'):St w0 ws own0 q xb t cs W' own v B:=
 ⟨h.pr.kept k,h.pn.kept k,k.same h.bk id,h.qo,h.tt.trans (To.kept k)⟩
theorem St.step {w0 ws W W':World} {own0 own:Nat → Option T} {q xb:Nat} {t:TypeId} {cs:Array Value} {v:Value} {B B':Str} (h:St w0 ws own0 q xb t cs W own v B) (p:Puts W own xb B' W'):∃ own' v',St w0 ws own0 q xb t cs W' own' v' B':=by
 obtain ⟨own',v',hp,ht⟩:=p
 exact ⟨own',v',hp,h.pn.to ht,ht.keep.same h.bk (by rw [h.qo]; simp),ht.old q (lt_of_block h.bk) h.qo,h.tt.trans ht⟩
theorem St.cell {w0 ws W:World} {own0 own:Nat → Option T} {q xb:Nat} {t:TypeId} {cs:Array Value} {v:Value} {B:Str} (h:St w0 ws own0 q xb t cs W own v B) {i:Nat} {u:Value} (hu:cs[i]? = some u):W.cell? ⟨q,i,none⟩ = some u:=by
 rw [blk_cell h.bk i,hu]
def taskM (t:MT):Str:=putL [[116,97,115,107]] ++ t.l.flatMap (fun c => callT c.c)
def endM (e:ME):Str:=endT e.reopen
theorem fullS_is (m:M):fullS m.play = headS m.play ++ faultsS m.fs ++ m.ts.flatMap taskM ++ picksS m.ps ++ m.es.flatMap endM:=by
 unfold fullS
 have e1:m.play.tasks.flatMap taskS = m.ts.flatMap taskM:=by
  show (m.ts.map (fun t => t.l.map (·.c))).flatMap taskS = _
  rw [List.flatMap_map]
  have:(fun a:MT => taskS (a.l.map (·.c))) = taskM:=by
   funext t
   unfold taskS taskM
   rw [List.flatMap_map]
  rw [this]
 have e2:m.play.ends.flatMap endT = m.es.flatMap endM:=by
  show (m.es.map ME.reopen).flatMap endT = _
  rw [List.flatMap_map]
  rfl
 rw [e1,e2]
 rfl
theorem flat_split {α:Type} (f:α → Str) (l:List α) (k:Nat) (h:k < l.length):l.flatMap f = (l.take k).flatMap f ++ (f l[k] ++ (l.drop (k + 1)).flatMap f):=by
 rw [← List.flatMap_cons,← List.drop_eq_getElem_cons h,← List.flatMap_append,List.take_append_drop]
theorem flat_next {α:Type} (f:α → Str) (l:List α) (k:Nat) (h:k < l.length):(l.take (k + 1)).flatMap f = (l.take k).flatMap f ++ f l[k]:=by
 have:l.take (k + 1) = l.take k ++ [l[k]]:=by rw [List.take_add_one,List.getElem?_eq_getElem h]; rfl
 rw [this,List.flatMap_append]
 simp only [List.flatMap_cons,List.flatMap_nil,List.append_nil]

theorem off_add (a m i:Nat) (h:m ≤ i):a + m + (i - m) = a + i:=by omega
theorem bulk_one {H:Type} (d:DataW H):1 ≤ Rows.uptoBulk d:=by
 cases d with
 | lit l => cases l <;> simp [Rows.uptoBulk]
 | nil => simp [Rows.uptoBulk]
 | ptr d => simp [Rows.uptoBulk]
 | slice elems spare => simp [Rows.uptoBulk]
 | agg parts => simp [Rows.uptoBulk]
 | iface t d => simp [Rows.uptoBulk]
 | map entries => simp [Rows.uptoBulk]
 | held h => simp [Rows.uptoBulk]
theorem bulk_app {H:Type} (a b:List (DataW H)):Rows.uptoBulkAll (a ++ b) = Rows.uptoBulkAll a + Rows.uptoBulkAll b:=by
 induction a with
 | nil => simp [Rows.uptoBulkAll]
 | cons x a ih => simp only [List.cons_append,Rows.uptoBulkAll,ih]; omega
section
variable {H:Type} {enc:TypeId × Value → H} {w:World} {base:Nat} {spare:Nat → Bool} {held:Bool}

theorem wf_float {fuel:Nat} {t:TypeId} {cs:List Value} {x:DataW H × List MemPlace} (ht:Tryz.prog.underlying t = some (.float .f64)) (h:DataW.trod enc Tryz.prog w base spare held fuel t cs = some x):∃ n,cs = [.float .f64 n] ∧ x = (.lit (.float .f64 n),[]) ∧ n < 18446744073709551616:=by
 obtain ⟨n,rfl,rfl⟩:=trod_float ht h
 refine ⟨n,rfl,rfl,?_⟩
 cases fuel with
 | zero => simp [DataW.trod] at h
 | succ m =>
  simp [DataW.trod,ht,Lit.wf] at h
  exact h
theorem wf_i64 {n:Int} (h:(Lit.int .i64 n).wf = true):IsI n:=by
 simpa [Lit.wf,IntKind.min,IntKind.max,IntKind.signed,IntKind.bits,IsI] using h
theorem open_slm {α:Type} (cl:α → List Value) (μ:α → Nat) (Q:α → Prop) (k:Nat) (hk:∀ x,(cl x).length = k) (hk0:0 < k) {t e:TypeId} {fuel:Nat} {cs:List Value} {x:DataW H × List MemPlace} (ht:Tryz.prog.underlying t = some (.slice e)) (hC:Tryz.prog.cellsOf e = k)
  (hel:∀ n cs' y,cs'.length = k → DataW.trod enc Tryz.prog w base spare held n e cs' = some y → ∃ z,cs' = cl z ∧ Q z ∧ μ z ≤ Rows.uptoBulk y.1) (h:DataW.trod enc Tryz.prog w base spare held fuel t cs = some x) :
  ∃ (zs:List α) (v:Value),cs = [v] ∧ SlAt w v zs.length (zs.flatMap cl) ∧ (∀ z ∈ zs,Q z) ∧ (zs.map μ).sum + 1 ≤ Rows.uptoBulk x.1 ∧ zs.length ≤ maxLen:=by
 rcases Go.Deep.open_slice ht h with ⟨rfl,rfl⟩ | ⟨a,len,cap,m,n,D,Pl,rfl,hb,hl,hm,hmm,rfl,hi⟩
 ·exact ⟨[],_,rfl,⟨none,0,rfl,Nat.le_refl _,fun i hi => by simp at hi,fun _ => rfl⟩,fun z hz => by simp at hz,by simp [Rows.uptoBulk],Nat.zero_le _⟩
 ·have hlm:len ≤ m:=by subst hmm; split <;> omega
  rw [hC] at hi
  have hspot:0 < len → a.spot = none:=by
   intro h0
   obtain ⟨cs0,hc0,-⟩:=hi 0 (by omega)
   obtain ⟨_,hcl0,hat0⟩:=World.cells?_some hc0
   have hx0:=hat0 0 (by omega)
   cases hsp:a.spot with
   | none => rfl
   | some s =>
    exfalso
    have:cs0[0]? = some (cs0[0]'(by omega)):=List.getElem?_eq_getElem _
    rw [this] at hx0
    simp [Addr.add,World.cell?,hsp] at hx0
    split at hx0 <;> simp at hx0
  have key:∀ j,j ≤ len → ∃ zs:List α,zs.length = j ∧ (∀ z ∈ zs,Q z) ∧ (zs.map μ).sum ≤ Rows.uptoBulkAll ((List.range j).map D) ∧ ∀ i u,(zs.flatMap cl)[i]? = some u → w.cell? (a.add i) = some u:=by
   intro j
   induction j with
   | zero => exact fun _ => ⟨[],rfl,fun z hz => by simp at hz,by simp,fun i u h => by simp at h⟩
   | succ j ih =>
    intro hj
    obtain ⟨zs,h1,h2,h3,h4⟩:=ih (by omega)
    obtain ⟨cs',hc,ht'⟩:=hi j (by omega)
    obtain ⟨_,hcl,hat⟩:=World.cells?_some hc
    obtain ⟨z,rfl,hq,hmu⟩:=hel _ _ _ hcl ht'
    refine ⟨zs ++ [z],by simp [h1],fun y hy => ?_,?_,fun i u hu => ?_⟩
    ·rcases List.mem_append.1 hy with hy | hy
     ·exact h2 y hy
     ·obtain rfl:y = z:=by simpa using hy
      exact hq
    ·rw [List.range_succ,List.map_append,List.map_append,bulk_app,List.sum_append]
     have hmu2:μ z ≤ Rows.uptoBulk (D j):=hmu
     simp [Rows.uptoBulkAll]
     omega
    ·have hfl:(zs.flatMap cl).length = j * k:=by rw [flatc_len cl k hk,h1,Nat.mul_comm]
     rw [List.flatMap_append] at hu
     rcases Nat.lt_or_ge i (j * k) with hlt | hge
     ·rw [List.getElem?_append_left (by rw [hfl]; exact hlt)] at hu
      exact h4 i u hu
     ·rw [List.getElem?_append_right (by rw [hfl]; exact hge),hfl] at hu
      have hu':(cl z)[i - j * k]? = some u:=by simpa using hu
      have hlt:=(List.getElem?_eq_some_iff.1 hu').1
      rw [hk] at hlt
      have:=hat (i - j * k) hlt
      rw [hu'] at this
      rw [← this]
      have hsp:=hspot (by omega)
      have e:(a.add (j * k)).add (i - j * k) = a.add i:=by
       obtain ⟨ab,ao,sp⟩:=a
       simp only at hsp
       subst hsp
       rw [addr_add,addr_add,addr_add,off_add _ _ _ hge]
      rw [e]
  obtain ⟨zs,h1,h2,h3,h4⟩:=key len (Nat.le_refl _)
  refine ⟨zs,_,rfl,⟨some a,cap,by rw [h1],by rw [h1]; exact hl,fun i hi' => ?_,fun e => nomatch e⟩,h2,?_,by rw [h1]; exact Nat.le_trans hl hm⟩
  ·have hz0:0 < len:=by
    rcases Nat.eq_zero_or_pos len with h0 | h0
    ·rw [h0] at h1
     rw [List.length_eq_zero_iff.1 h1] at hi'
     simp at hi'
    ·exact h0
   obtain ⟨ab,ao,sp⟩:=a
   obtain rfl:sp = none:=hspot hz0
   have hc:=h4 i _ (List.getElem?_eq_getElem hi')
   rw [addr_add] at hc
   exact ⟨ab,ao,rfl,by rw [hc,List.getElem?_eq_getElem hi'],World.block_lt_of_cell? w _ hc⟩
  ·simp only [Rows.uptoBulk]
   omega
theorem open_sl {α:Type} (cl:α → List Value) (μ:α → Nat) (Q:α → Prop) (k:Nat) (hk:∀ x,(cl x).length = k) (hk0:0 < k) {t e:TypeId} {fuel:Nat} {cs:List Value} {x:DataW H × List MemPlace} (ht:Tryz.prog.underlying t = some (.slice e)) (hC:Tryz.prog.cellsOf e = k)
  (hel:∀ n cs' y,cs'.length = k → DataW.trod enc Tryz.prog w base spare held n e cs' = some y → ∃ z,cs' = cl z ∧ Q z ∧ μ z ≤ Rows.uptoBulk y.1) (h:DataW.trod enc Tryz.prog w base spare held fuel t cs = some x) :
  ∃ (zs:List α) (v:Value),cs = [v] ∧ SlAt w v zs.length (zs.flatMap cl) ∧ (∀ z ∈ zs,Q z) ∧ (zs.map μ).sum + 1 ≤ Rows.uptoBulk x.1:=by
 obtain ⟨zs,v,h1,h2,h3,h4,-⟩:=open_slm cl μ Q k hk hk0 ht hC hel h
 exact ⟨zs,v,h1,h2,h3,h4⟩
theorem op_u8 {n:Nat} {cs':List Value} {y:DataW H × List MemPlace} (h:DataW.trod enc Tryz.prog w base spare held n 5 cs' = some y):∃ z:UInt8,cs' = [Value.int .u8 (z.toNat:Int)] ∧ True ∧ 1 ≤ Rows.uptoBulk y.1:=by
 obtain ⟨z,rfl,-,h4⟩:=DataW.trod_int Tryz.underlying5 h
 have h5:0 ≤ z ∧ z ≤ 255:=by simpa [Lit.wf,IntKind.min,IntKind.max,IntKind.signed,IntKind.bits] using h4
 obtain ⟨q,rfl⟩:=Int.eq_ofNat_of_zero_le h5.1
 refine ⟨UInt8.ofNat q,?_,trivial,bulk_one _⟩
 have:(UInt8.ofNat q).toNat = q:=by rw [UInt8.toNat_ofNat']; omega
 rw [this]
theorem sum_ones {α:Type} (l:List α):(l.map fun _ => 1).sum = l.length:=by
 induction l with
 | nil => rfl
 | cons x l ih => simp only [List.map_cons,List.sum_cons,ih,List.length_cons]; omega
theorem op_bytes {fuel:Nat} {cs:List Value} {x:DataW H × List MemPlace} (h:DataW.trod enc Tryz.prog w base spare held fuel 53 cs = some x):∃ (s:Str) (v:Value),cs = [v] ∧ SlAt w v s.length (u8v s) ∧ s.length + 1 ≤ Rows.uptoBulk x.1:=by
 obtain ⟨zs,v,h1,h2,-,h4⟩:=open_sl (fun z:UInt8 => [Value.int .u8 (z.toNat:Int)]) (fun _ => 1) (fun _ => True) 1 (fun _ => rfl) (by decide) Tryz.underlying53 (by kernel_rfl) (fun n cs' y _ h => op_u8 h) h
 rw [sum_ones] at h4
 refine ⟨zs,v,h1,?_,h4⟩
 have:zs.flatMap (fun z:UInt8 => [Value.int .u8 (z.toNat:Int)]) = u8v zs:=by
  unfold u8v
  clear h2 h4
  induction zs with
  | nil => rfl
  | cons z r ih => rw [List.flatMap_cons,ih]; rfl
 rw [← this]
 exact h2
theorem op_ints {fuel:Nat} {cs:List Value} {x:DataW H × List MemPlace} (h:DataW.trod enc Tryz.prog w base spare held fuel 37 cs = some x):∃ (l:List Int) (v:Value),cs = [v] ∧ SlAt w v l.length (l.map (Value.int .i64)) ∧ (∀ n ∈ l,IsI n) ∧ l.length + 1 ≤ Rows.uptoBulk x.1:=by
 obtain ⟨zs,v,h1,h2,h3,h4⟩:=open_sl (fun z:Int => [Value.int .i64 z]) (fun _ => 1) IsI 1 (fun _ => rfl) (by decide) Tryz.underlying37 (by kernel_rfl) (fun n cs' y _ h => by
  obtain ⟨z,rfl,-,h4⟩:=DataW.trod_int Tryz.underlying3 h
  exact ⟨z,rfl,wf_i64 h4,bulk_one _⟩) h
 rw [sum_ones] at h4
 refine ⟨zs,v,h1,?_,h3,h4⟩
 have:zs.flatMap (fun z:Int => [Value.int .i64 z]) = zs.map (Value.int .i64):=by
  clear h2 h3 h4
  induction zs with
  | nil => rfl
  | cons z r ih => rw [List.flatMap_cons,ih]; rfl
 rw [← this]
 exact h2
theorem op_faults {fuel:Nat} {cs:List Value} {x:DataW H × List MemPlace} (h:DataW.trod enc Tryz.prog w base spare held fuel 35 cs = some x):∃ (l:List Fault) (v:Value),cs = [v] ∧ SlAt w v l.length (fsv l) ∧ (∀ n ∈ l,FaultOk n) ∧ l.length + 1 ≤ Rows.uptoBulk x.1:=by
 obtain ⟨zs,v,h1,h2,h3,h4⟩:=open_sl fcells (fun _ => 1) FaultOk 3 (fun _ => rfl) (by decide) Tryz.underlying35 (by kernel_rfl) (fun n cs' y hl h => by
  match cs',hl with
  | [c0,c1,c2],_ =>
   obtain ⟨x0,x1,x2,m,-,-,h0,h1,h2⟩:=Go.Deep.trod_struct3 Tryz.underlying114 h
   ·skip
    have k0:Tryz.prog.cellsOf 3 = 1:=by kernel_rfl
    have k1:Tryz.prog.cellsOf 2 = 1:=by kernel_rfl
    simp only [k0,k1,List.drop_zero,List.drop_succ_cons,List.take_succ_cons,List.take_zero,List.take_nil,List.getElem?_cons_zero,List.getElem?_cons_succ] at h0 h1 h2
    obtain ⟨z0,e0,-,f0⟩:=DataW.trod_int Tryz.underlying2 h0
    obtain ⟨z1,e1,-,f1⟩:=DataW.trod_int Tryz.underlying3 h1
    obtain ⟨z2,e2,-,f2⟩:=DataW.trod_int Tryz.underlying3 h2
    obtain rfl:c0 = .int .i64 z0:=by simpa using e0
    obtain rfl:c1 = .int .i64 z1:=by simpa using e1
    obtain rfl:c2 = .int .i64 z2:=by simpa using e2
    exact ⟨⟨z0,z1,z2⟩,rfl,⟨wf_i64 f0,wf_i64 f2⟩,bulk_one _⟩) h
 rw [sum_ones] at h4
 exact ⟨zs,v,h1,h2,h3,h4⟩
def wC (c:MC):Nat:=c.c.data.length + 1
def wT (t:MT):Nat:=(t.l.map wC).sum + 1
def wK (k:MK):Nat:=k.k.junk.length + 1
def wE (e:ME):Nat:=(e.ks.map wK).sum + e.fs.length + 1
def CallQ (w:World) (c:MC):Prop:=SlAt w c.d c.c.data.length (u8v c.c.data) ∧ IsI c.c.lsn ∧ IsI c.c.kind
def TaskQ (w:World) (t:MT):Prop:=TaskS w t ∧ ∀ c ∈ t.l,IsI c.c.lsn ∧ IsI c.c.kind
def EndQ (w:World) (e:ME):Prop:=EndS w e ∧ EndOk e.reopen
theorem op_calls {fuel:Nat} {cs:List Value} {x:DataW H × List MemPlace} (h:DataW.trod enc Tryz.prog w base spare held fuel 56 cs = some x):∃ t:MT,cs = [t.v] ∧ TaskQ w t ∧ wT t ≤ Rows.uptoBulk x.1:=by
 obtain ⟨zs,v,h1,h2,h3,h4⟩:=open_sl MC.cells wC (CallQ w) 3 (fun _ => rfl) (by decide) Tryz.underlying56 (by kernel_rfl) (fun n cs' y hl h => by
  match cs',hl with
  | [c0,c1,c2],_ =>
   obtain ⟨x0,x1,x2,m,hy,-,h0,h1,h2⟩:=Go.Deep.trod_struct3 Tryz.underlying76 h
   ·skip
    have k0:Tryz.prog.cellsOf 3 = 1:=by kernel_rfl
    have k1:Tryz.prog.cellsOf 2 = 1:=by kernel_rfl
    have k2:Tryz.prog.cellsOf 53 = 1:=by kernel_rfl
    simp only [k0,k1,k2,List.drop_zero,List.drop_succ_cons,List.take_succ_cons,List.take_zero,List.take_nil,List.getElem?_cons_zero,List.getElem?_cons_succ] at h0 h1 h2
    obtain ⟨z0,e0,-,f0⟩:=DataW.trod_int Tryz.underlying3 h0
    obtain ⟨z1,e1,-,f1⟩:=DataW.trod_int Tryz.underlying2 h1
    obtain ⟨s,v,e2,hs,hb⟩:=op_bytes h2
    obtain rfl:c0 = .int .i64 z0:=by simpa using e0
    obtain rfl:c1 = .int .i64 z1:=by simpa using e1
    obtain rfl:c2 = v:=by simpa using e2
    refine ⟨⟨⟨z0,z1,s⟩,c2⟩,rfl,⟨hs,wf_i64 f1,wf_i64 f0⟩,?_⟩
    rw [hy]
    simp only [Rows.uptoBulk,Rows.uptoBulkAll,wC]
    omega) h
 exact ⟨⟨v,zs⟩,h1,⟨⟨h2,fun c hc => (h3 c hc).1⟩,fun c hc => (h3 c hc).2⟩,h4⟩
theorem op_tasks {fuel:Nat} {cs:List Value} {x:DataW H × List MemPlace} (h:DataW.trod enc Tryz.prog w base spare held fuel 36 cs = some x):∃ (l:List MT) (v:Value),cs = [v] ∧ SlAt w v l.length (l.map (·.v)) ∧ (∀ t ∈ l,TaskQ w t) ∧ (l.map wT).sum + 1 ≤ Rows.uptoBulk x.1:=by
 obtain ⟨zs,v,h1,h2,h3,h4⟩:=open_sl (fun t:MT => [t.v]) wT (TaskQ w) 1 (fun _ => rfl) (by decide) Tryz.underlying36 (by kernel_rfl) (fun n cs' y hl h => by
  obtain ⟨t,h5,h6,h7⟩:=op_calls h
  exact ⟨t,h5,h6,h7⟩) h
 refine ⟨zs,v,h1,?_,h3,h4⟩
 have:zs.flatMap (fun t:MT => [t.v]) = zs.map (·.v):=by
  clear h2 h3 h4
  induction zs with
  | nil => rfl
  | cons z r ih => rw [List.flatMap_cons,ih]; rfl
 rw [← this]
 exact h2
theorem op_keeps {fuel:Nat} {cs:List Value} {x:DataW H × List MemPlace} (h:DataW.trod enc Tryz.prog w base spare held fuel 78 cs = some x):∃ (l:List MK) (v:Value),cs = [v] ∧ SlAt w v l.length (l.flatMap MK.cells) ∧ (∀ k ∈ l,SlAt w k.d k.k.junk.length (u8v k.k.junk) ∧ IsI k.k.n) ∧ (l.map wK).sum + 1 ≤ Rows.uptoBulk x.1:=by
 exact open_sl MK.cells wK (fun k => SlAt w k.d k.k.junk.length (u8v k.k.junk) ∧ IsI k.k.n) 2 (fun _ => rfl) (by decide) Tryz.underlying78 (by kernel_rfl) (fun n cs' y hl h => by
  match cs',hl with
  | [c0,c1],_ =>
   obtain ⟨x0,x1,m,hy,-,h0,h1⟩:=trod_struct2 Tryz.underlying84 h
   ·skip
    have k0:Tryz.prog.cellsOf 3 = 1:=by kernel_rfl
    have k2:Tryz.prog.cellsOf 53 = 1:=by kernel_rfl
    simp only [k0,k2,List.drop_zero,List.drop_succ_cons,List.take_succ_cons,List.take_zero,List.take_nil,List.getElem?_cons_zero,List.getElem?_cons_succ] at h0 h1
    obtain ⟨z0,e0,-,f0⟩:=DataW.trod_int Tryz.underlying3 h0
    obtain ⟨s,v,e2,hs,hb⟩:=op_bytes h1
    obtain rfl:c0 = .int .i64 z0:=by simpa using e0
    obtain rfl:c1 = v:=by simpa using e2
    refine ⟨⟨⟨z0,s⟩,c1⟩,rfl,⟨hs,wf_i64 f0⟩,?_⟩
    rw [hy]
    simp only [Rows.uptoBulk,Rows.uptoBulkAll,wK]
    omega) h
theorem op_ends {fuel:Nat} {cs:List Value} {x:DataW H × List MemPlace} (h:DataW.trod enc Tryz.prog w base spare held fuel 38 cs = some x):∃ (l:List ME) (v:Value),cs = [v] ∧ SlAt w v l.length (l.flatMap ME.cells) ∧ (∀ e ∈ l,EndQ w e) ∧ (l.map wE).sum + 1 ≤ Rows.uptoBulk x.1:=by
 exact open_sl ME.cells wE (EndQ w) 3 (fun _ => rfl) (by decide) Tryz.underlying38 (by kernel_rfl) (fun n cs' y hl h => by
  match cs',hl with
  | [c0,c1,c2],_ =>
   obtain ⟨x0,x1,m,hy,-,h0,h1⟩:=trod_struct2 Tryz.underlying82 h
   ·skip
    have k0:Tryz.prog.cellsOf 3 = 1:=by kernel_rfl
    have k2:Tryz.prog.cellsOf 78 = 1:=by kernel_rfl
    have k3:Tryz.prog.cellsOf 80 = 2:=by kernel_rfl
    have k4:Tryz.prog.cellsOf 35 = 1:=by kernel_rfl
    simp only [k3,k4,List.drop_zero,List.drop_succ_cons,List.take_succ_cons,List.take_zero,List.take_nil,List.getElem?_cons_zero,List.getElem?_cons_succ] at h0 h1
    obtain ⟨x2,x3,m2,hy2,-,h2,h3⟩:=trod_struct2 Tryz.underlying80 h0
    ·skip
     simp only [k0,k2,List.drop_zero,List.drop_succ_cons,List.take_succ_cons,List.take_zero,List.take_nil,List.getElem?_cons_zero,List.getElem?_cons_succ] at h2 h3
     obtain ⟨z0,e0,-,f0⟩:=DataW.trod_int Tryz.underlying3 h2
     obtain ⟨ks,kv,e1,hk1,hk2,hb1⟩:=op_keeps h3
     obtain ⟨fs,fv,e2,hf1,hf2,hb2⟩:=op_faults h1
     obtain rfl:c0 = .int .i64 z0:=by simpa using e0
     obtain rfl:c1 = kv:=by simpa using e1
     obtain rfl:c2 = fv:=by simpa using e2
     refine ⟨⟨z0,c1,ks,c2,fs⟩,rfl,⟨⟨hk1,fun k hk => (hk2 k hk).1,hf1⟩,⟨wf_i64 f0,fun k hk => ?_,hf2⟩⟩,?_⟩
     ·obtain ⟨k',hk',rfl⟩:=List.mem_map.1 hk
      exact (hk2 k' hk').2
     ·rw [hy,hy2]
      simp only [Rows.uptoBulk,Rows.uptoBulkAll,wE]
      omega) h
def wP (m:M):Nat:=m.fs.length + (m.ts.map wT).sum + m.ps.length + (m.es.map wE).sum
theorem op_pace {fuel:Nat} {c0 c1 c2 c3:Value} {x:DataW H × List MemPlace} (h:DataW.trod enc Tryz.prog w base spare held fuel 32 [c0,c1,c2,c3] = some x) :
  ∃ (a b:Int) (l m:Nat),c0 = .int .i64 a ∧ c1 = .int .i64 b ∧ c2 = .float .f64 l ∧ c3 = .float .f64 m ∧ IsI a ∧ IsI b ∧ l < 18446744073709551616 ∧ m < 18446744073709551616:=by
 obtain ⟨x0,x1,x2,x3,n',-,-,h0,h1,h2,h3⟩:=Go.Joins.trod_struct4 Tryz.underlying32 h
 ·skip
  have k0:Tryz.prog.cellsOf 3 = 1:=by kernel_rfl
  have k1:Tryz.prog.cellsOf 30 = 1:=by kernel_rfl
  simp only [k0,k1,List.drop_zero,List.drop_succ_cons,List.take_succ_cons,List.take_zero,List.take_nil,List.getElem?_cons_zero,List.getElem?_cons_succ] at h0 h1 h2 h3
  obtain ⟨z0,e0,-,f0⟩:=DataW.trod_int Tryz.underlying3 h0
  obtain ⟨z1,e1,-,f1⟩:=DataW.trod_int Tryz.underlying3 h1
  obtain ⟨z2,e2,-,f2⟩:=wf_float Tryz.underlying30 h2
  obtain ⟨z3,e3,-,f3⟩:=wf_float Tryz.underlying30 h3
  exact ⟨z0,z1,z2,z3,by simpa using e0,by simpa using e1,by simpa using e2,by simpa using e3,wf_i64 f0,wf_i64 f1,f2,f3⟩
theorem op_engine {fuel:Nat} {c0 c1 c2 c3 c4 c5 c6 c7:Value} {x:DataW H × List MemPlace} (h:DataW.trod enc Tryz.prog w base spare held fuel 34 [c0,c1,c2,c3,c4,c5,c6,c7] = some x) :
  ∃ (a b c d e f:Int) (l m:Nat),c0 = .int .i64 a ∧ c1 = .int .i64 b ∧ c2 = .int .i64 c ∧ c3 = .int .i64 d ∧ c4 = .int .i64 e ∧ c5 = .int .i64 f ∧ c6 = .float .f64 l ∧ c7 = .float .f64 m ∧ IsI a ∧ IsI b ∧ IsI c ∧ IsI d ∧ IsI e ∧ IsI f ∧ l < 18446744073709551616 ∧ m < 18446744073709551616:=by
 obtain ⟨x0,x1,x2,x3,n',-,-,h0,h1,h2,h3⟩:=Go.Joins.trod_struct4 Tryz.underlying34 h
 ·skip
  have k0:Tryz.prog.cellsOf 3 = 1:=by kernel_rfl
  have k1:Tryz.prog.cellsOf 2 = 1:=by kernel_rfl
  have k2:Tryz.prog.cellsOf 29 = 2:=by kernel_rfl
  have k3:Tryz.prog.cellsOf 32 = 4:=by kernel_rfl
  simp only [k0,k2,k3,List.drop_zero,List.drop_succ_cons,List.take_succ_cons,List.take_zero,List.take_nil,List.getElem?_cons_zero,List.getElem?_cons_succ] at h0 h1 h2 h3
  obtain ⟨y0,y1,m2,-,-,g0,g1⟩:=trod_struct2 Tryz.underlying29 h0
  ·skip
   simp only [k0,k1,List.drop_zero,List.drop_succ_cons,List.take_succ_cons,List.take_zero,List.take_nil,List.getElem?_cons_zero,List.getElem?_cons_succ] at g0 g1
   obtain ⟨z0,e0,-,f0⟩:=DataW.trod_int Tryz.underlying3 g0
   obtain ⟨z1,e1,-,f1⟩:=DataW.trod_int Tryz.underlying2 g1
   obtain ⟨z2,e2,-,f2⟩:=DataW.trod_int Tryz.underlying3 h1
   obtain ⟨z3,e3,-,f3⟩:=DataW.trod_int Tryz.underlying3 h2
   obtain ⟨z4,z5,z6,z7,e4,e5,e6,e7,f4,f5,f6,f7⟩:=op_pace h3
   exact ⟨z0,z1,z2,z3,z4,z5,z6,z7,by simpa using e0,by simpa using e1,by simpa using e2,by simpa using e3,e4,e5,e6,e7,wf_i64 f0,wf_i64 f1,wf_i64 f2,wf_i64 f3,f4,f5,f6,f7⟩
theorem len14 {l:List Value} (h:l.length = 14):∃ c0 c1 c2 c3 c4 c5 c6 c7 c8 c9 c10 c11 c12 c13,l = [c0,c1,c2,c3,c4,c5,c6,c7,c8,c9,c10,c11,c12,c13]:=by
 match l,h with
 | [c0,c1,c2,c3,c4,c5,c6,c7,c8,c9,c10,c11,c12,c13],_ => exact ⟨_,_,_,_,_,_,_,_,_,_,_,_,_,_,rfl⟩
theorem trod_struct7 {t:TypeId} {f0 f1 f2 f3 f4 f5 f6:Field} {fuel:Nat} {cs:List Value} {x:DataW H × List MemPlace} (ht:Tryz.prog.underlying t = some (.struct #[f0,f1,f2,f3,f4,f5,f6])) (h:DataW.trod enc Tryz.prog w base spare held fuel t cs = some x) :
  ∃ y0 y1 y2 y3 y4 y5 y6 n,x.1 = .agg [y0.1,y1.1,y2.1,y3.1,y4.1,y5.1,y6.1] ∧ cs.length = Tryz.prog.cellsOf t ∧ DataW.trod enc Tryz.prog w base spare held n f0.type ((cs.drop f0.offset).take (Tryz.prog.cellsOf f0.type)) = some y0 ∧ DataW.trod enc Tryz.prog w base spare held n f1.type ((cs.drop f1.offset).take (Tryz.prog.cellsOf f1.type)) = some y1 ∧ DataW.trod enc Tryz.prog w base spare held n f2.type ((cs.drop f2.offset).take (Tryz.prog.cellsOf f2.type)) = some y2 ∧ DataW.trod enc Tryz.prog w base spare held n f3.type ((cs.drop f3.offset).take (Tryz.prog.cellsOf f3.type)) = some y3 ∧ DataW.trod enc Tryz.prog w base spare held n f4.type ((cs.drop f4.offset).take (Tryz.prog.cellsOf f4.type)) = some y4 ∧ DataW.trod enc Tryz.prog w base spare held n f5.type ((cs.drop f5.offset).take (Tryz.prog.cellsOf f5.type)) = some y5 ∧ DataW.trod enc Tryz.prog w base spare held n f6.type ((cs.drop f6.offset).take (Tryz.prog.cellsOf f6.type)) = some y6:=by
 obtain ⟨xs,n,_,rfl,hl,hlen,hf⟩:=DataW.trod_struct ht h
 match xs,hlen with
 | [y0,y1,y2,y3,y4,y5,y6],_ => exact ⟨y0,y1,y2,y3,y4,y5,y6,n,by simp,hl,by simpa using hf 0 f0 rfl,by simpa using hf 1 f1 rfl,by simpa using hf 2 f2 rfl,by simpa using hf 3 f3 rfl,by simpa using hf 4 f4 rfl,by simpa using hf 5 f5 rfl,by simpa using hf 6 f6 rfl⟩
theorem op_play {fuel:Nat} {cs:List Value} {x:DataW H × List MemPlace} (h:DataW.trod enc Tryz.prog w base spare held fuel 40 cs = some x) :
  ∃ m:M,cs = m.val.toList ∧ Seen w m ∧ PlayOk m.play ∧ wP m ≤ Rows.uptoBulk x.1:=by
 obtain ⟨y0,y1,y2,y3,y4,y5,y6,n,hx,hl,g0,g1,g2,g3,g4,g5,g6⟩:=trod_struct7 Tryz.underlying40 h
 have kp:Tryz.prog.cellsOf 40 = 14:=by kernel_rfl
 rw [kp] at hl
 obtain ⟨c0,c1,c2,c3,c4,c5,c6,c7,c8,c9,c10,c11,c12,c13,rfl⟩:=len14 hl
 have k0:Tryz.prog.cellsOf 3 = 1:=by kernel_rfl
 have k1:Tryz.prog.cellsOf 34 = 8:=by kernel_rfl
 have k2:Tryz.prog.cellsOf 35 = 1:=by kernel_rfl
 have k3:Tryz.prog.cellsOf 36 = 1:=by kernel_rfl
 have k4:Tryz.prog.cellsOf 37 = 1:=by kernel_rfl
 have k5:Tryz.prog.cellsOf 38 = 1:=by kernel_rfl
 simp only [k0,k1,k2,k3,k4,k5,List.drop_zero,List.drop_succ_cons,List.take_succ_cons,List.take_zero,List.take_nil] at g0 g1 g2 g3 g4 g5 g6
 obtain ⟨z0,e0,-,f0⟩:=DataW.trod_int Tryz.underlying3 g0
 obtain ⟨z1,z2,z3,z4,z5,z6,z7,z8,rfl,rfl,rfl,rfl,rfl,rfl,rfl,rfl,f1,f2,f3,f4,f5,f6,f7,f8⟩:=op_engine g1
 obtain ⟨fs,fv,e2,hf1,hf2,hb2⟩:=op_faults g2
 obtain ⟨ts,tv,e3,ht1,ht2,hb3⟩:=op_tasks g3
 obtain ⟨ps,pv,e4,hp1,hp2,hb4⟩:=op_ints g4
 obtain ⟨z9,e5,-,f9⟩:=DataW.trod_int Tryz.underlying3 g5
 obtain ⟨es,ev,e6,he1,he2,hb6⟩:=op_ends g6
 obtain rfl:c0 = .int .i64 z0:=by simpa using e0
 obtain rfl:c9 = fv:=by simpa using e2
 obtain rfl:c10 = tv:=by simpa using e3
 obtain rfl:c11 = pv:=by simpa using e4
 obtain rfl:c12 = .int .i64 z9:=by simpa using e5
 obtain rfl:c13 = ev:=by simpa using e6
 refine ⟨⟨z0,z1,z2,z3,z4,z5,z6,z7,z8,c9,fs,c10,ts,c11,ps,z9,c13,es,0⟩,rfl,⟨hf1,ht1,fun t ht => (ht2 t ht).1,hp1,he1,fun e he => (he2 e he).1⟩,
  ⟨wf_i64 f0,f1,f2,f3,f4,f5,f6,f7,f8,wf_i64 f9,hf2,fun l hl c hc => ?_,hp2,fun r hr => ?_⟩,?_⟩
 ·obtain ⟨t,ht,rfl⟩:=List.mem_map.1 hl
  obtain ⟨c',hc',rfl⟩:=List.mem_map.1 hc
  exact ((ht2 t ht).2 c' hc').1
 ·obtain ⟨e,he,rfl⟩:=List.mem_map.1 hr
  exact (he2 e he).2
 ·rw [hx]
  show fs.length + (ts.map wT).sum + ps.length + (es.map wE).sum ≤ _
  simp only [Rows.uptoBulk,Rows.uptoBulkAll]
  omega
end
end Sc
end Go.Proofs.YtkkecpamnnojoaaGreatDoor
