/- A part of the proof of ScriptPrints: nothing is assumed. By an AI agent. -/
import Derived.Test.YtkkecpamnnojoaaGreatDoorBp04
import GoSem.PinnedTables
import Derived.Deep.CutBlock
set_option linter.unusedVariables false
set_option linter.unusedSimpArgs false
set_option maxRecDepth 100000
set_option maxHeartbeats 32000000
namespace Go.Proofs.YtkkecpamnnojoaaGreatDoor
open Go.ChangeShapes Go.WideShapes Go.ChangeAt Go.RowKit
open Bt Dc
def RgQ (b k:Nat) (σ:DS) (n:Nat) (w:World) (e:Ending) (w':World):Prop:=
 e = .returned (.tuple #[]) ∧ RowKit.Hid ((∃ (τ:DS) (m:Nat),DAt w' b τ ∧ Dc.Ok τ m ∧ σ.dp - 20 ≤ τ.dp ∧ τ.dp ≤ σ.dp ∧ (3 ≤ k → τ.dp < σ.dp ∨ (56 ≤ σ.d 0 ∧ τ.d 0 = 49))) ∧ Keep (· = b) w w')

structure Rd (D:Nat → Nat) (K r x:Nat):Prop where
 zero:r = 0 → x = 0
 pow:1 ≤ r → 10 ^ (r - 1) ≤ x
 one:r = 1 → x = D 0 - 48
 top:x < 10 * K
theorem Rd.start (D:Nat → Nat) {K:Nat} (hK:1 ≤ K):Rd D K 0 0:=⟨fun _ => rfl,fun h => by omega,fun h => by omega,by omega⟩
theorem Rd.pos {D:Nat → Nat} {K r x:Nat} (h:Rd D K r x) (h1:1 ≤ r):1 ≤ x:=Nat.le_trans (Nat.pow_pos (by omega)) (h.pow h1)
theorem Rd.next {D:Nat → Nat} {K r x n:Nat} (h:Rd D K r x) (hx:x < K) (g:Dc.Good D n) (hr:r < n):Rd D K (r + 1) (10 * x + (D r - 48)) ∧ x < 10 * x + (D r - 48):=by
 have hd:=g.dig r hr
 by_cases h0:r = 0
 ·subst h0
  have e:=h.zero rfl
  subst e
  have:=g.lead
  refine ⟨⟨fun h => by omega,fun _ => ?_,fun _ => by omega,by omega⟩,by omega⟩
  show 10 ^ 0 ≤ _
  rw [Nat.pow_zero]; omega
 ·have hp:=h.pow (by omega)
  have h1:=h.pos (by omega)
  refine ⟨⟨fun h => by omega,fun _ => ?_,fun h => by omega,by omega⟩,by omega⟩
  rw [show r + 1 - 1 = (r - 1) + 1 by omega,Nat.pow_succ]; omega
theorem Rd.more {D:Nat → Nat} {K r x:Nat} (h:Rd D K r x) (hx:x < K) (h1:1 ≤ r):Rd D K (r + 1) (10 * x) ∧ x < 10 * x:=by
 have hp:=h.pow h1
 have h2:=h.pos h1
 refine ⟨⟨fun h => by omega,fun _ => ?_,fun h => by omega,by omega⟩,by omega⟩
 rw [show r + 1 - 1 = (r - 1) + 1 by omega,Nat.pow_succ]; omega
theorem Rd.few {D:Nat → Nat} {K r x:Nat} (h:Rd D K r x) (hK:K ≤ 1152921504606846976):r ≤ 20:=by
 refine Nat.le_of_not_lt fun hr => ?_
 have hp:=h.pow (by omega)
 have ht:=h.top
 have:10 ^ 20 ≤ 10 ^ (r - 1):=Nat.pow_le_pow_right (by omega) (by omega)
 have e:(10:Nat) ^ 20 = 100000000000000000000:=by decide
 omega

theorem read_wrap {x d K:Nat} (hx:x < K) (hK:K ≤ 1152921504606846976) (hd:48 ≤ d ∧ d ≤ 57):IntKind.u64.wrap (IntKind.u64.wrap (IntKind.u64.wrap ((x:Int) * 10) + IntKind.u64.wrap (d:Int)) - 48) = ((10 * x + (d - 48):Nat):Int):=by
 simp only [IntKind.wrap_u64]; omega
theorem ten_wrap {x K:Nat} (hx:x < K) (hK:K ≤ 1152921504606846976):IntKind.u64.wrap ((x:Int) * 10) = ((10 * x:Nat):Int):=by
 simp only [IntKind.wrap_u64]; omega
theorem quo_zero {x K:Nat} (hx:x < K):((x:Int) / (K:Int) == 0) = true:=by rw [beq_iff_eq]; exact Int.ediv_eq_zero_of_lt (by omega) (by omega)
theorem quo_some {x K:Nat} (h1:1 ≤ K) (hx:K ≤ x):((x:Int) / (K:Int) == 0) = false:=by
 rw [beq_eq_false_iff_ne]
 have:1 ≤ x / K:=(Nat.le_div_iff_mul_le (by omega)).2 (by omega)
 have e:(x:Int) / (K:Int) = ((x / K:Nat):Int):=rfl
 rw [e]; omega

theorem and_mask {k K x:Nat} (hK:K = 2 ^ k) (hK60:K ≤ 1152921504606846976) (hx:x < 10 * K):bits BinOp.and IntKind.u64 (x:Int) ((K:Int) - 1) = ((x % K:Nat):Int):=by
 have hp:0 < K:=by rw [hK]; exact Nat.two_pow_pos k
 have e:(K:Int) - 1 = ((K - 1:Nat):Int):=by omega
 have hm:x % K < K:=Nat.mod_lt _ hp
 rw [e]
 show IntKind.u64.wrap ((BitVec.ofInt 64 (x:Int) &&& BitVec.ofInt 64 ((K - 1:Nat):Int)).toNat:Int) = _
 have h1:(BitVec.ofInt 64 (x:Int)).toNat = x:=by rw [BitVec.ofInt_natCast,BitVec.toNat_ofNat]; omega
 have h2:(BitVec.ofInt 64 ((K - 1:Nat):Int)).toNat = 2 ^ k - 1:=by rw [BitVec.ofInt_natCast,BitVec.toNat_ofNat,← hK]; omega
 rw [BitVec.toNat_and,h1,h2,Nat.and_two_pow_sub_one_eq_mod,← hK,IntKind.wrap_u64]
 omega
theorem mask_is {K:Nat} (h1:1 ≤ K) (hK:K ≤ 1152921504606846976):IntKind.u64.wrap (IntKind.u64.wrap (K:Int) - 1) = (K:Int) - 1:=by
 simp only [IntKind.wrap_u64]; omega
theorem quo_nine {x K:Nat} (h1:1 ≤ K) (h:x < 10 * K):x / K ≤ 9:=by
 have:x / K < 10:=Nat.div_lt_of_lt_mul (by omega)
 omega
theorem quo_one {x K:Nat} (h1:1 ≤ K) (h:K ≤ x):1 ≤ x / K:=(Nat.le_div_iff_mul_le (by omega)).2 (by omega)
theorem byte_is {dg:Nat} (h:dg ≤ 9):IntKind.u64.wrap ((dg:Int) + 48) % 256 = ((48 + dg:Nat):Int):=by
 rw [IntKind.wrap_u64]; omega
structure RgI (b K k r n:Nat) (σ:DS) (P:Int) (w:World) (j x:Nat) (tr:Bool) (D':Nat → Nat) (wx:World):Prop where
 at_:DAt wx b { σ with dp:=P,d:=D',tr:=tr }
 rm:RM σ.d D' j
 first:j = 0 → K ≤ x
 top:x < 10 * K
 le:j ≤ 800
 lead:k = 3 → r = 1 → j ≠ 0 → D' 0 = 49
 lead0:j = 0 → k = 3 → r = 1 → x / K = 1
 keep:Keep (· = b) w wx
theorem RgI.put {b K k r n:Nat} {σ:DS} {P:Int} {w wx:World} {j x x2 dg:Nat} {tr:Bool} {D':Nat → Nat} (H:RgI b K k r n σ P w j x tr D' wx) (hK:1 ≤ K) (hj:j < 800) (hd:dg = x / K) (h2:x2 < 10 * K) :
  RgI b K k r n σ P w (j + 1) x2 tr (upd D' j (48 + dg)) (wx.setCell ⟨b,j,none⟩ (.int .u8 ((48 + dg:Nat):Int))):=by
 refine ⟨H.at_.sd hj,H.rm.put (by rw [hd]; exact quo_nine hK H.top) (fun h => by rw [hd]; exact quo_one hK (H.first h)),fun h => by omega,h2,by omega,fun h3 h1 _ => ?_,fun h => by omega,Keep.setCell (bs:=(· = b)) H.keep (p:=⟨b,j,none⟩) (Or.inl rfl) _⟩
 by_cases h0:j = 0
 ·subst h0
  rw [upd_at,hd,H.lead0 rfl h3 h1]
 ·rw [upd_ne _ _ (by omega)]
  exact H.lead h3 h1 h0

theorem right_any (b:Nat) (σ:DS) (n k:Nat) (w:World) (h:DAt w b σ) (ho:Dc.Ok σ n) (hk1:1 ≤ k) (hk2:k ≤ 60) (hp1:-1099511627776 ≤ σ.dp) (hp2:σ.dp ≤ 1099511627776) :
  Calls Tryz.prog 164 #[.pointer (some ⟨b,0,none⟩),.int .u64 (k:Int)] w (RgQ b k σ n w):=by
 have H:=Lib.hid (And.intro h ho)
 have HK:=Lib.hid (And.intro hk1 (And.intro hk2 (And.intro hp1 hp2)))
 have k0:(0:Int) ≤ (k:Int):=by omega
 have k64:(k:Int) < 64:=by omega
 clear h ho hk1 hk2 hp1 hp2
 go_enter Tryz.func164,Tryz.ntmps164
 obtain ⟨K,hK⟩:∃ K,K = 2 ^ k:=⟨_,rfl⟩
 have hKi:(2:Int) ^ k = (K:Int):=by rw [hK]; push_cast; rfl
 have hK1:1 ≤ K:=by rw [hK]; exact Nat.two_pow_pos k
 have hK60:K ≤ 1152921504606846976:=by
  rw [hK]
  exact Nat.le_trans (Nat.pow_le_pow_right (by omega) HK.out.2.1) (by decide)
 have HKK:=Lib.hid (And.intro hK (And.intro hK1 hK60))
 clear hK hK1 hK60
 go_upto_block 0 with fail
 go_cut [4,6] from 12 to 48 (fun s4 s6 wx => ∃ (r x:Nat),s4 = .int .i64 (r:Int) ∧ s6 = .int .u64 (x:Int) ∧ RowKit.Hid (Rd σ.d K r x ∧ K ≤ x ∧ 1 ≤ r ∧ ∃ n,wx = w.drewN n))
 case first =>
  go_wp2_with fail
  go_loopg [4,6] (10 * K) (fun gq s4 s6 wx => ∃ (r x:Nat),gq + x = 10 * K ∧ s4 = .int .i64 (r:Int) ∧ s6 = .int .u64 (x:Int) ∧ RowKit.Hid (Rd σ.d K r x ∧ r ≤ n ∧ ∃ n,wx = w.drewN n))
  case atStart => exact ⟨0,0,by omega,rfl,rfl,⟨Rd.start _ HKK.out.2.1,Nat.zero_le _,0,rfl⟩⟩
  case round =>
   obtain ⟨r,x,hgx,rfl,rfl,HR⟩:=hrel
   have hK1:=HKK.out.2.1
   by_cases hx:x < K
   ·have e0:((x:Int) / (K:Int) == 0) = true:=by rw [beq_iff_eq]; exact Int.ediv_eq_zero_of_lt (by omega) (by omega)
    have c0:wr.cell? ⟨b,800,none⟩ = some (.int .i64 (n:Int)):=by
     obtain ⟨q,hq⟩:=HR.out.2.2
     have:=H.out.1.cnd
     rw [H.out.2.nd] at this
     rw [hq]; exact this
    have f0:wr.frozen? ⟨b,800,none⟩ = false:=by
     obtain ⟨q,hq⟩:=HR.out.2.2
     rw [hq]; exact H.out.1.free 800
    have hr20:r ≤ 20:=HR.out.1.few HKK.out.2.2
    have hw1:wrap64 ((r:Int) + 1) = ((r + 1:Nat):Int):=by unfold wrap64; omega
    have HX:=Lib.hid (And.intro hx (And.intro hr20 hK1))
    by_cases hrn:r < n
    ·have hrn':¬ ((n:Nat):Int) ≤ (r:Int):=by omega
     have hle:=H.out.2.le
     have r8:(r:Int) < 800:=by omega
     have c1:wr.cell? ⟨b,r,none⟩ = some (.int .u8 ((σ.d r:Nat):Int)):=by
      obtain ⟨q,hq⟩:=HR.out.2.2
      rw [hq]; exact H.out.1.digit (i:=r) (by omega)
     have hn:=HR.out.1.next hx H.out.2.good hrn
     have HN:=Lib.hid (And.intro hn (And.intro hrn (H.out.2.good.dig r hrn)))
     clear hx hr20 hK1 hle hn hrn
     go_wp2_with fail
     go_roundg (10 * K - (10 * x + (σ.d r - 48)))
     case measure => have:=HN.out.1.2; have:=HN.out.1.1.top; omega
     case rel => exact ⟨r + 1,10 * x + (σ.d r - 48),by have:=HN.out.1.1.top; omega,by first | rfl | (go_num; done),congrArg (Value.int .u64) (read_wrap HX.out.1 HKK.out.2.2 HN.out.2.2),⟨HN.out.1.1,HN.out.2.1,HR.out.2.2⟩⟩
    ·have hrn':((n:Nat):Int) ≤ (r:Int):=by omega
     have hr1:1 ≤ r:=by have:=H.out.2.good.one; omega
     have hx1:=HR.out.1.pos hr1
     have hxe:((x:Int) == 0) = false:=by rw [beq_eq_false_iff_ne]; omega
     have HR1:=Lib.hid hr1
     clear hx hr20 hK1 hrn hr1 hx1
     go_wp2_with fail
     go_loopg [4,6] (10 * K - x) (fun gq s4 s6 wx => ∃ (r x:Nat),gq + x = 10 * K ∧ s4 = .int .i64 (r:Int) ∧ s6 = .int .u64 (x:Int) ∧ RowKit.Hid (Rd σ.d K r x ∧ 1 ≤ r ∧ ∃ n,wx = w.drewN n))
     case atStart => exact ⟨r,x,by have:=HR.out.1.top; omega,rfl,rfl,⟨HR.out.1,HR1.out,HR.out.2.2⟩⟩
     case round =>
      obtain ⟨r2,x2,hgx2,rfl,rfl,HR2⟩:=hrel
      have hr20:r2 ≤ 20:=HR2.out.1.few HKK.out.2.2
      have hw2:wrap64 ((r2:Int) + 1) = ((r2 + 1:Nat):Int):=by unfold wrap64; omega
      clear hr20
      by_cases hx2:x2 < K
      ·have e2:=quo_zero hx2
       have HX2:=Lib.hid hx2
       have hn:=HR2.out.1.more hx2 HR2.out.2.1
       have HN:=Lib.hid hn
       clear hx2 hn e0
       go_wp2_with fail
       go_roundg (10 * K - 10 * x2)
       case measure => have:=HN.out.2; have:=HN.out.1.top; omega
       case rel => exact ⟨r2 + 1,10 * x2,by have:=HN.out.1.top; omega,by first | rfl | (go_num; done),congrArg (Value.int .u64) (ten_wrap HX2.out HKK.out.2.2),⟨HN.out.1,by omega,HR2.out.2.2⟩⟩
      ·have e2:=quo_some HKK.out.2.1 (show K ≤ x2 by omega)
       have HX2:=Lib.hid (show K ≤ x2 by omega)
       clear hx2 e0
       go_wp2_with fail
       go_meet
       exact ⟨r2,x2,rfl,rfl,⟨HR2.out.1,HX2.out,HR2.out.2.1,HR2.out.2.2⟩⟩
   ·have e2:=quo_some HKK.out.2.1 (show K ≤ x by omega)
    have HX2:=Lib.hid (show K ≤ x by omega)
    have hr1:RowKit.Hid (1 ≤ r):=Lib.hid (by
     refine Nat.pos_of_ne_zero fun e => ?_
     have:=HR.out.1.zero e
     omega)
    clear hx hK1
    go_wp2_with fail
    go_meet
    exact ⟨r,x,rfl,rfl,⟨HR.out.1,HX2.out,hr1.out,HR.out.2.2⟩⟩
 case rest =>
  obtain ⟨r,x,rfl,rfl,HR⟩:=hcut
  generalize wc = w1 at *
  have hw1:DAt w1 b σ:=by
   obtain ⟨q,hq⟩:=HR.out.2.2.2
   rw [hq]; exact H.out.1
  have c0:=hw1.cdp
  have f0:=hw1.free 801
  go_upto_block 4 with fail
  have hM:=mask_is HKK.out.2.1 HKK.out.2.2
  have hr20:=HR.out.1.few HKK.out.2.2
  have hDP:wrap64 (σ.dp - wrap64 ((r:Int) - 1)) = σ.dp - ((r:Int) - 1):=by have:=HK.out.2.2; have:=HR.out.2.2.1; unfold wrap64; omega
  rw [hM,hDP]
  obtain ⟨M,hMe⟩:∃ M:Int,M = (K:Int) - 1:=⟨_,rfl⟩
  rw [← hMe]
  have HM:=Lib.hid hMe
  have HDP:=Lib.hid (show σ.dp - ((r:Int) - 1) ≤ σ.dp ∧ σ.dp - 20 ≤ σ.dp - ((r:Int) - 1) ∧ (2 ≤ r → σ.dp - ((r:Int) - 1) < σ.dp) by have:=HR.out.2.2.1; omega)
  generalize σ.dp - ((r:Int) - 1) = P at *
  have H2:RowKit.Hid (DAt (w1.setCell ⟨b,801,none⟩ (.int .i64 P)) b { σ with dp:=P } ∧ Keep (· = b) w (w1.setCell ⟨b,801,none⟩ (.int .i64 P))):=Lib.hid ⟨hw1.sdp P,by
   obtain ⟨q,hq⟩:=HR.out.2.2.2
   rw [hq]
   exact Keep.setCell (bs:=(· = b)) ((Keep.refl _ w).drewN _) (p:=⟨b,801,none⟩) (Or.inl rfl) _⟩
  generalize w1.setCell ⟨b,801,none⟩ (.int .i64 P) = w2 at *
  clear c0 f0 hM hDP hMe hw1 hr20
  go_cut [4,5,6] from 61 to 96 (fun s4 s5 s6 wx => ∃ (j x:Nat),s5 = .int .i64 (j:Int) ∧ s6 = .int .u64 (x:Int) ∧ RowKit.Hid (∃ D',RgI b K k r n σ P w j x σ.tr D' wx))
  case first =>
   go_wp2_with fail
   go_loopg [4,5,6] (n + 1) (fun gq s4 s5 s6 wx => ∃ (q j x:Nat),gq + j = n + 1 ∧ s4 = .int .i64 (q:Int) ∧ s5 = .int .i64 (j:Int) ∧ s6 = .int .u64 (x:Int) ∧ RowKit.Hid (q = r + j ∧ ∃ D',RgI b K k r n σ P w j x σ.tr D' wx))
   case atStart =>
    refine ⟨r,0,x,by omega,rfl,rfl,rfl,rfl,σ.d,H2.out.1,RM.start _,fun _ => HR.out.2.1,HR.out.1.top,by omega,fun _ _ h => absurd rfl h,fun _ h3 h1 => ?_,H2.out.2⟩
    have hx:=HR.out.1.one h1
    have hd:=H.out.2.good.dig 0 H.out.2.good.one
    have hq:=quo_one HKK.out.2.1 HR.out.2.1
    have e8:K = 8:=by rw [HKK.out.1,h3]
    have hK8:=HR.out.2.1
    rw [hx] at hK8 ⊢
    rw [e8] at hK8 ⊢
    omega
   case round =>
    obtain ⟨q,j,x,hgj,rfl,rfl,rfl,HLq⟩:=hrel
    have hqj:=HLq.out.1
    obtain ⟨D',HL⟩:=HLq.out.2
    clear HLq
    have hle:=H.out.2.le
    have hr1:=HR.out.2.2.1
    have c8:wr.cell? ⟨b,800,none⟩ = some (.int .i64 (n:Int)):=by
     have:=HL.at_.cnd
     rw [← H.out.2.nd]; exact this
    have HLL:=Lib.hid HL
    by_cases hrn:q < n
    ·have hrn':(q:Int) < (n:Int):=by omega
     have q8:(q:Int) < 800:=by omega
     have j8:(j:Int) < 800:=by omega
     have hd:=H.out.2.good.dig q hrn
     have cq:wr.cell? ⟨b,q,none⟩ = some (.int .u8 ((σ.d q:Nat):Int)):=by
      have:=HL.at_.digit (i:=q) (by omega)
      rw [this]
      show some (Value.int _ ((D' q:Nat):Int)) = _
      rw [HL.rm.same q (by omega)]
     have fj:=HL.at_.free j
     have cj:=HL.at_.digit (i:=j) (by omega)
     obtain ⟨dg,hdg⟩:∃ dg,dg = x / K:=⟨_,rfl⟩
     have hdq:(x:Int) / (K:Int) = (dg:Int):=by rw [hdg]; rfl
     obtain ⟨x1,hx1⟩:∃ x1,x1 = x % K:=⟨_,rfl⟩
     have hA:bits BinOp.and IntKind.u64 (x:Int) M = (x1:Int):=by rw [HM.out,hx1]; exact and_mask HKK.out.1 HKK.out.2.2 HL.top
     have hx1K:x1 < K:=by rw [hx1]; exact Nat.mod_lt _ HKK.out.2.1
     have hdg9:dg ≤ 9:=by rw [hdg]; exact quo_nine HKK.out.2.1 HL.top
     have HF:=Lib.hid (And.intro hx1K (And.intro hdg9 (And.intro hdg (And.intro hd (And.intro hqj (And.intro hrn (show j < 800 by omega)))))))
     clear HL hrn hle hr1 hd hdg hx1 hx1K hdg9 hqj
     go_wp2_with fail
     rw [byte_is HF.out.2.1]
     go_roundg (gk - 1)
     case measure => have:=HF.out.2.2.2.2; omega
     case rel => exact ⟨q + 1,j + 1,10 * x1 + (σ.d q - 48),by have:=HF.out.2.2.2.2; omega,by first | rfl | (go_num; done),by first | rfl | (go_num; done),congrArg (Value.int .u64) (read_wrap HF.out.1 HKK.out.2.2 HF.out.2.2.2.1),⟨by have:=HF.out.2.2.2.2.1; omega,upd D' j (48 + dg),HLL.out.put HKK.out.2.1 HF.out.2.2.2.2.2.2 HF.out.2.2.1 (by have:=HF.out.1; have:=HF.out.2.2.2.1; omega)⟩⟩
    ·have hrn':¬ (q:Int) < (n:Int):=by omega
     clear HL hrn hle hr1
     go_wp2_with fail
     go_meet
     exact ⟨j,x,rfl,rfl,D',HLL.out⟩
  case rest =>
   obtain ⟨j,x3,rfl,rfl,HJ⟩:=hcut
   generalize wc = w3 at *
   go_upto_block 6 with fail
   go_cut [5,6] from 97 to 123 (fun s5 s6 wx => ∃ j:Nat,s5 = .int .i64 (j:Int) ∧ RowKit.Hid (∃ tr D',RgI b K k r n σ P w j 0 tr D' wx))
   case first =>
    go_wp2_with fail
    go_loopg [5,6] (k + 1) (fun gq s5 s6 wx => ∃ (j x:Nat),s5 = .int .i64 (j:Int) ∧ s6 = .int .u64 (x:Int) ∧ RowKit.Hid ((x = 0 ∨ ∃ t,t ≤ k ∧ 2 ^ t ∣ x ∧ gq + t = k + 1) ∧ ∃ tr D',RgI b K k r n σ P w j x tr D' wx))
    case atStart =>
     obtain ⟨D',hD⟩:=HJ.out
     exact ⟨j,x3,rfl,rfl,Or.inr ⟨0,by omega,by simp,by omega⟩,σ.tr,D',hD⟩
    case round =>
     obtain ⟨j,x,rfl,rfl,HLq⟩:=hrel
     obtain ⟨tr,D',HL⟩:=HLq.out.2
     have HT:=Lib.hid HLq.out.1
     have HLL:=Lib.hid HL
     clear HLq
     by_cases hx0:x = 0
     ·subst hx0
      clear HL
      go_wp2_with fail
      go_meet
      exact ⟨j,rfl,tr,D',HLL.out⟩
     ·have hx0':(0:Int) < (x:Int):=by omega
      obtain ⟨dg,hdg⟩:∃ dg,dg = x / K:=⟨_,rfl⟩
      have hdq:(x:Int) / (K:Int) = (dg:Int):=by rw [hdg]; rfl
      obtain ⟨x1,hx1⟩:∃ x1,x1 = x % K:=⟨_,rfl⟩
      have hA:bits BinOp.and IntKind.u64 (x:Int) M = (x1:Int):=by rw [HM.out,hx1]; exact and_mask HKK.out.1 HKK.out.2.2 HL.top
      have hx1K:x1 < K:=by rw [hx1]; exact Nat.mod_lt _ HKK.out.2.1
      have hdg9:dg ≤ 9:=by rw [hdg]; exact quo_nine HKK.out.2.1 HL.top
      have hstep:RowKit.Hid (∃ g2,g2 < gk ∧ (10 * x1 = 0 ∨ ∃ t,t ≤ k ∧ 2 ^ t ∣ 10 * x1 ∧ g2 + t = k + 1)):=by
       refine Lib.hid ?_
       rcases HT.out with h | ⟨t,ht,hdv,hg⟩
       ·exact absurd h hx0
       ·by_cases hk:t < k
        ·refine ⟨gk - 1,by omega,Or.inr ⟨t + 1,by omega,?_,by omega⟩⟩
         have:=rest_step hk hdv
         rw [← HKK.out.1,← hx1,Nat.mul_comm] at this
         exact this
        ·refine ⟨0,by omega,Or.inl ?_⟩
         have hkt:t = k:=by omega
         subst hkt
         have:=rest_end hdv
         rw [← HKK.out.1,← hx1,Nat.mul_comm] at this
         exact this
      have HF:=Lib.hid (And.intro hx1K (And.intro hdg9 (And.intro hdg hx0)))
      by_cases hj:j < 800
      ·have j8:(j:Int) < 800:=by omega
       have fj:=HL.at_.free j
       have cj:=HL.at_.digit (i:=j) (by omega)
       have HJ8:=Lib.hid hj
       clear HL hx0 hdg hx1 hx1K hdg9 hj
       go_wp2_with fail
       rw [byte_is HF.out.2.1]
       obtain ⟨g2,hg2,hst⟩:=hstep.out
       go_roundg g2
       case measure => exact hg2
       case rel => exact ⟨j + 1,10 * x1,by first | rfl | (go_num; done),congrArg (Value.int .u64) (ten_wrap HF.out.1 HKK.out.2.2),hst,tr,upd D' j (48 + dg),HLL.out.put HKK.out.2.1 HJ8.out HF.out.2.2.1 (by have:=HF.out.1; omega)⟩
      ·have j8:¬ (j:Int) < 800:=by omega
       have f3:=HL.at_.free 803
       have c3:=HL.at_.ctr
       have hj0:RowKit.Hid (j ≠ 0):=Lib.hid (by omega)
       by_cases hd0:dg = 0
       ·subst hd0
        clear HL hx0 hdg hx1 hx1K hdg9 hj
        go_wp2_with fail
        obtain ⟨g2,hg2,hst⟩:=hstep.out
        go_roundg g2
        case measure => exact hg2
        case rel => exact ⟨j,10 * x1,rfl,congrArg (Value.int .u64) (ten_wrap HF.out.1 HKK.out.2.2),hst,tr,D',⟨HLL.out.at_,HLL.out.rm,fun h => absurd h hj0.out,by have:=HF.out.1; omega,HLL.out.le,HLL.out.lead,fun h => absurd h hj0.out,HLL.out.keep⟩⟩
       ·have hd1:(0:Int) < (dg:Int):=by omega
        clear HL hx0 hdg hx1 hx1K hdg9 hj hd0
        go_wp2_with fail
        obtain ⟨g2,hg2,hst⟩:=hstep.out
        go_roundg g2
        case measure => exact hg2
        case rel => exact ⟨j,10 * x1,rfl,congrArg (Value.int .u64) (ten_wrap HF.out.1 HKK.out.2.2),hst,true,D',⟨HLL.out.at_.str true,HLL.out.rm,fun h => absurd h hj0.out,by have:=HF.out.1; omega,HLL.out.le,HLL.out.lead,fun h => absurd h hj0.out,Keep.setCell (bs:=(· = b)) HLL.out.keep (p:=⟨b,803,none⟩) (Or.inl rfl) _⟩⟩
   case rest =>
    obtain ⟨j,rfl,HE⟩:=hcut
    generalize wc = w4 at *
    obtain ⟨tr,D',HL⟩:=HE.out
    have hj1:1 ≤ j:=Nat.pos_of_ne_zero fun e => by have:=HL.first e; have:=HKK.out.2.1; omega
    have f8:=HL.at_.free 800
    have c8:=HL.at_.cnd
    have hok:Dc.Ok { σ with dp:=P,d:=D',tr:=tr,nd:=(j:Int) } j:=⟨⟨fun i hi => HL.rm.dig i hi,hj1,HL.rm.lead hj1⟩,rfl,HL.le⟩
    have HTr:=Lib.hid (trim_any b { σ with dp:=P,d:=D',tr:=tr,nd:=(j:Int) } j (w4.setCell ⟨b,800,none⟩ (.int .i64 (j:Int))) (HL.at_.snd _) hok)
    have HLL:=Lib.hid (And.intro HL hj1)
    clear hok HL hj1 HE
    go_wp2_with fail
    refine HTr.out.mono ?_
    rintro e w5 ⟨rfl,ho⟩
    have HO:=Lib.hid ho.out
    clear ho
    go_wp2_with fail
    go_end0
    obtain ⟨⟨n',h1,h2,h3⟩,hk⟩:=HO.out
    refine ⟨rfl,⟨_,n',h1,⟨h2,rfl,by have:=HLL.out.1.le; omega⟩,HDP.out.2.1,HDP.out.1,fun h3 => ?_⟩,(Keep.setCell (bs:=(· = b)) HLL.out.1.keep (p:=⟨b,800,none⟩) (Or.inl rfl) _).trans hk⟩
    by_cases hr2:2 ≤ r
    ·exact Or.inl (HDP.out.2.2 hr2)
    ·have hr1:r = 1:=by have:=HR.out.2.2.1; omega
     have hx:=HR.out.1.one hr1
     have hKx:=HR.out.2.1
     have hd:=H.out.2.good.dig 0 H.out.2.good.one
     have h8:2 ^ 3 ≤ 2 ^ k:=Nat.pow_le_pow_right (by omega) h3
     have e8:(2:Nat) ^ 3 = 8:=by decide
     rw [← HKK.out.1,e8] at h8
     have hk3:k = 3:=by
      refine Nat.le_antisymm (Nat.le_of_not_lt fun h4 => ?_) h3
      have h16:2 ^ 4 ≤ 2 ^ k:=Nat.pow_le_pow_right (by omega) h4
      have e16:(2:Nat) ^ 4 = 16:=by decide
      rw [← HKK.out.1,e16] at h16
      omega
     exact Or.inr ⟨by show 56 ≤ σ.d 0; omega,HLL.out.1.lead hk3 hr1 (by have:=HLL.out.2; omega)⟩
end Go.Proofs.YtkkecpamnnojoaaGreatDoor
namespace Go.Proofs.YtkkecpamnnojoaaGreatDoor
open Go.ChangeShapes Go.WideShapes Go.ChangeAt Go.RowKit
open Bt Dc
namespace Dc
def cheat (k:Nat):Nat × List UInt8:=Go.Pinned.cheatRows.getD k (0,[])
def cutS (k:Nat):ByteArray:=⟨(cheat k).2.toArray⟩
def cutD (k i:Nat):Nat:=((cheat k).2.getD i 0).toNat
def cutL (k:Nat):Nat:=(cheat k).2.length
def cheatOk (k:Nat):Bool:=(List.range (cutL k)).all (fun i => decide (48 ≤ cutD k i ∧ cutD k i ≤ 57)) && decide (dv (cutD k) (cutL k) = 5 ^ k) && decide (cutL k + (cheat k).1 = k + 1) && decide (10 ^ (cutL k - 1) ≤ 5 ^ k) && decide (1 ≤ cutL k)
theorem cheats_all:∀ k:Fin 60,cheatOk (k.val + 1) = true:=by decide +kernel
theorem cheat_is {k:Nat} (h1:1 ≤ k) (h2:k ≤ 60):Cheat k (cutL k) (cheat k).1 (cutD k):=by
 have h:=cheats_all ⟨k - 1,by omega⟩
 simp only at h
 rw [show k - 1 + 1 = k by omega] at h
 unfold cheatOk at h
 simp only [Bool.and_eq_true,decide_eq_true_eq,List.all_eq_true,List.mem_range] at h
 exact ⟨h.1.1.1.1,h.1.1.1.2,h.1.1.2,h.1.2,h.2,h1⟩
theorem cut_size (k:Nat):(cutS k).size = cutL k:=by
 show (cheat k).2.toArray.size = _
 simp [cutL]
theorem cut_ch (k i:Nat) (h:i < cutL k):ch (cutS k) (i:Int) = cutD k i:=by
 unfold ch cutD cutS
 have h':i < (cheat k).2.length:=h
 rw [Int.toNat_natCast]
 show ((cheat k).2.toArray[i]!).toNat = _
 rw [getElem!_pos _ i (by simpa using h'),List.getElem_toArray,List.getD_eq_getElem?_getD,List.getElem?_eq_getElem h']
 rfl
theorem cut_small {k:Nat} (h2:k ≤ 60):cutL k ≤ 61 ∧ (cheat k).1 ≤ 61:=by
 by_cases h1:1 ≤ k
 ·have:=(cheat_is h1 h2).sum; omega
 ·have:k = 0:=by omega
  subst this
  decide
end Dc
def LessQ (V n k L:Nat) (w:World) (e:Ending) (w':World):Prop:=(∃ r:Bool,e = .returned (.bool r) ∧ RowKit.Hid (Less r V n k L)) ∧ ∃ m,w' = w.drewN m

theorem less_any (b:Nat) (σ:DS) (n k:Nat) (w:World) (h:DAt w b σ) (ho:Dc.Ok σ n) (hk1:1 ≤ k) (hk2:k ≤ 60) :
  Calls Tryz.prog 179 #[.slice (some ⟨b,0,none⟩) n 800,.string (cutS k)] w (LessQ (dv σ.d n) n k (cutL k) w):=by
 have HC:=Lib.hid (cheat_is hk1 hk2)
 have HCh:=Lib.hid (cut_ch k)
 have hL61:=(cut_small hk2).1
 have H:=Lib.hid (And.intro h ho)
 have hsz:=cut_size k
 generalize cutS k = S at *
 obtain ⟨L,hL⟩:∃ L,L = cutL k:=⟨_,rfl⟩
 rw [← hL] at hsz hL61 HC HCh
 rw [← hL]
 have hszi:((S.size:Nat):Int) = (L:Int):=by omega
 have HL:=Lib.hid (And.intro hL61 (And.intro hk1 hk2))
 clear h ho hk1 hk2 hL hL61 hsz
 go_enter Tryz.func179,Tryz.ntmps179
 go_wp2_with fail
 go_loopg [5] L (fun gq s5 wx => ∃ i:Nat,gq + i = L ∧ s5 = .int .i64 (i:Int) ∧ RowKit.Hid (i ≤ n ∧ dv σ.d i = dv (cutD k) i ∧ ∃ m,wx = w.drewN m))
 case atStart => exact ⟨0,by omega,rfl,Nat.zero_le _,rfl,0,rfl⟩
 case round =>
  obtain ⟨i,hgi,rfl,HR⟩:=hrel
  have hL61:=HL.out.1
  have hle:=H.out.2.le
  have hw1:wrap64 ((i:Int) + 1) = ((i + 1:Nat):Int):=by unfold wrap64; omega
  by_cases hi:i < L
  ·have hi':(i:Int) < (L:Int):=by omega
   by_cases hn:i < n
   ·have hn':¬ ((n:Nat):Int) ≤ (i:Int):=by omega
    have hn2:(i:Int) < (n:Int):=by omega
    have c1:wr.cell? ⟨b,i,none⟩ = some (.int .u8 ((σ.d i:Nat):Int)):=by
     obtain ⟨q,hq⟩:=HR.out.2.2
     rw [hq]; exact H.out.1.digit (i:=i) (by omega)
    have hcc:=HCh.out i hi
    have hci:((ch S (i:Int):Nat):Int) = ((cutD k i:Nat):Int):=by rw [hcc]
    have HI:=Lib.hid (And.intro hi hn)
    have hiS:(i:Int) < ((S.size:Nat):Int):=by omega
    by_cases he:σ.d i = cutD k i
    ·have hnx:RowKit.Hid (dv σ.d (i + 1) = dv (cutD k) (i + 1)):=Lib.hid (by rw [dv_succ,dv_succ,HR.out.2.1,he])
     have he':((σ.d i:Nat):Int) = ((cutD k i:Nat):Int):=by omega
     clear he hcc hi hn hL61 hle
     go_wp2_with fail
     go_quiet (fail)
     go_wp2_with fail
     go_roundg (gk - 1)
     case measure => omega
     case rel =>
      refine ⟨i + 1,by omega,by first | rfl | (go_num; done),by have:=HI.out; omega,hnx.out,?_⟩
      obtain ⟨q,hq⟩:=HR.out.2.2
      exact ⟨q + nq,by rw [hq,World.drewN_drewN]⟩
    ·have he1:(((σ.d i:Nat):Int) == ((cutD k i:Nat):Int)) = false:=by rw [beq_eq_false_iff_ne]; omega
     have hQ:RowKit.Hid (Less (decide (σ.d i < cutD k i)) (dv σ.d n) n k L):=Lib.hid (by
      by_cases hlt:σ.d i < cutD k i
      ·rw [decide_eq_true hlt]; exact less_lt (n:=n) H.out.2.good.dig HC.out hn hi HR.out.2.1 hlt
      ·rw [decide_eq_false hlt]; exact less_gt (n:=n) H.out.2.good.dig HC.out hn hi HR.out.2.1 (by omega))
     clear he hcc hi hn hL61 hle
     go_wp2_with fail
     go_quiet (fail)
     go_wp2_with fail
     go_quiet (fail)
     go_wp2_with fail
     go_ret
     refine ⟨⟨decide (σ.d i < cutD k i),by first | rfl | simp,hQ.out⟩,?_⟩
     obtain ⟨q,hq⟩:=HR.out.2.2
     exact ⟨_,by rw [hq,World.drewN_drewN,World.drewN_drewN]⟩
   ·have hn':((n:Nat):Int) ≤ (i:Int):=by omega
    have hin:i = n:=by have:=HR.out.1; omega
    have hQ:RowKit.Hid (Less true (dv σ.d n) n k L):=Lib.hid (less_end H.out.2.good.dig HC.out (by omega) (by have:=HR.out.2.1; rw [hin] at this; exact this))
    clear hi hn hL61 hle hin
    go_wp2_with fail
    go_ret
    exact ⟨⟨true,rfl,hQ.out⟩,HR.out.2.2⟩
  ·have hi':¬ (i:Int) < (L:Int):=by omega
   have hiL:i = L:=by omega
   have hQ:RowKit.Hid (Less false (dv σ.d n) n k L):=Lib.hid (less_all H.out.2.good.dig HC.out (by have:=HR.out.1; omega) (by have:=HR.out.2.1; rw [hiL] at this; exact this))
   clear hi hL61 hle hiL
   go_wp2_with fail
   go_ret
   exact ⟨⟨false,rfl,hQ.out⟩,HR.out.2.2⟩
end Go.Proofs.YtkkecpamnnojoaaGreatDoor
namespace Go.Proofs.YtkkecpamnnojoaaGreatDoor
open Go.ChangeShapes Go.WideShapes Go.ChangeAt Go.RowKit
open Bt Dc
def Chs (B:Nat) (w:World):Prop:=∃ ad cap,w.cell? ⟨7,0,none⟩ = some (.slice (some ad) 61 cap) ∧ 7 < B ∧ ad.block < B ∧
 ∀ k,1 ≤ k → k ≤ 60 → w.cell? ⟨ad.block,ad.off + k * 2,none⟩ = some (.int .i64 (((cheat k).1:Nat):Int)) ∧ w.cell? ⟨ad.block,ad.off + k * 2 + 1,none⟩ = some (.string (cutS k))
theorem Chs.keep {B b:Nat} {w w':World} (h:Chs B w) (k:Keep (· = b) w w') (hb:B ≤ b) (hB:B ≤ w.heap.size):Chs B w':=by
 obtain ⟨ad,cap,c1,h1,h2,c2⟩:=h
 have hh:∀ a o,a < B → w'.cell? ⟨a,o,none⟩ = w.cell? ⟨a,o,none⟩:=fun a o ha => k.cell (p:=⟨a,o,none⟩) (Nat.lt_of_lt_of_le ha hB) (by show ¬ a = b; omega)
 exact ⟨ad,cap,(hh _ _ h1).trans c1,h1,h2,fun j j1 j2 => ⟨(hh _ _ h2).trans (c2 j j1 j2).1,(hh _ _ h2).trans (c2 j j1 j2).2⟩⟩

def LfQ (b:Nat) (σ:DS) (w:World) (e:Ending) (w':World):Prop:=
 e = .returned (.tuple #[]) ∧ RowKit.Hid ((∃ (τ:DS) (m:Nat),DAt w' b τ ∧ Dc.Ok τ m ∧ σ.dp ≤ τ.dp ∧ τ.dp ≤ σ.dp + 61 ∧ (σ.dp < τ.dp ∨ σ.d 0 < τ.d 0)) ∧ Keep (· = b) w w')

structure LfI (b K n e:Nat) (σ:DS) (w:World) (W:Nat) (tr:Bool) (D':Nat → Nat) (wx:World):Prop where
 at_:DAt wx b { σ with d:=D',tr:=tr }
 lm:LM σ.d D' n e K W
 keep:Keep (· = b) w wx
theorem LfI.put {b K n e:Nat} {σ:DS} {w:World} {W m:Nat} {tr:Bool} {D':Nat → Nat} {wx:World} (H:LfI b K n e σ w (W + 1) tr D' wx) (hW:W < 800) (hm:m = K * dv σ.d n / 10 ^ (n + e - 1 - W) % 10) :
  LfI b K n e σ w W tr (upd D' W (48 + m)) (wx.setCell ⟨b,W,none⟩ (.int .u8 ((48 + m:Nat):Int))):=
 ⟨H.at_.sd hW,by rw [hm]; exact H.lm.put,Keep.setCell (bs:=(· = b)) H.keep (p:=⟨b,W,none⟩) (Or.inl rfl) _⟩
theorem LfI.over {b K n e:Nat} {σ:DS} {w:World} {W:Nat} {tr:Bool} {D':Nat → Nat} {wx:World} (H:LfI b K n e σ w (W + 1) tr D' wx) (hW:800 ≤ W):LfI b K n e σ w W tr D' wx:=⟨H.at_,H.lm.skip hW,H.keep⟩
theorem LfI.mark {b K n e:Nat} {σ:DS} {w:World} {W:Nat} {tr:Bool} {D':Nat → Nat} {wx:World} (H:LfI b K n e σ w (W + 1) tr D' wx) (hW:800 ≤ W):LfI b K n e σ w W true D' (wx.setCell ⟨b,803,none⟩ (.bool true)):=
 ⟨H.at_.str true,H.lm.skip hW,Keep.setCell (bs:=(· = b)) H.keep (p:=⟨b,803,none⟩) (Or.inl rfl) _⟩
theorem wrap_few {W:Nat} (h:W ≤ 61):wrap64 (W:Int) = (W:Int):=by unfold wrap64; omega
theorem quo_ten {y K:Nat} (hK:K ≤ 1152921504606846976) (hy:y < 10 * K):IntKind.u64.wrap ((y:Int) / 10) = ((y / 10:Nat):Int):=by
 rw [IntKind.wrap_u64]; omega
theorem rem_ten {y q K:Nat} (hK:K ≤ 1152921504606846976) (hy:y < 10 * K) (hq:q = y / 10):IntKind.u64.wrap ((y:Int) - IntKind.u64.wrap (10 * (q:Int))) = ((y % 10:Nat):Int):=by
 simp only [IntKind.wrap_u64]; omega
theorem sum_wrap {c x K:Nat} (hK:K ≤ 1152921504606846976) (hc:c < K) (hx:48 ≤ x ∧ x ≤ 57):IntKind.u64.wrap ((c:Int) + IntKind.u64.wrap (IntKind.u64.wrap (IntKind.u64.wrap (x:Int) - 48) * (K:Int))) = ((c + K * (x - 48):Nat):Int) ∧ c + K * (x - 48) < 10 * K:=by
 have e1:IntKind.u64.wrap (x:Int) = (x:Int):=by rw [IntKind.wrap_u64]; omega
 have e2:IntKind.u64.wrap ((x:Int) - 48) = ((x - 48:Nat):Int):=by rw [IntKind.wrap_u64]; omega
 have h9:K * (x - 48) ≤ K * 9:=Nat.mul_le_mul_left _ (by omega)
 have e3:((x - 48:Nat):Int) * (K:Int) = ((K * (x - 48):Nat):Int):=by rw [Nat.mul_comm]; push_cast; rfl
 rw [e1,e2,e3]
 generalize K * (x - 48) = z at *
 have e4:IntKind.u64.wrap (z:Int) = (z:Int):=by rw [IntKind.wrap_u64]; omega
 rw [e4]
 refine ⟨?_,by omega⟩
 rw [IntKind.wrap_u64]; omega

theorem left_any (B b:Nat) (σ:DS) (n k:Nat) (w:World) (h:DAt w b σ) (ho:Dc.Ok σ n) (hk1:1 ≤ k) (hk2:k ≤ 60) (hp1:-1099511627776 ≤ σ.dp) (hp2:σ.dp ≤ 1099511627776) (hC:Chs B w) (hB:B ≤ b) :
  Calls Tryz.prog 163 #[.pointer (some ⟨b,0,none⟩),.int .u64 (k:Int)] w (LfQ b σ w):=by
 obtain ⟨⟨ab,ao,asp⟩,cap,g0,-,hab,gc⟩:=hC
 obtain ⟨g1,g2⟩:=gc k hk1 hk2
 simp only at g1 g2 hab
 have H:=Lib.hid (And.intro h ho)
 have HK:=Lib.hid (And.intro hk1 (And.intro hk2 (And.intro hp1 (And.intro hp2 (cheat_is hk1 hk2)))))
 have HLs:=Lib.hid (fun w h => less_any b σ n k w h ho hk1 hk2)
 have hd61:=(cut_small hk2).2
 obtain ⟨d,hd⟩:∃ d,d = (cheat k).1:=⟨_,rfl⟩
 rw [← hd] at g1 HK hd61
 generalize cutS k = S at *
 have HD:=Lib.hid hd61
 have k0:(0:Int) ≤ (k:Int):=by omega
 have kn:0 < k:=by omega
 have hadd:(⟨ab,ao,asp⟩:Addr).add (k * 2) = ⟨ab,ao + k * 2,none⟩:=by unfold Addr.add; rw [if_neg (by omega)]
 have k64:(k:Int) < 64:=by omega
 have k61:(k:Int) < 61:=by omega
 clear h ho hk1 hk2 hp1 hp2 gc hd61 hd
 go_enter Tryz.func163,Tryz.ntmps163
 go_upto_region 1 with fail
 have c8:=H.out.1.cnd
 have e8:=H.out.2.nd
 rw [e8] at c8
 have hn8:(n:Int) ≤ 800:=by have:=H.out.2.le; omega
 have hn0:(0:Int) ≤ (n:Int):=by omega
 clear e8
 go_cut [30] from 17 to 30 (fun s30 wx => ∃ r:Bool,s30 = .bool r ∧ RowKit.Hid (Less r (dv σ.d n) n k (cutL k) ∧ ∃ m,wx = w.drewN m))
 case first =>
  go_region_with (go_at_call 179; refine (HLs.out _ (H.out.1.drewN _)).mono ?_; rintro e w' ⟨⟨r,rfl,hr⟩,hw'⟩)
  all_goals
   go_wp2_with fail
   go_meet
   exact ⟨r,rfl,hr.out,by obtain ⟨q,hq⟩:=hw'; exact ⟨_,by rw [hq,World.drewN_drewN]⟩⟩
 case rest =>
  obtain ⟨r,rfl,HR⟩:=hcut
  generalize wc = w1 at *
  obtain ⟨e,he⟩:∃ e:Nat,e = if r then d - 1 else d:=⟨_,rfl⟩
  have hsl:=shift_len HK.out.2.2.2.2 (dv_lead H.out.2.good) (dv_lt H.out.2.good.dig n (Nat.le_refl _)) H.out.2.good.one HR.out.1
  simp only at hsl
  rw [← he] at hsl
  obtain ⟨hd1,hs1,hs2⟩:=hsl
  have HS1:=Lib.hid (And.intro hs1 (And.intro hs2 hd1))
  have HE:=Lib.hid he
  have he61:RowKit.Hid (e ≤ 61):=Lib.hid (by have:=HD.out; rw [he]; split <;> omega)
  clear hs1 hs2 g0 g1 g2 hadd
  go_upto_if 30 with fail
  go_cut [4] from 31 to 32 (fun s4 wx => s4 = .int .i64 (e:Int) ∧ wx = w1)
  case first =>
   cases r
   ·have e1:e = d:=he
    have E1:=Lib.hid e1
    clear e1 he hd1
    go_wp2_with fail
    go_meet
    exact ⟨by rw [E1.out],rfl⟩
   ·have e1:e = d - 1:=he
    have w1':wrap64 ((d:Int) - 1) = (e:Int):=by have:=HD.out; unfold wrap64; omega
    clear e1 he hd1
    go_wp2_with fail
    go_meet
    exact ⟨by first | rfl | (rw [w1']; done),rfl⟩
  case rest =>
   obtain ⟨rfl,hwc⟩:=hcut
   generalize wc = w2 at *
   subst hwc
   clear he hd1 c8
   obtain ⟨K,hK⟩:∃ K,K = 2 ^ k:=⟨_,rfl⟩
   have hKi:(2:Int) ^ k = (K:Int):=by rw [hK]; push_cast; rfl
   have hK1:1 ≤ K:=by rw [hK]; exact Nat.two_pow_pos k
   have hK60:K ≤ 1152921504606846976:=by
    rw [hK]
    exact Nat.le_trans (Nat.pow_le_pow_right (by omega) HK.out.2.1) (by decide)
   have hS:=HS1.out
   rw [← hK] at hS
   have HKK:=Lib.hid (And.intro hK (And.intro hK1 (And.intro hK60 hS)))
   have hn1:=H.out.2.good.one
   have hne:wrap64 ((n:Int) + (e:Int)) = ((n + e:Nat):Int):=by have:=he61.out; unfold wrap64; omega
   have h2:DAt w2 b σ:=by
    obtain ⟨q,hq⟩:=HR.out.2
    rw [hq]; exact H.out.1
   have HI0:RowKit.Hid (LfI b K n e σ w (n + e) σ.tr σ.d w2):=Lib.hid ⟨h2,LM.start _ _ _ _,by
    obtain ⟨q,hq⟩:=HR.out.2
    rw [hq]; exact (Keep.refl _ w).drewN q⟩
   have c8:=h2.cnd
   rw [H.out.2.nd] at c8
   have HN1:=Lib.hid hn1
   have HNE:=Lib.hid hne
   clear hK hK1 hK60 hS HS1 hn1 h2 hne
   go_upto_block 0 with fail
   clear c8
   go_cut [5,6,7] from 45 to 84 (fun s5 s6 s7 wx => ∃ c:Nat,s6 = .int .i64 (e:Int) ∧ s7 = .int .u64 (c:Int) ∧ RowKit.Hid (c = K * dv σ.d n / 10 ^ n ∧ ∃ tr D',LfI b K n e σ w e tr D' wx))
   case first =>
    go_wp2_with fail
    go_loopg [5,6,7] n (fun gq s5 s6 s7 wx => ∃ c:Nat,gq ≤ n ∧ s5 = .int .i64 ((gq:Int) - 1) ∧ s6 = .int .i64 ((gq + e:Nat):Int) ∧ s7 = .int .u64 (c:Int) ∧ RowKit.Hid (c + K * dv σ.d gq = K * dv σ.d n / 10 ^ (n - gq) ∧ ∃ tr D',LfI b K n e σ w (gq + e) tr D' wx))
    case atStart => exact ⟨0,Nat.le_refl _,rfl,by rw [HNE.out],rfl,by rw [Nat.sub_self,Nat.pow_zero,Nat.div_one,Nat.zero_add],σ.tr,σ.d,HI0.out⟩
    case round =>
     obtain ⟨c,hgn,rfl,rfl,rfl,HLq⟩:=hrel
     obtain ⟨tr,D',HL⟩:=HLq.out.2
     have HC:=Lib.hid HLq.out.1
     have HLL:=Lib.hid HL
     clear HLq
     rcases gk with _ | R
     ·have hc:=HC.out
      rw [show dv σ.d 0 = 0 from rfl,Nat.mul_zero,Nat.add_zero,Nat.sub_zero] at hc
      have HC2:=Lib.hid hc
      clear hc HL
      go_wp2_with fail
      go_meet
      refine ⟨c,?_,rfl,HC2.out,tr,D',?_⟩
      ·first | rfl | simp
      ·have:=HLL.out; rw [Nat.zero_add] at this; exact this
     ·have hle:=H.out.2.le
      have R0:(0:Int) ≤ (R:Int):=by omega
      have R8:(R:Int) < 800:=by omega
      have hr1:((R + 1:Nat):Int) - 1 = (R:Int):=by omega
      rw [hr1]
      have cR:wr.cell? ⟨b,R,none⟩ = some (.int .u8 ((σ.d R:Nat):Int)):=by
       have:=HL.at_.digit (i:=R) (by omega)
       rw [this]
       show some (Value.int _ ((D' R:Nat):Int)) = _
       rw [HL.lm.same R (by omega) (by omega)]
      have hdR:=H.out.2.good.dig R (by omega)
      have hst:=left_step H.out.2.good.dig (show R + 1 ≤ n by omega) c HC.out
      have hsm:=left_small H.out.2.good.dig hgn HKK.out.2.1 c HC.out
      obtain ⟨hyv,hyK⟩:=sum_wrap HKK.out.2.2.1 hsm hdR
      obtain ⟨y,hy⟩:∃ y,y = c + K * (σ.d R - 48):=⟨_,rfl⟩
      rw [← hy] at hst hyv hyK
      have HYV:=Lib.hid (And.intro hyv (And.intro hyK hst))
      have HGN:=Lib.hid hgn
      clear hy hst hsm hdR hle hr1 hgn hyv hyK
      go_upto_region 10 with fail
      rw [HYV.out.1]
      go_upto_region 13 with fail
      have hq:=quo_ten HKK.out.2.2.1 HYV.out.2.1
      obtain ⟨q,hqe⟩:∃ q,q = y / 10:=⟨_,rfl⟩
      have hm:=rem_ten HKK.out.2.2.1 HYV.out.2.1 hqe
      obtain ⟨m,hme⟩:∃ m,m = y % 10:=⟨_,rfl⟩
      rw [← hqe] at hq
      rw [← hme] at hm
      obtain ⟨W,hW⟩:∃ W,W = R + e:=⟨_,rfl⟩
      have hw6:wrap64 ((R:Int) + 1 + (e:Int) - 1) = (W:Int):=by have:=he61.out; have:=HGN.out; have:=H.out.2.le; unfold wrap64; omega
      rw [hq,hm,hw6]
      have hm9:m ≤ 9:=by omega
      have hLW:RowKit.Hid (LfI b K n e σ w (W + 1) tr D' wr):=Lib.hid (by rw [hW,show R + e + 1 = R + 1 + e by omega]; exact HLL.out)
      have hmm:RowKit.Hid (m = K * dv σ.d n / 10 ^ (n + e - 1 - W) % 10 ∧ q + K * dv σ.d R = K * dv σ.d n / 10 ^ (n - R)):=Lib.hid (by
       have h1:=HYV.out.2.2
       have:=HGN.out
       rw [← hqe,← hme] at h1
       refine ⟨?_,h1.1⟩
       rw [h1.2]
       congr 3
       omega)
      have HWR:=Lib.hid (And.intro hW hm9)
      have W0:(0:Int) ≤ (W:Int):=by omega
      have hwr1:wrap64 ((R:Int) - 1) = (R:Int) - 1:=by have:=HGN.out; have:=H.out.2.le; unfold wrap64; omega
      clear hq hm hqe hme hw6 hW hm9 R0 R8 cR HL HYV
      by_cases hw8:W < 800
      ·have W8:(W:Int) < 800:=by omega
       have fW:=hLW.out.at_.free W
       have cW:=hLW.out.at_.digit (i:=W) hw8
       have HW8:=Lib.hid hw8
       clear hw8
       go_wp2_with fail
       rw [byte_is HWR.out.2]
       go_roundg R
       case measure => omega
       case rel => exact ⟨q,by have:=HGN.out; omega,by first | rfl | (go_num; done),by rw [HWR.out.1],rfl,hmm.out.2,tr,upd D' W (48 + m),by have:=hLW.out.put HW8.out hmm.out.1; rw [← HWR.out.1]; exact this⟩
      ·have W8:¬ (W:Int) < 800:=by omega
       have f3:=hLW.out.at_.free 803
       have c3:=hLW.out.at_.ctr
       have HW8:=Lib.hid (show 800 ≤ W by omega)
       clear hw8
       by_cases hm0:m = 0
       ·have hm0':(m:Int) = 0:=by omega
        clear hm0
        go_wp2_with fail
        go_roundg R
        case measure => omega
        case rel => exact ⟨q,by have:=HGN.out; omega,by first | rfl | (go_num; done),by rw [HWR.out.1],rfl,hmm.out.2,tr,D',by rw [← HWR.out.1]; exact hLW.out.over HW8.out⟩
       ·have hm0':((m:Int) != 0) = true:=by simp; omega
        have hm0b:¬ (m:Int) = 0:=by omega
        clear hm0
        go_wp2_with fail
        go_roundg R
        case measure => omega
        case rel => exact ⟨q,by have:=HGN.out; omega,by first | rfl | (go_num; done),by rw [HWR.out.1],rfl,hmm.out.2,true,D',by rw [← HWR.out.1]; exact hLW.out.mark HW8.out⟩
   case rest =>
    obtain ⟨c,rfl,rfl,HC⟩:=hcut
    generalize wc = w3 at *
    clear HI0
    go_upto_block 2 with fail
    go_cut [6,7] from 85 to 110 (fun s6 s7 wx => RowKit.Hid (∃ tr D',LfI b K n e σ w 0 tr D' wx))
    case first =>
     go_wp2_with fail
     go_loopg [6,7] e (fun gq s6 s7 wx => ∃ x:Nat,gq ≤ e ∧ s6 = .int .i64 (gq:Int) ∧ s7 = .int .u64 (x:Int) ∧ RowKit.Hid (x = K * dv σ.d n / 10 ^ (n + e - gq) ∧ x < K ∧ ∃ tr D',LfI b K n e σ w gq tr D' wx))
     case atStart =>
      refine ⟨c,Nat.le_refl _,rfl,rfl,?_,?_,HC.out.2⟩
      ·rw [show n + e - e = n by omega]; exact HC.out.1
      ·refine left_small (R:=0) H.out.2.good.dig (Nat.zero_le _) HKK.out.2.1 c ?_
       rw [show dv σ.d 0 = 0 from rfl,Nat.mul_zero,Nat.add_zero,Nat.sub_zero]
       exact HC.out.1
     case round =>
      obtain ⟨x,hge,rfl,rfl,HLq⟩:=hrel
      obtain ⟨tr,D',HL⟩:=HLq.out.2.2
      have HX:=Lib.hid (And.intro HLq.out.1 HLq.out.2.1)
      have HLL:=Lib.hid HL
      clear HLq HL
      by_cases hx0:x = 0
      ·have hg0:gk = 0:=by
        have h1:=HX.out.1
        rw [hx0] at h1
        have hp:0 < 10 ^ (n + e - gk):=Nat.pow_pos (by omega)
        have h2:K * dv σ.d n < 10 ^ (n + e - gk):=by
         refine Nat.lt_of_not_le fun h => ?_
         have:=(Nat.le_div_iff_mul_le (x:=1) (y:=K * dv σ.d n) hp).2 (by rw [Nat.one_mul]; exact h)
         omega
        have h3:=Nat.lt_of_le_of_lt HKK.out.2.2.2.2.1 h2
        have h4:=(Nat.pow_lt_pow_iff_right (a:=10) (by omega)).1 h3
        have:=HN1.out
        omega
       subst hg0 hx0
       go_wp2_with fail
       go_meet
       exact ⟨tr,D',HLL.out⟩
      ·have hx1:(0:Int) < (x:Int):=by omega
       rcases gk with _ | W
       ·exfalso
        have h1:=HX.out.1
        rw [Nat.sub_zero,Nat.div_eq_of_lt HKK.out.2.2.2.1] at h1
        exact hx0 h1
       ·have hx10:x < 10 * K:=by have:=HX.out.2; omega
        have hq:=quo_ten HKK.out.2.2.1 hx10
        obtain ⟨q,hqe⟩:∃ q,q = x / 10:=⟨_,rfl⟩
        have hm:=rem_ten HKK.out.2.2.1 hx10 hqe
        obtain ⟨m,hme⟩:∃ m,m = x % 10:=⟨_,rfl⟩
        rw [← hqe] at hq
        rw [← hme] at hm
        have HGE:=Lib.hid (Nat.le_trans (Nat.le_of_succ_le hge) he61.out)
        have hm9:m ≤ 9:=by omega
        have hmm:RowKit.Hid (m = K * dv σ.d n / 10 ^ (n + e - 1 - W) % 10 ∧ q = K * dv σ.d n / 10 ^ (n + e - W) ∧ q < K ∧ W ≤ e):=Lib.hid (by
         have h1:=HX.out.1
         have h2:=HX.out.2
         refine ⟨?_,?_,by omega,by omega⟩
         ·rw [hme,h1,show n + e - (W + 1) = n + e - 1 - W by omega]
         ·rw [hqe,h1,Nat.div_div_eq_div_mul,← Nat.pow_succ,show (n + e - (W + 1)).succ = n + e - W by omega])
        have HQM:=Lib.hid (And.intro hq (And.intro hm hm9))
        have W0:(0:Int) ≤ (W:Int):=by omega
        clear hq hm hqe hme hm9 hx10 hx0 hge
        go_upto_region 22 with fail
        try rw [HQM.out.1]
        try rw [HQM.out.2.1]
        rw [wrap_few HGE.out]
        by_cases hw8:W < 800
        ·have W8:(W:Int) < 800:=by omega
         have fW:=HLL.out.at_.free W
         have cW:=HLL.out.at_.digit (i:=W) hw8
         have HW8:=Lib.hid hw8
         clear hw8
         go_wp2_with fail
         rw [byte_is HQM.out.2.2]
         go_roundg W
         case measure => omega
         case rel => exact ⟨q,hmm.out.2.2.2,rfl,rfl,hmm.out.2.1,hmm.out.2.2.1,tr,upd D' W (48 + m),HLL.out.put HW8.out hmm.out.1⟩
        ·have W8:¬ (W:Int) < 800:=by omega
         have f3:=HLL.out.at_.free 803
         have c3:=HLL.out.at_.ctr
         have HW8:=Lib.hid (show 800 ≤ W by omega)
         clear hw8
         by_cases hm0:m = 0
         ·have hm0':(m:Int) = 0:=by omega
          clear hm0
          go_wp2_with fail
          go_roundg W
          case measure => omega
          case rel => exact ⟨q,hmm.out.2.2.2,rfl,rfl,hmm.out.2.1,hmm.out.2.2.1,tr,D',HLL.out.over HW8.out⟩
         ·have hm0':((m:Int) != 0) = true:=by simp; omega
          have hm0b:¬ (m:Int) = 0:=by omega
          clear hm0
          go_wp2_with fail
          go_roundg W
          case measure => omega
          case rel => exact ⟨q,hmm.out.2.2.2,rfl,rfl,hmm.out.2.1,hmm.out.2.2.1,true,D',HLL.out.mark HW8.out⟩
    case rest =>
     generalize wc = w4 at *
     obtain ⟨tr,D',HL⟩:=hcut.out
     have HLL:=Lib.hid HL
     have hG:=HL.lm.good H.out.2.good (K:=K) (by
      rw [HKK.out.1]
      exact Nat.le_trans (show 2 ≤ 2 ^ 1 by omega) (Nat.pow_le_pow_right (by omega) HK.out.1)) HKK.out.2.2.2.1 HKK.out.2.2.2.2.1
     have HG:=Lib.hid hG
     have c8:=HL.at_.cnd
     have e8:=H.out.2.nd
     simp only at c8
     rw [e8] at c8
     have f8:=HL.at_.free 800
     clear hcut HL hG e8
     go_upto_if 123 with fail
     rw [HNE.out]
     obtain ⟨N,hN⟩:∃ N,N = n + e:=⟨_,rfl⟩
     rw [← hN]
     have h5:=HLL.out.at_.snd (N:Int)
     have hk5:=Keep.setCell (bs:=(· = b)) HLL.out.keep (p:=⟨b,800,none⟩) (Or.inl rfl) (.int .i64 (N:Int))
     have HG5:RowKit.Hid (Dc.Good D' (min 800 N) ∧ (e = 0 → σ.d 0 < D' 0)):=Lib.hid (by rw [hN]; exact HG.out)
     generalize w4.setCell ⟨b,800,none⟩ (.int .i64 (N:Int)) = w5 at *
     have H5:=Lib.hid (And.intro h5 hk5)
     have f8':=h5.free 800
     have c8':=h5.cnd
     simp only at c8'
     clear h5 hk5 c8 f8 hN
     go_cut [] from 111 to 126 (fun wx => RowKit.Hid (DAt wx b { σ with d:=D',tr:=tr,nd:=((min 800 N:Nat):Int) } ∧ Keep (· = b) w wx))
     case first =>
      by_cases h8:800 ≤ N
      ·have h8':(800:Int) ≤ (N:Int):=by omega
       have hm8:RowKit.Hid (min 800 N = 800):=Lib.hid (by omega)
       clear h8
       go_wp2_with fail
       go_meet
       rw [hm8.out]
       exact ⟨H5.out.1.snd 800,Keep.setCell (bs:=(· = b)) H5.out.2 (p:=⟨b,800,none⟩) (Or.inl rfl) _⟩
      ·have h8':¬ (800:Int) ≤ (N:Int):=by omega
       have hm8:RowKit.Hid (min 800 N = N):=Lib.hid (by omega)
       clear h8
       go_wp2_with fail
       go_meet
       rw [hm8.out]
       exact H5.out
     case rest =>
      have H6:=Lib.hid hcut.out
      clear hcut c8' f8'
      generalize wc = w6 at *
      have f9:=H6.out.1.free 801
      have c9:=H6.out.1.cdp
      simp only at c9
      have hdp:wrap64 (σ.dp + (e:Int)) = σ.dp + (e:Int):=by have:=he61.out; have:=HK.out.2.2.1; have:=HK.out.2.2.2.1; unfold wrap64; omega
      have HDP:=Lib.hid hdp
      obtain ⟨P,hP⟩:∃ P:Int,P = wrap64 (σ.dp + (e:Int)):=⟨_,rfl⟩
      have hok:Dc.Ok { σ with d:=D',tr:=tr,nd:=((min 800 N:Nat):Int),dp:=P } (min 800 N):=⟨HG5.out.1,rfl,by show min 800 N ≤ 800; omega⟩
      have HTr:=Lib.hid (trim_any b { σ with d:=D',tr:=tr,nd:=((min 800 N:Nat):Int),dp:=P } (min 800 N) (w6.setCell ⟨b,801,none⟩ (.int .i64 P)) (H6.out.1.sdp P) hok)
      have HPP:=Lib.hid (hP.trans hdp)
      clear hdp hok
      go_upto_region 31 with fail
      rw [← hP]
      clear hP
      go_wp2_with fail
      refine HTr.out.mono ?_
      rintro e2 w7 ⟨rfl,ho⟩
      have HO:=Lib.hid ho.out
      clear ho
      go_wp2_with fail
      go_end0
      obtain ⟨⟨n',h1,h2,h3⟩,hk⟩:=HO.out
      refine ⟨rfl,⟨_,n',h1,⟨h2,rfl,by omega⟩,by show σ.dp ≤ P; rw [HPP.out]; omega,by show P ≤ σ.dp + 61; rw [HPP.out]; have:=he61.out; omega,?_⟩,(Keep.setCell (bs:=(· = b)) H6.out.2 (p:=⟨b,801,none⟩) (Or.inl rfl) _).trans hk⟩
      by_cases h0:e = 0
      ·exact Or.inr (HG5.out.2 h0)
      ·left; show σ.dp < P; rw [HPP.out]; omega
end Go.Proofs.YtkkecpamnnojoaaGreatDoor
namespace Go.Proofs.YtkkecpamnnojoaaGreatDoor
open Go.ChangeShapes Go.WideShapes Go.ChangeAt Go.RowKit
open Bt
theorem low_any (c:Nat) (w:World) (hc:c < 256):Calls Tryz.prog 151 #[.int .u8 (c:Int)] w fun e w' => e = .returned (.int .u8 ((Us.lowN c:Nat):Int)) ∧ w = w':=(lower_any c w hc).mono fun e w' h => ⟨h.1,h.2.symm⟩

def BoolQ (w:World) (e:Ending) (w':World):Prop:=(∃ b:Bool,e = .returned (.bool b)) ∧ ∃ n,w' = w.drewN n

theorem under_any (s : ByteArray) (w : World) (hs : s.size ≤ 1073741824) : Calls Tryz.prog 168 #[.string s] w (BoolQ w) := by
  have HS := Lib.hid hs
  have HL := Lib.hid (fun (c : Nat) (w : World) (h : c < 256) => low_any c w h)
  clear hs
  go_enter Tryz.func168, Tryz.ntmps168
  go_upto_region 3 with fail
  go_cut [18] from 6 to 18 (fun s18 wx => ∃ b : Bool, s18 = .bool b ∧ RowKit.Hid ((b = true → 1 ≤ s.size) ∧ ∃ n, wx = w.drewN n))
  case first =>
    by_cases h1 : 1 ≤ s.size
    · have h1' : (1 : Int) ≤ ((s.size : Nat) : Int) := by omega
      have h1n : 0 < s.size := by omega
      have H1 := Lib.hid h1
      clear h1
      go_wp2_with fail
      all_goals
        go_meet
        exact ⟨_, rfl, ⟨fun _ => H1.out, 0, rfl⟩⟩
    · have h1' : ¬ (1 : Int) ≤ ((s.size : Nat) : Int) := by omega
      clear h1
      go_wp2_with fail
      all_goals
        go_meet
        exact ⟨_, rfl, ⟨(fun h => by cases h), 0, rfl⟩⟩
  case rest =>
    obtain ⟨b, rfl, HB⟩ := hcut
    generalize wc = w1 at *
    go_upto_if 18 with fail
    go_cut [0] from 19 to 20 (fun s0 wx => ∃ t : ByteArray, s0 = .string t ∧ RowKit.Hid (t.size ≤ 1073741824 ∧ ∃ n, wx = w.drewN n))
    case first =>
      cases b
      · go_wp2_with fail
        go_meet
        exact ⟨_, rfl, ⟨HS.out, HB.out.2⟩⟩
      · have h1 := HB.out.1 rfl
        have h1' : (1 : Int) ≤ ((s.size : Nat) : Int) := by omega
        go_wp2_with fail
        go_meet
        exact ⟨_, rfl, ⟨by rw [ext_size s h1]; have := HS.out; omega, HB.out.2⟩⟩
    case rest =>
      obtain ⟨t, rfl, HT⟩ := hcut
      generalize wc = w2 at *
      clear HB
      go_upto_region 6 with fail
      go_cut [46] from 21 to 46 (fun s46 wx => ∃ b : Bool, s46 = .bool b ∧ RowKit.Hid ((b = true → 2 ≤ t.size) ∧ ∃ n, wx = w.drewN n))
      case first =>
        by_cases h1 : 2 ≤ t.size
        · have h1' : (2 : Int) ≤ ((t.size : Nat) : Int) := by omega
          have h1n : 0 < t.size := by omega
          have h2n : 1 < t.size := by omega
          have h2' : (1 : Int) < ((t.size : Nat) : Int) := by omega
          have H1 := Lib.hid h1
          clear h1
          go_wp2_with (go_at_call 151; refine (HL.out _ _ (ch_lt _ _)).mono ?_; rintro e w' ⟨rfl, rfl⟩)
          all_goals
            go_meet
            exact ⟨_, rfl, ⟨fun _ => H1.out, HT.out.2⟩⟩
        · have h1' : ¬ (2 : Int) ≤ ((t.size : Nat) : Int) := by omega
          clear h1
          go_wp2_with fail
          all_goals
            go_meet
            exact ⟨_, rfl, ⟨(fun h => by cases h), HT.out.2⟩⟩
      case rest =>
        obtain ⟨b2, rfl, HB⟩ := hcut
        generalize wc = w3 at *
        go_upto_if 46 with fail
        go_cut [3, 4, 5] from 47 to 50 (fun s3 s4 s5 wx => ∃ (z : Int) (k : Nat) (h : Bool), s3 = .int .i32 z ∧ s4 = .int .i64 (k : Int) ∧ s5 = .bool h ∧ RowKit.Hid (k ≤ t.size ∧ ∃ n, wx = w.drewN n))
        case first =>
          cases b2
          · go_wp2_with fail
            go_meet
            exact ⟨94, 0, false, rfl, rfl, rfl, ⟨Nat.zero_le _, HB.out.2⟩⟩
          · have h1 := HB.out.1 rfl
            have h2n : 1 < t.size := by omega
            have h2' : (1 : Int) < ((t.size : Nat) : Int) := by omega
            have H1 := Lib.hid h1
            clear h1
            go_wp2_with (go_at_call 151; refine (HL.out _ _ (ch_lt _ _)).mono ?_; rintro e w' ⟨rfl, rfl⟩)
            all_goals
              go_meet
              exact ⟨48, 2, _, rfl, rfl, rfl, ⟨H1.out, HB.out.2⟩⟩
        case rest =>
          obtain ⟨z, k, hx, rfl, rfl, rfl, HK⟩ := hcut
          generalize wc = w4 at *
          clear HB
          go_wp2_with fail
          go_loopg [3, 4] (t.size - k) (fun gq s3 s4 wx => ∃ (z : Int) (j : Nat), s3 = .int .i32 z ∧ s4 = .int .i64 (j : Int) ∧ gq + j = t.size ∧ RowKit.Hid (∃ n, wx = w.drewN n))
          case atStart => exact ⟨z, k, rfl, rfl, by have := HK.out.1; omega, HK.out.2⟩
          case round =>
            obtain ⟨z, j, rfl, rfl, hgj, HR⟩ := hrel
            have htl := HT.out.1
            by_cases hj : j < t.size
            · have hj' : (j : Int) < ((t.size : Nat) : Int) := by omega
              have hw1 : wrap64 ((j : Int) + 1) = ((j + 1 : Nat) : Int) := by unfold wrap64; omega
              have HJ := Lib.hid hj
              clear htl
              cases hx
              · go_wp2_with fail
                all_goals first
                  | (go_ret
                     exact ⟨⟨_, rfl⟩, HR.out⟩)
                  | (go_roundg (gk - 1)
                     case measure => omega
                     case rel => exact ⟨_, j + 1, rfl, by first | rfl | rw [hw1], by omega, HR.out⟩)
              · go_wp2_with (go_at_call 151; refine (HL.out _ _ (ch_lt _ _)).mono ?_; rintro e w' ⟨rfl, rfl⟩)
                all_goals first
                  | (go_ret
                     exact ⟨⟨_, rfl⟩, HR.out⟩)
                  | (go_roundg (gk - 1)
                     case measure => omega
                     case rel => exact ⟨_, j + 1, rfl, by first | rfl | rw [hw1], by omega, HR.out⟩)
            · have hj' : ¬ (j : Int) < ((t.size : Nat) : Int) := by omega
              clear htl
              go_wp2_with fail
              go_ret
              exact ⟨⟨_, rfl⟩, HR.out⟩
end Go.Proofs.YtkkecpamnnojoaaGreatDoor
namespace Go.Proofs.YtkkecpamnnojoaaGreatDoor
open Go.ChangeShapes Go.WideShapes Go.ChangeAt Go.RowKit
open Bt Dc
theorem roundUp_any (b:Nat) (σ:DS) (n:Nat) (z:Int) (w:World) (h:DAt w b σ) (hn:σ.nd = (n:Int)) (hle:n ≤ 800) (hz:-1099511627776 ≤ z ∧ z ≤ 1099511627776) :
  Calls Tryz.prog 165 #[.pointer (some ⟨b,0,none⟩),.int .i64 z] w (BoolQ w):=by
 have c8:=h.cnd
 rw [hn] at c8
 have ct:=h.ctr
 by_cases h0:z < 0
 ·go_enter Tryz.func165,Tryz.ntmps165
  clear hz hle h
  go_wp2_with fail
  go_ret
  exact ⟨⟨_,rfl⟩,0,rfl⟩
 ·by_cases h1:(n:Int) ≤ z
  ·go_enter Tryz.func165,Tryz.ntmps165
   clear hz hle h
   go_wp2_with fail
   go_ret
   exact ⟨⟨_,rfl⟩,0,rfl⟩
  ·obtain ⟨i,rfl⟩:∃ i:Nat,z = (i:Int):=⟨z.toNat,by omega⟩
   have ci:=h.digit (i:=i) (by omega)
   have i8:(i:Int) < 800:=by omega
   have hw1:wrap64 ((i:Int) + 1) = (i:Int) + 1:=by unfold wrap64; omega
   have HPrev:RowKit.Hid (0 < i → ∃ j:Nat,i = j + 1 ∧ w.cell? ⟨b,j,none⟩ = some (.int .u8 ((σ.d j:Nat):Int)) ∧ (j:Int) < 800):=Lib.hid fun h0 => ⟨i - 1,by omega,h.digit (i:=i - 1) (by omega),by omega⟩
   have H:=Lib.hid (And.intro h (And.intro hz hle))
   clear hz hle h
   rcases i with _ | j
   ·go_enter Tryz.func165,Tryz.ntmps165
    go_wp2_with fail
    all_goals (go_ret; exact ⟨⟨_,rfl⟩,0,rfl⟩)
   ·obtain ⟨j',hj,cj,j8⟩:=HPrev.out (by omega)
    obtain rfl:j = j':=by omega
    have hwj:wrap64 (((j + 1:Nat):Int) - 1) = (j:Int):=by unfold wrap64; omega
    clear hj HPrev hw1
    go_enter Tryz.func165,Tryz.ntmps165
    go_wp2_with fail
    all_goals (go_ret; exact ⟨⟨_,rfl⟩,0,rfl⟩)

def WordQ (w:World) (e:Ending) (w':World):Prop:=(∃ z:Int,e = .returned (.int .u64 z)) ∧ ∃ n,w' = w.drewN n

theorem whole_any (b:Nat) (σ:DS) (n:Nat) (w:World) (h:DAt w b σ) (hn:σ.nd = (n:Int)) (hle:n ≤ 800) (hz:-1099511627776 ≤ σ.dp ∧ σ.dp ≤ 1099511627776) :
  Calls Tryz.prog 197 #[.pointer (some ⟨b,0,none⟩)] w (WordQ w):=by
 have H:=Lib.hid (And.intro h (And.intro hn (And.intro hle hz)))
 have HRd:=Lib.hid (fun w h => roundUp_any b σ n σ.dp w h hn hle hz)
 have HC:RowKit.Hid (∀ m,(w.drewN m).cell? ⟨b,800,none⟩ = some (.int .i64 (n:Int)) ∧ (w.drewN m).cell? ⟨b,801,none⟩ = some (.int .i64 σ.dp)):=Lib.hid fun m => ⟨by have:=h.cnd; rw [hn] at this; exact this,h.cdp⟩
 obtain ⟨P,hP⟩:∃ P,P = σ.dp:=⟨_,rfl⟩
 rw [← hP] at HC HRd
 have HP:=Lib.hid (show P ≤ 1099511627776 by omega)
 have c1:=(HC.out 0).2
 have c0:w.cell? ⟨b,801,none⟩ = some (.int .i64 P):=c1
 clear h hn hle hz hP c1
 by_cases hbig:20 < P
 ·go_enter Tryz.func197,Tryz.ntmps197
  go_wp2_with fail
  go_ret
  exact ⟨⟨_,rfl⟩,0,rfl⟩
 ·have hbig':¬ 20 < P:=hbig
  have HB:=Lib.hid hbig
  clear hbig
  go_enter Tryz.func197,Tryz.ntmps197
  go_upto_block 0 with fail
  go_cut [3,4] from 10 to 36 (fun s3 s4 wx => ∃ (i:Nat) (z:Int),s3 = .int .i64 (i:Int) ∧ s4 = .int .u64 z ∧ RowKit.Hid (i ≤ 20 ∧ ∃ m,wx = w.drewN m))
  case first =>
   go_wp2_with fail
   go_loopg [3,4] 20 (fun gq s3 s4 wx => ∃ (i:Nat) (z:Int),gq + i = 20 ∧ s3 = .int .i64 (i:Int) ∧ s4 = .int .u64 z ∧ RowKit.Hid (∃ m,wx = w.drewN m))
   case atStart => exact ⟨0,0,by omega,rfl,rfl,0,rfl⟩
   case round =>
    obtain ⟨i,z,hgi,rfl,rfl,HR⟩:=hrel
    have hw1:wrap64 ((i:Int) + 1) = ((i + 1:Nat):Int):=by unfold wrap64; omega
    have q8:wr.cell? ⟨b,800,none⟩ = some (.int .i64 (n:Int)):=by obtain ⟨m,hm⟩:=HR.out; rw [hm]; exact (HC.out m).1
    have q9:wr.cell? ⟨b,801,none⟩ = some (.int .i64 P):=by obtain ⟨m,hm⟩:=HR.out; rw [hm]; exact (HC.out m).2
    by_cases hi:(i:Int) < P ∧ i < n
    ·have k1:(i:Int) < P:=hi.1
     have k2:(i:Int) < (n:Int):=by omega
     have hiB:RowKit.Hid (i < 20):=Lib.hid (by have:=HB.out; omega)
     have k3:(i:Int) < 800:=by have:=H.out.2.2.1; omega
     have ci:wr.cell? ⟨b,i,none⟩ = some (.int .u8 ((σ.d i:Nat):Int)):=by obtain ⟨m,hm⟩:=HR.out; rw [hm]; exact H.out.1.digit (i:=i) (by omega)
     clear hi
     go_wp2_with fail
     go_roundg (gk - 1)
     case measure => have:=hiB.out; omega
     case rel => exact ⟨i + 1,_,by have:=hiB.out; omega,by first | rfl | (go_num; done),rfl,HR.out⟩
    ·by_cases k1:(i:Int) < P
     ·have k2:¬ (i:Int) < (n:Int):=by omega
      have hiB:RowKit.Hid (i ≤ 20):=Lib.hid (by have:=HB.out; omega)
      clear hi
      go_wp2_with fail
      go_meet
      exact ⟨i,z,rfl,rfl,hiB.out,HR.out⟩
     ·have hiB:RowKit.Hid (i ≤ 20):=Lib.hid (by omega)
      clear hi
      go_wp2_with fail
      go_meet
      exact ⟨i,z,rfl,rfl,hiB.out,HR.out⟩
  case rest =>
   obtain ⟨i,z,rfl,rfl,HI⟩:=hcut
   generalize wc = w1 at *
   go_wp2_with fail
   go_loopg [3,4] (20 - i) (fun gq s3 s4 wx => ∃ (i:Nat) (z:Int),gq + i = 20 ∧ s3 = .int .i64 (i:Int) ∧ s4 = .int .u64 z ∧ RowKit.Hid (∃ m,wx = w.drewN m))
   case atStart => exact ⟨i,z,by have:=HI.out.1; omega,rfl,rfl,HI.out.2⟩
   case round =>
    obtain ⟨j,y,hgi,rfl,rfl,HR⟩:=hrel
    have hw1:wrap64 ((j:Int) + 1) = ((j + 1:Nat):Int):=by unfold wrap64; omega
    have q9:wr.cell? ⟨b,801,none⟩ = some (.int .i64 P):=by obtain ⟨m,hm⟩:=HR.out; rw [hm]; exact (HC.out m).2
    by_cases k1:(j:Int) < P
    ·have hiB:RowKit.Hid (j < 20):=Lib.hid (by have:=HB.out; omega)
     go_wp2_with fail
     go_roundg (gk - 1)
     case measure => have:=hiB.out; omega
     case rel => exact ⟨j + 1,_,by have:=hiB.out; omega,by first | rfl | (go_num; done),rfl,HR.out⟩
    ·have HRR:=Lib.hid (HRd.out wr (by obtain ⟨m,hm⟩:=HR.out; rw [hm]; exact H.out.1))
     go_wp2_with fail
     refine HRR.out.mono ?_
     rintro e w2 ⟨⟨r,rfl⟩,hw2⟩
     have HW2:=Lib.hid hw2
     clear hw2
     have hfin:RowKit.Hid (∃ m,w2 = w.drewN m):=Lib.hid (by obtain ⟨m,hm⟩:=HR.out; obtain ⟨q,hq⟩:=HW2.out; exact ⟨m + q,by rw [hq,hm,World.drewN_drewN]⟩)
     cases r
     ·go_wp2_with fail
      go_ret
      exact ⟨⟨_,rfl⟩,hfin.out⟩
     ·go_wp2_with fail
      go_ret
      exact ⟨⟨_,rfl⟩,hfin.out⟩

def RsQ (b k:Nat) (σ:DS) (w:World) (e:Ending) (w':World):Prop:=
 e = .returned (.tuple #[]) ∧ RowKit.Hid ((∃ (τ:DS) (m:Nat),DAt w' b τ ∧ Dc.Ok τ m ∧ σ.dp - 20 * (k:Int) ≤ τ.dp ∧ τ.dp ≤ σ.dp) ∧ Keep (· = b) w w')

theorem shiftR_any (b:Nat) (σ:DS) (n k:Nat) (w:World) (h:DAt w b σ) (ho:Dc.Ok σ n) (hk1:1 ≤ k) (hk2:k ≤ 60) (hp:-10995116277 ≤ σ.dp ∧ σ.dp ≤ 10995116277) :
  Calls Tryz.prog 134 #[.pointer (some ⟨b,0,none⟩),.int .i64 (-(k:Int))] w (RgQ b k σ n w):=by
 have HR:=Lib.hid (right_any b σ n k w h ho hk1 hk2 (by omega) (by omega))
 have c8:=h.cnd
 rw [ho.nd] at c8
 have n0:((n:Int) == 0) = false:=by rw [beq_eq_false_iff_ne]; have:=ho.good.one; omega
 have k1:¬ 0 < -(k:Int):=by omega
 have k2:-(k:Int) < 0:=by omega
 have k3:¬ -(k:Int) < -60:=by omega
 have kz:(0:Int) < (k:Int):=by omega
 have k4:¬ (60:Int) < (k:Int):=by omega
 have hww:IntKind.u64.wrap (k:Int) = (k:Int):=by rw [IntKind.wrap_u64]; omega
 clear h ho hk1 hk2 hp
 go_enter Tryz.func134,Tryz.ntmps134
 go_wp2_with fail
 go_loopg [1] 0 (fun gq s1 wx => s1 = .int .i64 (-(k:Int)) ∧ wx = w)
 case atStart => exact ⟨rfl,rfl⟩
 case round =>
  obtain ⟨rfl,hwr⟩:=hrel
  subst hwr
  go_wp2_with fail
  refine HR.out.mono ?_
  rintro e w1 ⟨rfl,hq⟩
  have HQ:=Lib.hid hq.out
  clear hq
  go_wp2_with fail
  go_end0
  exact ⟨rfl,HQ.out⟩

theorem shiftL_any (B b:Nat) (σ:DS) (n k:Nat) (w:World) (h:DAt w b σ) (ho:Dc.Ok σ n) (hk1:1 ≤ k) (hk2:k ≤ 60) (hp:-10995116277 ≤ σ.dp ∧ σ.dp ≤ 10995116277) (hC:Chs B w) (hB:B ≤ b) :
  Calls Tryz.prog 134 #[.pointer (some ⟨b,0,none⟩),.int .i64 (k:Int)] w (LfQ b σ w):=by
 have HR:=Lib.hid (left_any B b σ n k w h ho hk1 hk2 (by omega) (by omega) hC hB)
 have c8:=h.cnd
 rw [ho.nd] at c8
 have n0:((n:Int) == 0) = false:=by rw [beq_eq_false_iff_ne]; have:=ho.good.one; omega
 have kz:(0:Int) < (k:Int):=by omega
 have k4:¬ (60:Int) < (k:Int):=by omega
 have hww:IntKind.u64.wrap (k:Int) = (k:Int):=by rw [IntKind.wrap_u64]; omega
 clear h ho hk1 hk2 hp hC
 go_enter Tryz.func134,Tryz.ntmps134
 go_wp2_with fail
 go_loopg [1] 0 (fun gq s1 wx => s1 = .int .i64 (k:Int) ∧ wx = w)
 case atStart => exact ⟨rfl,rfl⟩
 case round =>
  obtain ⟨rfl,hwr⟩:=hrel
  subst hwr
  go_wp2_with fail
  refine HR.out.mono ?_
  rintro e w1 ⟨rfl,hq⟩
  have HQ:=Lib.hid hq.out
  clear hq
  go_wp2_with fail
  go_end0
  exact ⟨rfl,HQ.out⟩

theorem shiftM_any (b:Nat) (σ:DS) (n k:Nat) (w:World) (h:DAt w b σ) (ho:Dc.Ok σ n) (hk1:1 ≤ k) (hk2:k ≤ 1000000) (hp:-10995116277 ≤ σ.dp ∧ σ.dp ≤ 10995116277) :
  Calls Tryz.prog 134 #[.pointer (some ⟨b,0,none⟩),.int .i64 (-(k:Int))] w (RsQ b k σ w):=by
 have H:=Lib.hid (And.intro h (And.intro ho (And.intro hk1 (And.intro hk2 hp))))
 have c8:=h.cnd
 rw [ho.nd] at c8
 have n0:((n:Int) == 0) = false:=by rw [beq_eq_false_iff_ne]; have:=ho.good.one; omega
 have k1:¬ 0 < -(k:Int):=by omega
 have k2:-(k:Int) < 0:=by omega
 have kz:(0:Int) < (k:Int):=by omega
 clear h ho hk1 hk2 hp
 go_enter Tryz.func134,Tryz.ntmps134
 go_wp2_with fail
 go_loopg [1] k (fun gq s1 wx => s1 = .int .i64 (-(gq:Int)) ∧ RowKit.Hid (1 ≤ gq ∧ gq ≤ k ∧ ∃ (τ:DS) (m:Nat),DAt wx b τ ∧ Dc.Ok τ m ∧ σ.dp - 20 * ((k:Int) - gq) ≤ τ.dp ∧ τ.dp ≤ σ.dp ∧ Keep (· = b) w wx))
 case atStart => exact ⟨rfl,H.out.2.2.1,Nat.le_refl _,σ,n,H.out.1,H.out.2.1,by omega,Int.le_refl _,Keep.refl _ _⟩
 case round =>
  obtain ⟨rfl,HQ⟩:=hrel
  obtain ⟨τ,m,t1,t2,t3,t4,t5⟩:=HQ.out.2.2
  have hg:=HQ.out
  have hkk:=H.out.2.2.2
  by_cases hq:60 < gk
  ·have HR:=Lib.hid (right_any b τ m 60 wr t1 t2 (by omega) (by omega) (by omega) (by omega))
   have q1:-(gk:Int) < -60:=by omega
   have q2:(60:Int) < (gk:Int):=by omega
   have hw1:wrap64 (-(gk:Int) + 60) = -((gk - 60:Nat):Int):=by unfold wrap64; omega
   have HT:=Lib.hid (And.intro t3 (And.intro t4 (And.intro t5 (And.intro hq (And.intro hg.2.1 hkk)))))
   clear t1 t2 t3 t4 t5 hg hkk hq
   go_wp2_with fail
   refine HR.out.mono ?_
   rintro e w1 ⟨rfl,hq⟩
   have HQ1:=Lib.hid hq.out
   clear hq
   go_wp2_with fail
   go_roundg (gk - 60)
   case measure => have:=HT.out.2.2.2.1; omega
   case rel =>
    obtain ⟨⟨τ',m',u1,u2,u3,u4,-⟩,uk⟩:=HQ1.out
    have h1:=HT.out
    refine ⟨by first | rfl | (rw [hw1]; done),by omega,by omega,τ',m',u1,u2,by omega,by omega,h1.2.2.1.trans uk⟩
  ·have q1:¬ -(gk:Int) < -60:=by omega
   have q2:¬ (60:Int) < (gk:Int):=by omega
   have HR:=Lib.hid (right_any b τ m gk wr t1 t2 hg.1 (by omega) (by omega) (by omega))
   have hww:IntKind.u64.wrap (gk:Int) = (gk:Int):=by rw [IntKind.wrap_u64]; omega
   have HT:=Lib.hid (And.intro t3 (And.intro t4 (And.intro t5 hg)))
   clear t1 t2 t3 t4 t5 hg hkk hq
   go_wp2_with fail
   refine HR.out.mono ?_
   rintro e w1 ⟨rfl,hq⟩
   have HQ1:=Lib.hid hq.out
   clear hq
   go_wp2_with fail
   go_end0
   obtain ⟨⟨τ',m',u1,u2,u3,u4,-⟩,uk⟩:=HQ1.out
   have h1:=HT.out
   exact ⟨rfl,⟨τ',m',u1,u2,by omega,by omega⟩,h1.2.2.1.trans uk⟩
end Go.Proofs.YtkkecpamnnojoaaGreatDoor
