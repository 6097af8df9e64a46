/- A part of the proof of ScriptPrints: nothing is assumed. By an AI agent. -/
import Derived.Test.YtkkecpamnnojoaaGreatDoorBp20
import Derived.Test.YtkkecpamnnojoaaGreatDoorBp24
set_option linter.unusedVariables false
set_option linter.unusedSimpArgs false
set_option maxRecDepth 100000
set_option maxHeartbeats 32000000
namespace Go.Proofs.YtkkecpamnnojoaaGreatDoor
open Go.ChangeShapes Go.WideShapes Go.ChangeAt Go.RowKit
open Bt Dc By
namespace scriptPrints
open Sc
theorem one {H:Type} {enc:TypeId × Value→H} {P:Program} {w:World} {base:Nat} {spare:Nat→Bool} {held:Bool} {t0:TypeId} {args:Array Value} {ds:List (DataW H)} {ps:List MemPlace} (h:DataW.TrodAll enc P w base spare held [t0] args.toList ds ps) :
  ∃ v0 d0 p0,args = #[v0]∧ds = [d0]∧ps = (p0 ++ [])∧DataW.Trod enc P w base spare held t0 v0 d0 p0:=by
 obtain ⟨v0,vs0,d0,ds',p0,q,ha,rfl,rfl,h0,h⟩:=trodAll_cons h
 obtain ⟨rfl,rfl,rfl⟩:=trodAll_nil h
 exact ⟨v0,d0,p0,by cases args; simp_all,rfl,rfl,h0⟩
theorem laid_eq:Rows.scriptPrintsUptoRow.laid = Rows.scriptPrintsRow.laid:=by kernel_rfl
theorem op_plays {H:Type} {enc:TypeId × Value→H} {w:World} {base:Nat} {spare:Nat→Bool} {held:Bool} {fuel:Nat} {cs:List Value} {x:DataW H × List MemPlace} (h:DataW.trod enc Tryz.prog w base spare held fuel 47 cs = some x) :
  ∃ (l:List M) (v:Value),cs = [v]∧SlAt w v l.length (l.flatMap fun m=>m.val.toList)∧(∀ m∈l,Seen w m∧PlayOk m.play)∧(l.map wP).sum + 1≤Rows.uptoBulk x.1:=
 open_sl (fun m:M=>m.val.toList) wP (fun m=>Seen w m∧PlayOk m.play) 14 (fun _=>rfl) (by decide) Tryz.underlying47 (by kernel_rfl) (fun n cs' y _ h=>by
  obtain ⟨m,h1,h2,h3,h4⟩:=op_play h
  exact ⟨m,h1,⟨h2,h3⟩,h4⟩) h
theorem contract (H:Type) (enc:TypeId × Value→H) (W:World) (base:Nat) (args:Array Value) (ds gs:List (DataW H)) (before:List MemPlace)
  (hval:∀ (j:Nat) t v,Tryz.f4.params[j]? = some t→args[j]? = some v→Value.okWide Tryz.prog W .any base t v)
  (hW:DataW.Whole enc Tryz.prog Tryz.f4.params.toList Rows.scriptPrintsSpec.vars false W args.toList ds gs before) (hL:laidMetH Tryz.prog Rows.scriptPrintsUptoRow.laid W) (hS:W.ShapedOpen Tryz.prog) (hk:Rows.uptoSmall H (ds ++ gs) = true) :
  Calls Tryz.prog 4 args W fun e W'=>∃ v,e = .returned v∧Rows.scriptPrintsSpec.post enc Tryz.prog Tryz.f4 false true false false W args v W':=by
 have hW':=hW
 rw [laid_eq] at hL
 have hEv:=ev_of hL hS
 obtain ⟨p,q,hA0,hV,rfl,hfz,hnd⟩:=hW
 have hA:DataW.TrodAll enc Tryz.prog W 0 (fun _=>true) true Tryz.f4.params.toList args.toList ds p:=hA0
 rw [Tryz.params4] at hA hval
 obtain ⟨v0,d0,p0,rfl,rfl,rfl,h0⟩:=one hA
 obtain ⟨f0,h0⟩:=h0
 have hb:=of_decide_eq_true hk
 simp only [List.cons_append,List.nil_append,Rows.uptoBulkAll] at hb
 obtain ⟨l,v,e0,hsl,hall,hwp⟩:=op_plays h0
 obtain ⟨a1,n1,c1,rfl⟩:=okWide_slice Tryz.underlying47 (hval 0 47 v0 rfl rfl)
 obtain rfl:v = .slice a1 n1 c1:=by simpa [Value.cells] using e0.symm
 have hwp':(l.map wP).sum + 1≤Rows.uptoBulk d0:=hwp
 refine (prints_any l _ W hsl (fun m hm=>⟨(hall m hm).1,(hall m hm).2,?_⟩) hEv).mono fun e W' ⟨he,hk⟩=>?_
 ·obtain ⟨i,hi,rfl⟩:=List.getElem_of_mem hm
  have:=sum_mem wP l i hi
  omega
 subst he
 exact ⟨_,rfl,law_post (by kernel_rfl) (T:=4) (hts_of (by kernel_rfl)) hW' rfl rfl rfl Tryz.underlying4 hk.none⟩
theorem reads (os:Os) {H:Type} (enc:TypeId × Value→H):∃ places,DataW.whole enc Tryz.prog ((laidW os).forCall (fun _ _=>0) ⟨#[],#[.slice none 0 0],[]⟩).memory Tryz.f4.params.toList Rows.scriptPrintsSpec.vars false #[Value.slice none 0 0].toList 8 = some ([.nil],[],places):=
 ⟨[],by kernel_rfl⟩
theorem lifted (os:Os) (started:os.Started) (H:Type) (enc:TypeId × Value→H) (F:Stop.Interp) :
  ReturnsInHanded {} Tryz.checked os 4 .any ((Rows.OpenSpec.upto Rows.scriptPrintsSpec).preRow enc Tryz.prog Tryz.f4 Rows.scriptPrintsUptoRow.domain false Rows.scriptPrintsUptoRow.laid) (((Rows.OpenSpec.upto Rows.scriptPrintsSpec).at F).post enc Tryz.prog Tryz.f4 false true false false):=by
 obtain ⟨places,hx⟩:=reads os enc
 refine returnsInHanded_of_row (C:=Tryz.checked) (s:=Rows.OpenSpec.upto Rows.scriptPrintsSpec) own started (by kernel_rfl) Tryz.func4
  (witness_of (enc:=enc) (C:=Tryz.checked) (laidW os) #[.slice none 0 0] (laidW_os os) (laidW_shaped os _) (by kernel_rfl)
   (OpenSpec.preRow_of_cond 8 hx (by kernel_rfl) (fun k hk=>by cases hk; kernel_rfl) (by kernel_rfl) (by rw [laid_eq]; exact laidW_met os _))) ?_
 intro W base args ds gs before hval hW _ hcond _ hL hS _
 exact contract H enc W base args ds gs before hval hW hL hS (hcond _ rfl)
theorem said:Rows.ScriptPrintsUptoSaid:=
 OpenClaim.holds_of_cond 4 Tryz.f4 rfl rfl rfl rfl rfl rfl rfl ⟨rfl,rfl,rfl,rfl,rfl⟩ rfl rfl rfl rfl rfl (by kernel_rfl) Tryz.func4 (by kernel_rfl)
  (of_decide_eq_true (by kernel_rfl)) (by unfold Func.isWrapper; first | (rw [if_pos (by decide +kernel)]; kernel_rfl) | (rw [if_neg (by decide +kernel)]; exact ⟨rfl,rfl⟩))
  (fun os started H enc _ F=>by rw [OpenClaim.pre_eq_preRow]; exact lifted os started H enc F)
theorem plain (f:FuncId) (fn:Func) (hf:Tryz.pinned.checked.prog.funcNamed "flume/flumelaw26.ScriptPrints" = some f) (hfn:Tryz.pinned.checked.prog.funcs[f]? = some fn) :
  true = Tryz.pinned.checked.prog.looks []∧∀ (j:Nat) t,fn.params[j]? = some t→Tryz.pinned.checked.prog.wantsStandIn t = false:=by
 obtain rfl:f = 4:=Option.some.inj ((show Tryz.prog.funcNamed "flume/flumelaw26.ScriptPrints" = some 4 by kernel_rfl).symm.trans hf) |>.symm
 obtain rfl:fn = Tryz.f4:=(Option.some.inj (Tryz.func4.symm.trans hfn)).symm
 refine ⟨by kernel_rfl,fun j t ht=>?_⟩
 rw [Tryz.params4] at ht
 have hm:=Array.mem_of_getElem? ht
 simp only [List.mem_toArray,List.mem_cons,List.not_mem_nil,or_false] at hm
 have gt:Tryz.prog.wantsStandIn 47 = false:=by kernel_rfl
 rcases hm with rfl
 exact gt
theorem proved:Rows.ScriptPrintsUptoCardSaid:=
 Claim7.holds_tied_plain_at .later [] _ _ _ _ said (fun _ h=>by cases h) (by kernel_rfl) (fun _ h=>by cases h) scriptPrintsUpto_row_tie rfl ⟨rfl,rfl⟩ (by kernel_rfl) rfl plain (by kernel_rfl)
end scriptPrints
end Go.Proofs.YtkkecpamnnojoaaGreatDoor
