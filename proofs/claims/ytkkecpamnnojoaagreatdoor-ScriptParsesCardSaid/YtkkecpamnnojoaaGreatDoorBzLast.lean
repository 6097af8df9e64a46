/- A part of the proof of ScriptParses: nothing is assumed. By an AI agent. -/
import Derived.Test.YtkkecpamnnojoaaGreatDoorBz28
set_option linter.unusedVariables false
set_option linter.unusedSimpArgs false
set_option maxRecDepth 100000
set_option maxHeartbeats 32000000
namespace Go.Proofs.YtkkecpamnnojoaaGreatDoor
open Go.ChangeShapes Go.WideShapes Go.ChangeAt Go.RowKit
open Bt Dc By
namespace scriptParses
open Sc
theorem one{H:Type}{enc:TypeId×Value->H}{P:Program}{w:World}{base:Nat}{spare:Nat->Bool}{held:Bool}{t0:TypeId}{args:Array Value}{ds:List (DataW H)}{ps:List MemPlace}(h:DataW.TrodAll enc P w base spare held [t0] args.toList ds ps):
  ∃v0 d0 p0,args=#[v0]/\ds=[d0]/\ps=(p0++[])/\DataW.Trod enc P w base spare held t0 v0 d0 p0:=by
 obtain⟨v0,vs0,d0,ds',p0,q,ha,rfl,rfl,h0,h⟩:=trodAll_cons h;obtain⟨rfl,rfl,rfl⟩:=trodAll_nil h;exact⟨v0,d0,p0,by cases args;simp_all,rfl,rfl,h0⟩
theorem z8F:Rows.scriptParsesRow.laid=Rows.scriptPrintsRow.laid:=by kernel_rfl
theorem zcy(H:Type)(enc:TypeId×Value->H)(W:World)(base:Nat)(args:Array Value)(ds gs:List (DataW H))(before:List MemPlace)
  (hval:∀(j:Nat) t v,Tryz.f3.params[j]?=some t->args[j]?=some v->Value.okWide Tryz.prog W .any base t v)
  (hW:DataW.Whole enc Tryz.prog Tryz.f3.params.toList Rows.scriptParsesSpec.vars false W args.toList ds gs before)(hL:laidMetH Tryz.prog Rows.scriptParsesRow.laid W)(hS:W.ShapedOpen Tryz.prog):
  Calls Tryz.prog 3 args W fun e W'=>∃v,e=.returned v/\Rows.scriptParsesSpec.post enc Tryz.prog Tryz.f3 false true false false W args v W':=by
 have hW':=hW;rw[z8F]at hL;have hEv:=zfw hL hS;obtain⟨p,q,hA0,hV,rfl,hfz,hnd⟩:=hW;have hA:DataW.TrodAll enc Tryz.prog W 0 (fun _=>true) true Tryz.f3.params.toList args.toList ds p:=hA0;rw[Tryz.params3]at hA hval;obtain⟨v0,d0,p0,rfl,rfl,rfl,h0⟩:=one hA;obtain⟨f0,h0⟩:=h0;obtain⟨l,v,e1,hsl,hll,hlm⟩:=zdc h0;obtain⟨a1,n1,c1,rfl⟩:=okWide_slice Tryz.underlying22 (hval 0 22 v0 rfl rfl);obtain rfl:v=.slice a1 n1 c1:=(by simpa[Value.cells]using e1.symm);obtain⟨o,cap,e2,hws⟩:=zfh hsl;rw[e2]at hW'⊢
 refine(z7F o cap l W hws hlm (fun i=>?_) hEv).mono fun e W' ⟨he,hk⟩=>?_
 ·rcases Nat.lt_or_ge i l.length with hi|hi
  ·rw[List.getD_eq_getElem?_getD,List.getElem?_eq_getElem hi];exact hll _ (List.getElem_mem hi)
  ·rw[List.getD_eq_getElem?_getD,List.getElem?_eq_none hi];simp
 subst he;exact⟨_,rfl,zbM (by kernel_rfl) (T:=4) (zeV (by kernel_rfl)) hW' rfl rfl rfl Tryz.underlying4 hk.none⟩
theorem zfn(os:Os){H:Type}(enc:TypeId×Value->H):∃places,DataW.whole enc Tryz.prog ((z6q os).forCall (fun _ _=>0) ⟨#[],#[.slice none 0 0],[]⟩).memory Tryz.f3.params.toList Rows.scriptParsesSpec.vars false #[Value.slice none 0 0].toList 8=some ([.nil],[],places):=
 ⟨[],by kernel_rfl⟩
theorem zeR(os:Os)(started:os.Started)(H:Type)(enc:TypeId×Value->H)(F:Stop.Interp):
  ReturnsInHanded {} Tryz.checked os 3 .any ((OpenSpec.ofChange Rows.scriptParsesSpec).preRow enc Tryz.prog Tryz.f3 Rows.scriptParsesRow.domain false Rows.scriptParsesRow.laid) (((OpenSpec.ofChange Rows.scriptParsesSpec).at F).post enc Tryz.prog Tryz.f3 false true false false):=by
 obtain⟨places,hx⟩:=zfn os enc
 refine returnsInHanded_of_row (C:=Tryz.checked) (s:=OpenSpec.ofChange Rows.scriptParsesSpec) own started (by kernel_rfl) Tryz.func3
  (z72 (enc:=enc) (C:=Tryz.checked) (z6q os) #[.slice none 0 0] (zbN os) (z5j os _) (by kernel_rfl)
   (OpenSpec.preRow_of_cond 8 hx (by kernel_rfl) (fun k hk=>by cases hk) (by kernel_rfl) (by rw[z8F];exact z9S os _))) ?_
 intro W base args ds gs before hval hW _ _ _ hL hS _;exact zcy H enc W base args ds gs before hval hW hL hS
theorem zfK:Rows.ScriptParsesSaid:=
 OpenClaim.holds_of_cond 3 Tryz.f3 rfl rfl rfl rfl rfl rfl rfl ⟨rfl,rfl,rfl,rfl,rfl⟩ rfl rfl rfl rfl rfl (by kernel_rfl) Tryz.func3 (by kernel_rfl)
  (of_decide_eq_true (by kernel_rfl)) (by unfold Func.isWrapper;first|(rw[if_pos (by decide+kernel)];kernel_rfl)|(rw[if_neg (by decide+kernel)];exact⟨rfl,rfl⟩))
  (fun os started H enc _ F=>by rw[OpenClaim.pre_eq_preRow];exact zeR os started H enc F)
theorem zfr(f:FuncId)(fn:Func)(hf:Tryz.pinned.checked.prog.funcNamed "flume/flumelaw26.ScriptParses" =some f)(hfn:Tryz.pinned.checked.prog.funcs[f]?=some fn):
  true=Tryz.pinned.checked.prog.looks []/\∀(j:Nat) t,fn.params[j]?=some t->Tryz.pinned.checked.prog.wantsStandIn t=false:=by
 obtain rfl:f=3:=Option.some.inj ((show Tryz.prog.funcNamed "flume/flumelaw26.ScriptParses" =some 3 by kernel_rfl).symm.trans hf) |>.symm;obtain rfl:fn=Tryz.f3:=(Option.some.inj (Tryz.func3.symm.trans hfn)).symm;refine⟨by kernel_rfl,fun j t ht=>?_⟩;rw[Tryz.params3]at ht;have hm:=Array.mem_of_getElem? ht;simp only[List.mem_toArray,List.mem_cons,List.not_mem_nil,or_false]at hm;have gt:Tryz.prog.wantsStandIn 22=false:=(by kernel_rfl);rcases hm with rfl;exact gt
theorem proved:Rows.ScriptParsesCardSaid:=
 Claim7.holds_tied_plain_at .later [] _ _ _ _ zfK (fun _ h=>by cases h) (by kernel_rfl) (fun _ h=>by cases h) scriptParses_row_tie rfl ⟨rfl,rfl⟩ (by kernel_rfl) rfl zfr (by kernel_rfl)
end scriptParses
end Go.Proofs.YtkkecpamnnojoaaGreatDoor
