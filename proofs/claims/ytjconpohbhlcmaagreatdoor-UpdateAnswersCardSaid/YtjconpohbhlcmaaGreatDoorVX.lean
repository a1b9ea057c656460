/-
  The statement UpdateAnswersSaid: the law answers true whatever the input, and its arguments read as they did.
  Conditions: none.
-/
import Derived.Test.YtjconpohbhlcmaaGreatDoorVX9
import Derived.Test.YtjconpohbhlcmaaGreatDoorRows
import Derived.Test.YtjconpohbhlcmaaGreatDoorProg
import Derived.Test.YtjconpohbhlcmaaGreatDoorTie
import Derived.Test.YtjconpohbhlcmaaGreatDoorCards
namespace Go.Proofs.YtjconpohbhlcmaaGreatDoor
open Go Go.ChangeShapes Go.WideShapes Go.ChangeAt Go.RowKit
set_option linter.unusedVariables false
set_option linter.defProp false
set_option linter.unusedSimpArgs false
set_option maxRecDepth 20000

def yCM:List (LC Int):=[.v (λx=>.int .u8 x) (λ_=>O)]
def zZX:List (LC (List Int)):=[.s (DN BQ) (λx=>x)]
/-- The cells of what a variable holds. -/
def yCq:Nat->DataW Unit->List Value
 |0,_=>[]|n+1,.lit (.int k i)=>[.int k i]|n+1,.lit (.bool b)=>[.bool b]|n+1,.agg xs=>xs.flatMap (yCq n)|_,_=>[]
def lay(g:Nat)(cs:List Value)(w:World):World:={w with heap:=w.heap.modify g λ
 |.cells _ t frozen=>.cells cs.toArray t frozen|o=>o}
def yCO(g:Nat)(es:List MapEntry)(w:World):World:={w with heap:=(w.heap.push (.map es.toArray es.length)).modify g λ
 |.cells _ t frozen=>.cells #[.map (some w.heap.size)] t frozen|o=>o}
/-- The settled world, the listed variables laid. -/
noncomputable def laidWorld(os:Os):World:=yCO 0 [⟨.int .i64 2,.func (.func 296) #[] #[],0⟩,⟨.int .i64 3,.func (.func 297) #[] #[],1⟩] (World.holding Tryz.prog os ⟨#[],#[],[]⟩)
def zYP(os:Os)(args:Array Value):laidMetH Tryz.prog Rows.updateAnswersRow.laid ((laidWorld os).forCall (λ_ _=>0) ⟨#[],args,[]⟩).memory:=
 laidMetH_of_parts3 (fuel:=20) (laidMet_of_run3 20 (by kernel_rfl) (by kernel_rfl) (by kernel_rfl)) (by kernel_rfl) (by kernel_rfl)
set_option maxRecDepth 100000 in
def zDZ(os:Os)(started:os.Started)(H:Type)(enc:TypeId×Value->H):ReturnsInHanded {} Tryz.checked os 3 .any (λw args=>(Rows.updateAnswersSpec.pre enc Tryz.prog Tryz.f3 Rows.updateAnswersRow.domain false w args/\laidMetH Tryz.prog Rows.updateAnswersRow.laid w)/\sizedMet enc Tryz.prog Tryz.f3 (OpenSpec.ofChange Rows.updateAnswersSpec) false w args) (Rows.updateAnswersSpec.post enc Tryz.prog Tryz.f3 false true false false):=by
 refine returnsInHanded_of_change_and (C:=Tryz.checked) (X:=λw _=>laidMetH Tryz.prog Rows.updateAnswersRow.laid w) (λ_ _ _ hh h=>h.of_heap hh) Tryz.own' started (by kernel_rfl) Tryz.func3
  (ChangeSpec.witness_shaped (enc:=enc) (C:=Tryz.checked) (os:=os) (X:=λw _=>laidMetH Tryz.prog Rows.updateAnswersRow.laid w) false (laidWorld os) #[.slice none 0 0] 8 O (World.shaped_of_RefB (by kernel_rfl) (by kernel_rfl)) (by kernel_rfl) (by kernel_rfl) (by kernel_rfl) (zYP os _)) ?_
 intro W base args ds gs before hval0 hW hcnd hwt hL _;have hval:∀(j:Nat) t v,Tryz.f3.params[j]?=some t->args[j]?=some v->Value.okWide Tryz.prog W .any base t v:=hval0;clear hval0 hcnd;have hW':=hW;obtain⟨p,q,hA0,hV,_,_,_⟩:=hW;obtain⟨rfl,_⟩:=trodVars_none hV;have hA:DataW.TrodAll enc Tryz.prog W 0 (λ_=>true) true Tryz.f3.params.toList args.toList ds p:=hA0;rw[Tryz.params3]at hA hval;obtain⟨args⟩:=args;obtain⟨v0,vs0,d0,ds0,p0,q0,hvs,rfl,_,h0,hB0⟩:=trodAll_cons hA;replace hvs:args=_:=hvs;subst hvs;obtain⟨rfl,rfl,_⟩:=trodAll_nil hB0;obtain⟨x0,ex0,e0,k0,f0⟩:=zWF (zWd (enc:=enc) (C:=λ_=>true) (f:=true) Tryz.underlying22 (by kernel_rfl) (by decide) (zXd (zZZ Tryz.underlying5:Qz Tryz.prog yCM (Di .u8) 5) (λy ex=>rfl)):Qz Tryz.prog zZX (Ji (Di .u8)) 22) h0;obtain⟨⟨A8,C9⟩,_⟩:=ex0;obtain⟨A0,l0,c0,rfl⟩:=okWide_slice Tryz.underlying22 (hval 0 22 v0 rfl rfl);obtain⟨rfl,rfl,rfl⟩:A8=A0/\x0.length=l0/\C9=c0:=by injection e0 with e _;injection e with e1 e2 e3;exact⟨e1.symm,e2.symm,e3.symm⟩
 have hg0:(WR 0 [(2,some 296),(3,some 297)]).p (hp W):=zVM (l:=Rows.updateAnswersRow.laid) hL (List.Mem.head _) (by kernel_rfl) (by kernel_rfl) Tryz.underlying119 Tryz.underlying3 Tryz.underlying118 ⟨O,by kernel_rfl,⟨O,by kernel_rfl,trivial⟩⟩ (by decide);have OX:=zTR (w:=W) [FB BQ A8 C9 x0,WR 0 [(2,some 296),(3,some 297)]] (by simp only[List.mem_cons,List.not_mem_nil,or_false,forall_eq_or_imp,forall_eq];exact⟨f0 _ (.head _),hg0⟩);have hm:=zPz x0 k0;refine((zDQ hm).quiet O ⟨(.head _),(.tail _ (.head _)),trivial⟩ OX).mono λe W' ⟨he,hw⟩=>?_
 subst he;exact⟨_,O,zXT Tryz.laid' O O Tryz.underlying4 (by kernel_rfl) O hW' hw⟩
theorem updateAnswers_row_holds:Rows.UpdateAnswersSaid:=
 OpenClaim.holds_of_wide 3 Tryz.f3 O O O O O O O ⟨O,O,O,O,O⟩ O O O O O (by kernel_rfl) Tryz.func3 (by kernel_rfl)
  (of_decide_eq_true (by kernel_rfl)) (by unfold Func.isWrapper;first|(rw[if_pos (by decide+kernel)];kernel_rfl)|(rw[if_neg (by decide+kernel)];exact⟨O,O⟩))
  (λos started H enc _=>zDZ os started H enc)
theorem updateAnswers_holds:Rows.UpdateAnswersCardSaid:=
 Claim7.holds_tied_plain_at .later [] [.funcs] true (true, "9d4adfa8862a8fc7d7e85978165d5eb3ee693b56ce892b8f3276143635c8c298") true
  updateAnswers_row_holds (λ_ h=>by cases h) (by kernel_rfl) (λ_ h=>by cases h) updateAnswers_row_tie rfl ⟨rfl,rfl⟩ (by kernel_rfl) O
  (λf fn hf hfn=>by obtain rfl:f=3:=Option.some.inj ((show Tryz.prog.funcNamed "baseboard/baseboardlaw32.UpdateAnswers" =some 3 by kernel_rfl).symm.trans hf)|>.symm;obtain rfl:fn=Tryz.f3:=(Option.some.inj (Tryz.func3.symm.trans hfn)).symm;refine⟨by kernel_rfl,λj t ht=>?_⟩;rw[Tryz.params3]at ht;have hm:=Array.mem_of_getElem? ht;simp only[List.mem_toArray,List.mem_cons,List.not_mem_nil,or_false]at hm;rcases hm with rfl<;>(show _=_)<;>kernel_rfl)
  (by kernel_rfl)
#print axioms updateAnswers_holds

end Go.Proofs.YtjconpohbhlcmaaGreatDoor
