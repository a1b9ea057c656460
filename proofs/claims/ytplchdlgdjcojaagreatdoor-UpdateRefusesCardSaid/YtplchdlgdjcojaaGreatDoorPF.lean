/-
  The statement UpdateRefusesSaid: the law answers true whatever the input, and its arguments read as they did.
  Conditions: none.
-/
import Derived.Test.YtplchdlgdjcojaaGreatDoorPF7
import Derived.Test.YtplchdlgdjcojaaGreatDoorRows
import Derived.Test.YtplchdlgdjcojaaGreatDoorProg
import Derived.Test.YtplchdlgdjcojaaGreatDoorTie
import Derived.Test.YtplchdlgdjcojaaGreatDoorCards
namespace Go.Proofs.YtplchdlgdjcojaaGreatDoor
open Go Go.ChangeShapes Go.WideShapes Go.ChangeAt Go.RowKit
set_option linter.unusedVariables false
set_option linter.unusedSimpArgs false
set_option maxRecDepth 20000

/-- The cells of what a variable holds. -/
def zWH:Nat→DataW Unit→List Value
 | 0,_=> []
 | n+1, .lit (.int k i)=> [.int k i]
 | n+1, .lit (.bool b)=> [.bool b]
 | n+1, .agg xs=>xs.flatMap (zWH n)
 | _,_=> []
def lay (g:Nat) (cs:List Value) (w:World):World:= { w with heap:=w.heap.modify g fun
  | .cells _ t frozen=>.cells cs.toArray t frozen
  | o=>o }
def zXw (g:Nat) (es:List MapEntry) (w:World):World:= { w with heap:=(w.heap.push (.map es.toArray es.length)).modify g fun
  | .cells _ t frozen=>.cells #[.map (some w.heap.size)] t frozen
  | o=>o }
/-- The settled world, the listed variables laid. -/
noncomputable def laidWorld (os:Os):World:=zXw 0 [⟨.int .i64 2, .func (.func 315) #[] #[],0⟩,⟨.int .i64 3, .func (.func 316) #[] #[],1⟩] ((World.holding Tryz.prog os ⟨#[],#[], []⟩))
theorem zRz (os:Os) (args:Array Value):laidMetH Tryz.prog Rows.updateRefusesRow.laid ((laidWorld os).forCall (fun _ _=>0) ⟨#[],args, []⟩).memory:=
 laidMetH_of_parts3 (fuel:=20) (laidMet_of_run3 20 (by kernel_rfl) (by kernel_rfl) (by kernel_rfl)) (by kernel_rfl) (by kernel_rfl)

set_option maxRecDepth 100000 in
theorem aM (os:Os) (started:os.Started) (H:Type) (enc:TypeId × Value→H):
  ReturnsInHanded {} Tryz.checked os 8 .any (fun w args=>(Rows.updateRefusesSpec.pre enc Tryz.prog Tryz.f8 Rows.updateRefusesRow.domain false w args∧laidMetH Tryz.prog Rows.updateRefusesRow.laid w)∧sizedMet enc Tryz.prog Tryz.f8 (OpenSpec.ofChange Rows.updateRefusesSpec) false w args) (Rows.updateRefusesSpec.post enc Tryz.prog Tryz.f8 false true false false):=by
 refine returnsInHanded_of_change_and (C:=Tryz.checked) (X:=fun w _=>laidMetH Tryz.prog Rows.updateRefusesRow.laid w) (fun _ _ _ hh h=>h.of_heap hh) Tryz.own' started (by kernel_rfl) Tryz.func8
  (ChangeSpec.witness_shaped (enc:=enc) (C:=Tryz.checked) (os:=os) (X:=fun w _=>laidMetH Tryz.prog Rows.updateRefusesRow.laid w) false (laidWorld os) #[.slice none 0 0, .slice none 0 0, .int .i64 0] 8 rfl (World.shaped_of_RefB (by kernel_rfl) (by kernel_rfl)) (by kernel_rfl) (by kernel_rfl) (by kernel_rfl) (zRz os _)) ?_
 intro W base args ds gs before hval0 hW hcnd _ hL _
 have hval:∀ (j:Nat) t v,Tryz.f8.params[j]? =some t→args[j]? =some v→Value.okWide Tryz.prog W .any base t v:=hval0
 clear hval0 hcnd
 have hW':=hW
 obtain ⟨p,q,hA0,hV,_,_,_⟩:=hW
 obtain ⟨rfl,_⟩:=trodVars_none hV
 have hA:DataW.TrodAll enc Tryz.prog W 0 (fun _=>true) true Tryz.f8.params.toList args.toList ds p:=hA0
 rw [Tryz.params8] at hA hval
 obtain ⟨args⟩:=args
 obtain ⟨v0,vs0,d0,ds0,p0,q0,hvs,rfl,_,h0,hB0⟩:=trodAll_cons hA
 replace hvs:args=_:=hvs
 subst hvs
 obtain ⟨v1,vs1,d1,ds1,p1,q1,rfl,rfl,_,h1,hB1⟩:=trodAll_cons hB0
 obtain ⟨v2,vs2,d2,ds2,p2,q2,rfl,rfl,_,h2,hB2⟩:=trodAll_cons hB1
 obtain ⟨rfl,rfl,_⟩:=trodAll_nil hB2
 obtain ⟨x0,ex0,e0,k0,f0⟩:=zFy (zGX Tryz.underlying22 (by kernel_rfl) (by decide) (zJF (zIe Tryz.underlying5:RdL Tryz.prog zWV (inK .u8) 5) (fun y ex=>rfl)):RdL Tryz.prog zOs (okL (inK .u8)) 22) h0
 obtain ⟨⟨A0_0,c0_0⟩,_⟩:=ex0
 obtain ⟨A0,l0,c0,rfl⟩:=okWide_slice Tryz.underlying22 (hval 0 22 v0 rfl rfl)
 obtain ⟨rfl,rfl,rfl⟩:A0_0=A0∧x0.length=l0∧c0_0=c0:=by injection e0 with e _; injection e with e1 e2 e3; exact ⟨e1.symm,e2.symm,e3.symm⟩
 obtain ⟨x1,ex1,e1,k1,f1⟩:=zFy (zGX Tryz.underlying22 (by kernel_rfl) (by decide) (zJF (zIe Tryz.underlying5:RdL Tryz.prog zWV (inK .u8) 5) (fun y ex=>rfl)):RdL Tryz.prog zOs (okL (inK .u8)) 22) h1
 obtain ⟨⟨A1_0,c1_0⟩,_⟩:=ex1
 obtain ⟨A1,l1,c1,rfl⟩:=okWide_slice Tryz.underlying22 (hval 1 22 v1 rfl rfl)
 obtain ⟨rfl,rfl,rfl⟩:A1_0=A1∧x1.length=l1∧c1_0=c1:=by injection e1 with e _; injection e with e1 e2 e3; exact ⟨e1.symm,e2.symm,e3.symm⟩
 obtain ⟨x2,ex2,e2,k2,f2⟩:=zFy (zIe Tryz.underlying3:RdL Tryz.prog zXh (inK .i64) 3) h2
 obtain ⟨n2,rfl⟩:=okWide_int Tryz.underlying3 (hval 2 3 v2 rfl rfl)
 obtain rfl:x2=n2:=by injection e2 with e _; injection e with _ e; exact e.symm
 have hg0:(zDm 0 [(2,some 315),(3,some 316)]).p (hp W):=zPu (l:=Rows.updateRefusesRow.laid) (nm:= "baseboard/update.steps") (t:=148) (k:=3) (e:=147) hL (List.Mem.head _) (by kernel_rfl) (by kernel_rfl) Tryz.underlying148 Tryz.underlying3 Tryz.underlying147 ⟨rfl,by kernel_rfl,⟨rfl,by kernel_rfl,trivial⟩⟩ (by decide)
 have hsat:=zOv (w:=W) [SlL eu8 A0_0 c0_0 x0,SlL eu8 A1_0 c1_0 x1,zDm 0 [(2,some 315),(3,some 316)]] (by simp only [List.mem_cons,List.not_mem_nil,or_false,forall_eq_or_imp,forall_eq]; exact ⟨f0 _ (.head _),f1 _ (.head _),hg0⟩)
 have hm:=zIl x0 x1 x2 k0 k1 k2
 refine ((bR hm).quiet rfl ⟨(.head _),(.tail _ (.head _)),(.tail _ (.tail _ (.head _))),trivial⟩ hsat).mono fun e W' ⟨he,hw⟩=>?_
 subst he
 exact ⟨_,rfl,zSn Tryz.laid' rfl rfl Tryz.underlying4 (by kernel_rfl) rfl hW' hw⟩

theorem updateRefuses_row_holds:Rows.UpdateRefusesSaid:=
 OpenClaim.holds_of_wide 8 Tryz.f8 rfl rfl rfl rfl rfl rfl rfl ⟨rfl,rfl,rfl,rfl,rfl⟩ rfl rfl rfl rfl rfl (by kernel_rfl) Tryz.func8 (by kernel_rfl)
  (of_decide_eq_true (by kernel_rfl)) (by unfold Func.isWrapper; first | (rw [if_pos (by decide+kernel)]; kernel_rfl) | (rw [if_neg (by decide+kernel)]; exact ⟨rfl,rfl⟩))
  (fun os started H enc _=>aM os started H enc)

theorem updateRefuses_holds:Rows.UpdateRefusesCardSaid:=
 Claim7.holds_tied_plain_at .later [] [.funcs] true (true, "cfe594e962d36ea5776570d19fd160328c90e4cdf266319e1a892b949101c819") true
  updateRefuses_row_holds (fun _ h=>by cases h) (by kernel_rfl) (fun _ h=>by cases h) updateRefuses_row_tie rfl ⟨rfl,rfl⟩ (by kernel_rfl) rfl
  (fun f fn hf hfn=>by
   obtain rfl:f=8:=Option.some.inj ((show Tryz.prog.funcNamed "baseboard/baseboardlaw32.UpdateRefuses" =some 8 by kernel_rfl).symm.trans hf) |>.symm
   obtain rfl:fn=Tryz.f8:=(Option.some.inj (Tryz.func8.symm.trans hfn)).symm
   refine ⟨by kernel_rfl,fun j t ht=>?_⟩
   rw [Tryz.params8] at ht
   have hm:=Array.mem_of_getElem? ht
   simp only [List.mem_toArray,List.mem_cons,List.not_mem_nil,or_false] at hm
   rcases hm with rfl | rfl | rfl <;> (show _=_) <;> kernel_rfl)
  (by kernel_rfl)

#print axioms updateRefuses_holds

end Go.Proofs.YtplchdlgdjcojaaGreatDoor
