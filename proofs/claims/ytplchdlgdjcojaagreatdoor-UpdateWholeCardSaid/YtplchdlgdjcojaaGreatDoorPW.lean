/-
  The statement UpdateWholeSaid: the law answers true whatever the input, and its arguments read as they did.
  Conditions: none.
-/
import Derived.Test.YtplchdlgdjcojaaGreatDoorPW7
import Derived.Test.YtplchdlgdjcojaaGreatDoorRows
import Derived.Test.YtplchdlgdjcojaaGreatDoorProg
import Derived.Test.YtplchdlgdjcojaaGreatDoorTie
import Derived.Test.YtplchdlgdjcojaaGreatDoorCards
namespace Go.Proofs.YtplchdlgdjcojaaGreatDoor
open Go Go.ChangeShapes Go.WideShapes Go.ChangeAt Go.RowKit
set_option linter.unusedVariables false
set_option linter.unusedSimpArgs false
set_option maxRecDepth 20000

/-- The cells of what a variable holds. -/
def zXw:Nat→DataW Unit→List Value
 | 0,_=> []
 | n+1, .lit (.int k i)=> [.int k i]
 | n+1, .lit (.bool b)=> [.bool b]
 | n+1, .agg xs=>xs.flatMap (zXw n)
 | _,_=> []
def lay (g:Nat) (cs:List Value) (w:World):World:= { w with heap:=w.heap.modify g fun
  | .cells _ t frozen=>.cells cs.toArray t frozen
  | o=>o }
def zXW (g:Nat) (es:List MapEntry) (w:World):World:= { w with heap:=(w.heap.push (.map es.toArray es.length)).modify g fun
  | .cells _ t frozen=>.cells #[.map (some w.heap.size)] t frozen
  | o=>o }
/-- The settled world, the listed variables laid. -/
noncomputable def laidWorld (os:Os):World:=zXW 0 [⟨.int .i64 2, .func (.func 315) #[] #[],0⟩,⟨.int .i64 3, .func (.func 316) #[] #[],1⟩] ((World.holding Tryz.prog os ⟨#[],#[], []⟩))
theorem zTa (os:Os) (args:Array Value):laidMetH Tryz.prog Rows.updateWholeRow.laid ((laidWorld os).forCall (fun _ _=>0) ⟨#[],args, []⟩).memory:=
 laidMetH_of_parts3 (fuel:=20) (laidMet_of_run3 20 (by kernel_rfl) (by kernel_rfl) (by kernel_rfl)) (by kernel_rfl) (by kernel_rfl)

set_option maxRecDepth 100000 in
theorem zBs (os:Os) (started:os.Started) (H:Type) (enc:TypeId × Value→H):
  ReturnsInHanded {} Tryz.checked os 4 .any (fun w args=>(Rows.updateWholeSpec.pre enc Tryz.prog Tryz.f4 Rows.updateWholeRow.domain false w args∧laidMetH Tryz.prog Rows.updateWholeRow.laid w)∧sizedMet enc Tryz.prog Tryz.f4 (OpenSpec.ofChange Rows.updateWholeSpec) false w args) (Rows.updateWholeSpec.post enc Tryz.prog Tryz.f4 false true false false):=by
 refine returnsInHanded_of_change_and (C:=Tryz.checked) (X:=fun w _=>laidMetH Tryz.prog Rows.updateWholeRow.laid w) (fun _ _ _ hh h=>h.of_heap hh) Tryz.own' started (by kernel_rfl) Tryz.func4
  (ChangeSpec.witness_shaped (enc:=enc) (C:=Tryz.checked) (os:=os) (X:=fun w _=>laidMetH Tryz.prog Rows.updateWholeRow.laid w) false (laidWorld os) #[.slice none 0 0] 8 rfl (World.shaped_of_RefB (by kernel_rfl) (by kernel_rfl)) (by kernel_rfl) (by kernel_rfl) (by kernel_rfl) (zTa os _)) ?_
 intro W base args ds gs before hval0 hW hcnd _ hL _
 have hval:∀ (j:Nat) t v,Tryz.f4.params[j]? =some t→args[j]? =some v→Value.okWide Tryz.prog W .any base t v:=hval0
 clear hval0 hcnd
 have hW':=hW
 obtain ⟨p,q,hA0,hV,_,_,_⟩:=hW
 obtain ⟨rfl,_⟩:=trodVars_none hV
 have hA:DataW.TrodAll enc Tryz.prog W 0 (fun _=>true) true Tryz.f4.params.toList args.toList ds p:=hA0
 rw [Tryz.params4] at hA hval
 obtain ⟨args⟩:=args
 obtain ⟨v0,vs0,d0,ds0,p0,q0,hvs,rfl,_,h0,hB0⟩:=trodAll_cons hA
 replace hvs:args=_:=hvs
 subst hvs
 obtain ⟨rfl,rfl,_⟩:=trodAll_nil hB0
 obtain ⟨x0,ex0,e0,k0,f0⟩:=zQW (zPL Tryz.underlying22 (by kernel_rfl) (by decide) (zRl (zTM Tryz.underlying5:RdL Tryz.prog zXX (inK .u8) 5) (fun y ex=>rfl)):RdL Tryz.prog zUe (okL (inK .u8)) 22) h0
 obtain ⟨⟨A0_0,c0_0⟩,_⟩:=ex0
 obtain ⟨A0,l0,c0,rfl⟩:=okWide_slice Tryz.underlying22 (hval 0 22 v0 rfl rfl)
 obtain ⟨rfl,rfl,rfl⟩:A0_0=A0∧x0.length=l0∧c0_0=c0:=by injection e0 with e _; injection e with e1 e2 e3; exact ⟨e1.symm,e2.symm,e3.symm⟩
 have hg0:(zGA 0 [(2,some 315),(3,some 316)]).p (hp W):=zPc (l:=Rows.updateWholeRow.laid) (nm:= "baseboard/update.steps") (t:=148) (k:=3) (e:=147) hL (List.Mem.head _) (by kernel_rfl) (by kernel_rfl) Tryz.underlying148 Tryz.underlying3 Tryz.underlying147 ⟨rfl,by kernel_rfl,⟨rfl,by kernel_rfl,trivial⟩⟩ (by decide)
 have hsat:=zOn (w:=W) [SlL eu8 A0_0 c0_0 x0,zGA 0 [(2,some 315),(3,some 316)]] (by simp only [List.mem_cons,List.not_mem_nil,or_false,forall_eq_or_imp,forall_eq]; exact ⟨f0 _ (.head _),hg0⟩)
 have hm:=zMR x0 k0
 refine ((zAW hm).quiet rfl ⟨(.head _),(.tail _ (.head _)),trivial⟩ hsat).mono fun e W' ⟨he,hw⟩=>?_
 subst he
 exact ⟨_,rfl,zQA Tryz.laid' rfl rfl Tryz.underlying4 (by kernel_rfl) rfl hW' hw⟩

theorem updateWhole_row_holds:Rows.UpdateWholeSaid:=
 OpenClaim.holds_of_wide 4 Tryz.f4 rfl rfl rfl rfl rfl rfl rfl ⟨rfl,rfl,rfl,rfl,rfl⟩ rfl rfl rfl rfl rfl (by kernel_rfl) Tryz.func4 (by kernel_rfl)
  (of_decide_eq_true (by kernel_rfl)) (by unfold Func.isWrapper; first | (rw [if_pos (by decide+kernel)]; kernel_rfl) | (rw [if_neg (by decide+kernel)]; exact ⟨rfl,rfl⟩))
  (fun os started H enc _=>zBs os started H enc)

theorem updateWhole_holds:Rows.UpdateWholeCardSaid:=
 Claim7.holds_tied_plain_at .later [] [.funcs] true (true, "cfe594e962d36ea5776570d19fd160328c90e4cdf266319e1a892b949101c819") true
  updateWhole_row_holds (fun _ h=>by cases h) (by kernel_rfl) (fun _ h=>by cases h) updateWhole_row_tie rfl ⟨rfl,rfl⟩ (by kernel_rfl) rfl
  (fun f fn hf hfn=>by
   obtain rfl:f=4:=Option.some.inj ((show Tryz.prog.funcNamed "baseboard/baseboardlaw32.UpdateWhole" =some 4 by kernel_rfl).symm.trans hf) |>.symm
   obtain rfl:fn=Tryz.f4:=(Option.some.inj (Tryz.func4.symm.trans hfn)).symm
   refine ⟨by kernel_rfl,fun j t ht=>?_⟩
   rw [Tryz.params4] at ht
   have hm:=Array.mem_of_getElem? ht
   simp only [List.mem_toArray,List.mem_cons,List.not_mem_nil,or_false] at hm
   rcases hm with rfl <;> (show _=_) <;> kernel_rfl)
  (by kernel_rfl)

#print axioms updateWhole_holds

end Go.Proofs.YtplchdlgdjcojaaGreatDoor
