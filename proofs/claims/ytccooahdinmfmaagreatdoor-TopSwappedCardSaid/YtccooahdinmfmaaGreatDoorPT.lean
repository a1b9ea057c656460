/-
  The statement TopSwappedSaid: the law answers true whatever the input, and its arguments read as they did.
  Conditions: none.
-/
import Derived.Test.YtccooahdinmfmaaGreatDoorPT7
import Derived.Test.YtccooahdinmfmaaGreatDoorRows
import Derived.Test.YtccooahdinmfmaaGreatDoorProg
import Derived.Test.YtccooahdinmfmaaGreatDoorTie
import Derived.Test.YtccooahdinmfmaaGreatDoorCards
namespace Go.Proofs.YtccooahdinmfmaaGreatDoor
open Go Go.ChangeShapes Go.WideShapes Go.ChangeAt Go.RowKit
set_option linter.unusedVariables false
set_option linter.unusedSimpArgs false
set_option maxRecDepth 20000

/-- The cells of what a variable holds. -/
def Fj:Nat→DataW Unit→List Value
 | 0,_=> []
 | n+1, .lit (.int k i)=> [.int k i]
 | n+1, .lit (.bool b)=> [.bool b]
 | n+1, .agg xs=>xs.flatMap (Fj n)
 | _,_=> []
def lay (g:Nat) (cs:List Value) (w:World):World:= { w with heap:=w.heap.modify g fun
  | .cells _ t frozen=>.cells cs.toArray t frozen
  | o=>o }
/-- The settled world, the listed variables laid. -/
noncomputable def laidWorld (os:Os):World:=lay 3 (Fj 9 Rows.laid_unicode_utf8_acceptRanges) (lay 1 (Fj 9 Rows.laid_baseboard_event_offsets) (lay 0 (Fj 9 Rows.laid_baseboard_unitinfo_leastFields) (lay 2 (Fj 9 Rows.laid_unicode_utf8_first) ((World.holding Tryz.prog os ⟨#[],#[], []⟩)))))
theorem zQA (os:Os) (args:Array Value):laidMetH Tryz.prog Rows.topSwappedRow.laid ((laidWorld os).forCall (fun _ _=>0) ⟨#[],args, []⟩).memory:=
 (show laidMet Tryz.prog Rows.topSwappedRow.laid ((laidWorld os).forCall (fun _ _=>0) ⟨#[],args, []⟩).memory from laidMet_of_run3 20 (by kernel_rfl) (by kernel_rfl) (by kernel_rfl))

set_option maxRecDepth 100000 in
theorem zCJ (os:Os) (started:os.Started) (H:Type) (enc:TypeId × Value→H):
  ReturnsInHanded {} Tryz.checked os 3 .any (fun w args=>(Rows.topSwappedSpec.pre enc Tryz.prog Tryz.f3 Rows.topSwappedRow.domain false w args∧laidMetH Tryz.prog Rows.topSwappedRow.laid w)∧sizedMet enc Tryz.prog Tryz.f3 (OpenSpec.ofChange Rows.topSwappedSpec) false w args) (Rows.topSwappedSpec.post enc Tryz.prog Tryz.f3 false true false false):=by
 refine returnsInHanded_of_change_and (C:=Tryz.checked) (X:=fun w _=>laidMetH Tryz.prog Rows.topSwappedRow.laid w) (fun _ _ _ hh h=>h.of_heap hh) Tryz.own' started (by kernel_rfl) Tryz.func3
  (ChangeSpec.witness_at (enc:=enc) (C:=Tryz.checked) (os:=os) (X:=fun w _=>laidMetH Tryz.prog Rows.topSwappedRow.laid w) false (laidWorld os) #[.slice none 0 0, .slice none 0 0, .slice none 0 0] 8 O (by kernel_rfl) (by kernel_rfl) (by kernel_rfl) (by kernel_rfl) (by kernel_rfl) (zQA os _)) ?_
 intro W base args ds gs before hval0 hW hcnd hwt hL _
 have hval:∀ (j:Nat) t v,Tryz.f3.params[j]? =some t→args[j]? =some v→Value.okWide Tryz.prog W .any base t v:=hval0
 clear hval0 hcnd
 have hW':=hW
 obtain ⟨p,q,hA0,hV,_,_,_⟩:=hW
 obtain ⟨rfl,_⟩:=trodVars_none hV
 have hA:DataW.TrodAll enc Tryz.prog W 0 (fun _=>true) true Tryz.f3.params.toList args.toList ds p:=hA0
 rw [Tryz.params3] at hA hval
 obtain ⟨args⟩:=args
 obtain ⟨v0,vs0,d0,ds0,p0,q0,hvs,rfl,_,h0,hB0⟩:=trodAll_cons hA
 replace hvs:args=_:=hvs
 subst hvs
 obtain ⟨v1,vs1,d1,ds1,p1,q1,rfl,rfl,_,h1,hB1⟩:=trodAll_cons hB0
 obtain ⟨v2,vs2,d2,ds2,p2,q2,rfl,rfl,_,h2,hB2⟩:=trodAll_cons hB1
 obtain ⟨rfl,rfl,_⟩:=trodAll_nil hB2
 obtain ⟨x0,ex0,e0,k0,f0⟩:=Qq (Qp Tryz.underlying22 (by kernel_rfl) (by decide) (Qo (Qm Tryz.underlying3:WA Tryz.prog Ur (PD .i64) 3) (fun y ex=>rfl)):WA Tryz.prog Uo (RX (PD .i64)) 22) h0
 obtain ⟨⟨Fp,Fq⟩,_⟩:=ex0
 obtain ⟨A0,l0,c0,rfl⟩:=okWide_slice Tryz.underlying22 (hval 0 22 v0 rfl rfl)
 obtain ⟨rfl,rfl,rfl⟩:Fp=A0∧x0.length=l0∧Fq=c0:=by injection e0 with e _; injection e with e1 e2 e3; exact ⟨e1.symm,e2.symm,e3.symm⟩
 obtain ⟨x1,JD,e1,k1,f1⟩:=Qq (Qp Tryz.underlying22 (by kernel_rfl) (by decide) (Qo (Qm Tryz.underlying3:WA Tryz.prog Ur (PD .i64) 3) (fun y ex=>rfl)):WA Tryz.prog Uo (RX (PD .i64)) 22) h1
 obtain ⟨⟨Fv,Fz⟩,_⟩:=JD
 obtain ⟨A1,l1,c1,rfl⟩:=okWide_slice Tryz.underlying22 (hval 1 22 v1 rfl rfl)
 obtain ⟨rfl,rfl,rfl⟩:Fv=A1∧x1.length=l1∧Fz=c1:=by injection e1 with e _; injection e with e1 e2 e3; exact ⟨e1.symm,e2.symm,e3.symm⟩
 obtain ⟨x2,SN,e2,k2,f2⟩:=Qq (Qp Tryz.underlying22 (by kernel_rfl) (by decide) (Qo (Qm Tryz.underlying3:WA Tryz.prog Ur (PD .i64) 3) (fun y ex=>rfl)):WA Tryz.prog Uo (RX (PD .i64)) 22) h2
 obtain ⟨⟨Gf,Gg⟩,_⟩:=SN
 obtain ⟨A2,l2,c2,rfl⟩:=okWide_slice Tryz.underlying22 (hval 2 22 v2 rfl rfl)
 obtain ⟨rfl,rfl,rfl⟩:Gf=A2∧x2.length=l2∧Gg=c2:=by injection e2 with e _; injection e with e1 e2 e3; exact ⟨e1.symm,e2.symm,e3.symm⟩
 have hg0:(BP xA (some ⟨0,0,none⟩) 3 [2,5,7]).p (hp W):=Y6 (l:=Rows.topSwappedRow.laid) (nm:= "baseboard/unitinfo.leastFields") (k:=.i64) (t:=234) (e:=3) xA [2,5,7] (fun _=>O) O (show laidMet Tryz.prog Rows.topSwappedRow.laid W from hL) (List.Mem.tail _ (List.Mem.tail _ (List.Mem.head _))) (by kernel_rfl) (by kernel_rfl) Tryz.underlying234 Tryz.underlying3 (by kernel_rfl) (by decide)
 have hg1:(BP AP (some ⟨1,0,none⟩) 6 [0,2,4,7,9,11]).p (hp W):=Y6 (l:=Rows.topSwappedRow.laid) (nm:= "baseboard/event.offsets") (k:=.u8) (t:=84) (e:=5) AP [0,2,4,7,9,11] (fun _=>O) O (show laidMet Tryz.prog Rows.topSwappedRow.laid W from hL) (List.Mem.tail _ (List.Mem.head _)) (by kernel_rfl) (by kernel_rfl) Tryz.underlying84 Tryz.underlying5 (by kernel_rfl) (by decide)
 have IW:=U6 (w:=W) [BP xA Fp Fq x0,BP xA Fv Fz x1,BP xA Gf Gg x2,BP xA (some ⟨0,0,none⟩) 3 [2,5,7],BP AP (some ⟨1,0,none⟩) 6 [0,2,4,7,9,11]] (by simp only [List.mem_cons,List.not_mem_nil,or_false,forall_eq_or_imp,forall_eq]; exact ⟨f0 _ (.head _),f1 _ (.head _),f2 _ (.head _),hg0,hg1⟩)
 have hm:=zJC x0 x1 x2 k0 k1 k2
 refine ((zEp hm).quiet O ⟨(.head _),(.tail _ (.head _)),(.tail _ (.tail _ (.head _))),(.tail _ (.tail _ (.tail _ (.head _)))),(.tail _ (.tail _ (.tail _ (.tail _ (.head _))))),trivial⟩ IW).mono fun e W' ⟨he,hw⟩=>?_
 subst he
 exact ⟨_,O,zRy Tryz.laid' O O Tryz.underlying4 (by kernel_rfl) O hW' hw⟩

theorem topSwapped_row_holds:Rows.TopSwappedSaid:=
 OpenClaim.holds_of_wide 3 Tryz.f3 O O O O O O O ⟨O,O,O,O,O⟩ O O O O O (by kernel_rfl) Tryz.func3 (by kernel_rfl)
  (of_decide_eq_true (by kernel_rfl)) (by unfold Func.isWrapper; first | (rw [if_pos (by decide+kernel)]; kernel_rfl) | (rw [if_neg (by decide+kernel)]; exact ⟨O,O⟩))
  (fun os started H enc _=>zCJ os started H enc)

theorem topSwapped_holds:Rows.TopSwappedCardSaid:=
 Claim7.holds_tied_plain_at .later [] [.data, .widerDeep, .data, .pinned] true (true, "38bf0f8b48302b2b681033ffd89db9d6b52ce6a95cd4524748a774ead99abc6f") true
  topSwapped_row_holds (fun _ h=>by cases h) (by kernel_rfl) (fun _ h=>by cases h) topSwapped_row_tie rfl ⟨rfl,rfl⟩ (by kernel_rfl) O
  (fun f fn hf hfn=>by
   obtain rfl:f=3:=Option.some.inj ((show Tryz.prog.funcNamed "baseboard/baseboardtop.TopSwapped" =some 3 by kernel_rfl).symm.trans hf) |>.symm
   obtain rfl:fn=Tryz.f3:=(Option.some.inj (Tryz.func3.symm.trans hfn)).symm
   refine ⟨by kernel_rfl,fun j t ht=>?_⟩
   rw [Tryz.params3] at ht
   have hm:=Array.mem_of_getElem? ht
   simp only [List.mem_toArray,List.mem_cons,List.not_mem_nil,or_false] at hm
   rcases hm with rfl | rfl | rfl <;> (show _=_) <;> kernel_rfl)
  (by kernel_rfl)

#print axioms topSwapped_holds

end Go.Proofs.YtccooahdinmfmaaGreatDoor
