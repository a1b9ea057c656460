/-
  Texts of this seat, put together: rules, walks, plain laws.
  Conditions: none.
-/
import Derived.WalkKit
import Derived.Deep.Quiet
import Derived.Laws.StructEq
import Derived.Laws.BytesArg
import Derived.LoopN
import Derived.ProofKit
import Derived.Deep.Slices
import Derived.WideKeyArgs
import Derived.OpenShut
import Derived.DataShut
import Derived.Lib.Bytealg
import Derived.WideKeyElems2
import Derived.LaidHandle
import Derived.LaidMore
import Derived.KernelRfl
import Derived.Shelf.Spec.SlicesGrow
import Derived.Shelf.SlMaps.Clone
import Derived.Shelf.Sort.Plain
import Derived.Maps.RangeRun
import Derived.RangeFuncSeq
import Derived.RangeFuncIn
import Derived.RangeFuncRecord
import Derived.RangeFuncLeaves
import Derived.LaidLaws
import Derived.Deep.DeepLaidRun
import Derived.SevenTiedAt
import Derived.Test.YtjconpohbhlcmaaGreatDoorRows
import Derived.Test.YtjconpohbhlcmaaGreatDoorProg
import Derived.Test.YtjconpohbhlcmaaGreatDoorTie
import Derived.Test.YtjconpohbhlcmaaGreatDoorCards
noncomputable section
namespace Go.Proofs.YtjconpohbhlcmaaGreatDoor
open Go IntKind
set_option linter.unusedVariables false
set_option linter.defProp false
set_option linter.unusedSimpArgs false
set_option linter.unusedSectionVars false
set_option maxHeartbeats 4000000
set_option maxRecDepth 10000
def O.{u} {b:Sort u} {a:b}:a=a:=rfl
variable{H:Type}{q d4:H}{W:List H}
def GH:d4∈q::d4::W:=.tail _ (.head _)
def KN{c:H}:c∈q::d4::c::W:=.tail _ GH
def jg{c d:H}:d∈q::d4::c::d::W:=.tail _ KN
def BB:=@cond_false
def CJ:=@List.getElem?_eq_getElem
def BK:=@decide_eq_true
def BD:=@cond_true
def AP:=@if_neg
def AQ:=@if_pos
def BV:=@decide_eq_false
def CS:=@Option.bind_some
def DR:=@Option.map_some
def EU:=@Nat.le_of_ble_eq_true
def DJ:=@List.getElem_mem
def CY:=@run_underlying
def DZ:=@List.mem_cons_self
def DV:=@List.length_take
def DW:=@List.mem_append
def EM:=@List.length_drop
def ER:=@List.length_append
def EO:=@Result.andThen_ok
def EX:=@List.mem_cons_of_mem
def EP:=@List.length_cons
def EC:=@List.mem_cons
def FT:=@List.getElem?_eq_some_iff
def EG:=@Bool.not_true
def EJ:=@Sem.run_bind
def FI:=@List.mem_singleton
def FH:=@List.append_assoc
def IC:=@List.getD_eq_getElem?_getD
def FP:=@decide_eq_true_eq
def IX:=@Array.getElem?_eq_some_iff
def FK:=@Bool.eq_iff_iff
def FQ:=@List.length_map
def FW:=@List.ext_getElem?
def JM:=@List.getElem?_append_right
def IU:=@List.take_of_length_le
def GV:=@Nat.lt_of_lt_of_le
def EI:=@if_false
def GK:=@Option.getD_some
def GU:=@List.take_length
def JO:=@decide_eq_false_iff_not
def FM:=@List.mem_map
def GX:=@Bool.and_eq_true
def IY:=@List.mem_append_left
def IZ:=@List.mem_iff_getElem
def KQ:=@List.eq_nil_of_length_eq_zero
def IJ:=@List.getElem?_map
def JP:=@List.mem_append_right
def FN:=@Nat.le_refl
def IE:=@List.getElem_map
def GL:=@Bool.true_and
def FX:=@Sem.run_pure
def JV:=@Bool.and_eq_true_iff
def FU:=@Nat.add_mul
def GN:=@wpList_plain
def JG:=@Int.toNat_natCast
def GY:=@List.map_cons
def IK:=@Bool.not_false
def JQ:=@Bool.not_eq_true'
def JR:=@bne_self_eq_false
def JH:=@List.any_eq_true
def IV:=@List.drop_drop
def JI:=@List.nil_append
def LP:=@Option.map_eq_some_iff
def NT:=@List.getElem?_append_left
def MN:=@List.drop_eq_nil_of_le
def MO:=@List.getElem_cons_drop
def JS:=@List.mem_range
def MP:=@List.getElem?_eq_none
def KC:=@List.length_nil
def FO:=@if_true
def KR:=@List.getElem?_set
def MQ:=@List.mem_of_getElem?
def MR:=@Nat.mul_le_mul_right
def LQ:=@List.getElem?_take
def KH:=@List.mem_filter
def MS:=@List.map_congr_left
def OD:=@Nat.add_sub_cancel_left
def LU:=@List.nodup_append
def JU:=@Nat.le_trans
def LV:=@Option.some.injEq
def NU:=@List.getElem?_append
def PS:=@Classical.byContradiction
def MV:=@Bool.false_eq_true
def MW:=@List.getElem?_drop
def KD:=@Prod.mk.injEq
def KT:=@List.nodup_cons
def NV:=@ByteArray.toList_eq
def LW:=@List.foldl_cons
def KE:=@Nat.zero_add
def OE:=@List.mem_of_mem_take
def NW:=@Bool.true_eq_false
def MX:=@List.perm_middle
def OG:=@List.findSome?_cons
def OH:=@List.length_pos_iff
def QU:=@List.getElem?_replicate
def NY:=@List.filter_cons
def VB:=@List.exists_of_findSome?_eq_some
def KU:=@Nat.add_comm
def OI:=@List.flatMap_cons
def OJ:=@of_decide_eq_true
def PU:=@Array.length_toList
def KZ:=@Bool.or_eq_true
def OL:=@List.length_filter_le
def RG:=@List.take_append_of_le_length
def RH:=@List.drop_append_of_le_length
def LZ:=@List.ext_getElem
def NJ:=@List.pairwise_cons
def NK:=@Nat.lt_of_le_of_lt
def OM:=@Nat.pow_le_pow_right
def LD:=@List.drop_take
def NM:=@List.size_toArray
def MB:=@List.append_nil
def RI:=@Array.getD_eq_getD_getElem?
def MC:=@List.map_append
def MF:=@Nat.div_le_self
def OO:=@List.mem_map_of_mem
def KI:=@Nat.sub_self
def LG:=@Nat.add_assoc
def RJ:=@List.findSome?_eq_none_iff
def PX:=@List.length_replicate
def TQ:=@Array.getElem?_setIfInBounds_ne
def KJ:=@Nat.zero_le
def LH:=@Nat.add_zero
def JY:=@bne_iff_ne
def NP:=@Nat.min_eq_left
def PY:=@Nat.eq_of_testBit_eq
def OQ:=@List.flatten_cons
def NQ:=@Tryz.results79
def NR:=@List.drop_zero
def KL:=@beq_iff_eq
def LJ:=@decide_true
def RN:=@List.getElem?_set_self
def PZ:=@Nat.add_sub_cancel
def MG:=@Nat.lt_or_ge
def MH:=@List.map_map
def RP:=@List.length_singleton
def OT:=@List.range_succ
def RQ:=@List.take_append_drop
def QA:=@Nat.or_lt_two_pow
def TR:=@List.mem_or_eq_of_mem_set
def TS:=@List.pairwise_iff_getElem
def OU:=@List.take_left
def OV:=@Tryz.results62
def QB:=@decide_eq_decide
def TU:=@List.getElem?_cons_succ
def MI:=@True.intro
def MJ:=@decide_not
def RS:=@List.filter_append
def RU:=@Function.comp_def
def RV:=@List.any_eq_false
def RX:=@List.getElem_take
def QC:=@Tryz.results48
def RY:=@List.range'_succ
def RZ:=@List.not_mem_nil
def SA:=@BitVec.toNat_and
def SB:=@List.cons_append
def QD:=@Bool.false_or
def TV:=@List.mergeSort_perm
def SC:=@List.length_set
def WS:=@Array.getElem?_eq_getElem
def SE:=@Tryz.results158
def WT:=@List.mem_of_find?_eq_some
def WU:=@List.drop_eq_getElem_cons
def QE:=@List.map_nil
def QF:=@decide_false
def TW:=@BitVec.toNat_ofInt
def WV:=@List.take_append_getElem
def SG:=@Tryz.results59
def SH:=@List.drop_left
def SI:=@List.take_zero
def SK:=@Nat.mul_le_mul
def WW:=@List.pairwise_singleton
def WX:=@List.pairwise_mergeSort
def TY:=@not_true_eq_false
def QG:=@Nat.one_mul
def QH:=@List.map_id
def WY:=@List.filter_eq_nil_iff
def UA:=@List.mem_flatten
def UB:=@Nat.mod_eq_of_lt
def UC:=@List.drop_append
def UD:=@Fence.wide_round
def WZ:=@List.perm_append_comm
def XA:=@Array.getElem?_modify
def XB:=@Classical.choose_spec
def oh:=@List.replicate_append_replicate
def XC:=@Bool.or_eq_false_iff
def QI:=@Array.ext'
def JZ:=@ne_eq
def oq:=@List.eq_nil_iff_forall_not_mem
def SL:=@Nat.zero_mul
def XD:=@List.mem_of_mem_drop
def XE:=@List.pairwise_append
def UE:=@Oper.semAt_none
def UF:=@List.find?_cons
def UG:=@Tryz.results188
def UH:=@Tryz.results143
def ou:=@Nat.and_two_pow_sub_one_eq_mod
def XF:=@Nat.pow_lt_pow_right
def XG:=@List.getElem?_mapIdx
def UI:=@Nat.testBit_and
def XH:=@List.flatten_append
def XI:=@beq_eq_false_iff_ne
def XJ:=@List.flatMap_append
def XK:=@List.filter_sublist
def XL:=@List.drop_replicate
def UJ:=@List.mapM_cons
def UK:=@Nat.testBit_or
def UL:=@List.nodup_nil
def UM:=@List.Perm.cons
def SN:=@getD_set_ne
def MK:=@not_or
def oz:=@List.take_length_add_append
def pq:=@List.drop_length_add_append
def XM:=@Nat.and_lt_two_pow
def pz:=@Nat.two_pow_add_eq_or_of_lt
def XO:=@Option.isSome_some
def UN:=@Bool.or_false
def qf:=@Array.getElem?_append_left
def qg:=@Int.fdiv_eq_ediv_of_nonneg
def qh:=@Int.tdiv_eq_ediv_of_nonneg
def UO:=@Tryz.results3
def qj:=@Int.tmod_eq_emod_of_nonneg
def XP:=@List.mapM_toArray
def XR:=@List.Pairwise.nil
def XT:=@List.foldl_append
def XU:=@List.find?_append
def SQ:=@execOp_put
def ql:=@Nat.testBit_two_pow_of_ne
def XV:=@Nat.le_of_not_lt
def XW:=@List.take_append
def qm:=@run_convert_bytes_string
def UQ:=@List.map_set
def XY:=@beq_self_eq_true
def XZ:=@Nat.div_eq_of_lt
def YA:=@List.flatMap_nil
def qo:=@List.eq_of_mem_replicate
def UR:=@List.set_set
def qp:=@List.getElem?_cons_zero
def SS:=@mem_ready
def YB:=@Nat.mul_eq_zero
def YC:=@Oper.apart_spec
def YD:=@Option.some.inj
def YE:=@wpIn_region_lit
def YF:=@BitVec.toNat_or
def YG:=@Tryz.results146
def YH:=@Tryz.results147
def YI:=@Tryz.results298
def YJ:=@Tryz.results299
def UU:=@run_program
def qw:=@List.getElem_replicate
def qx:=@List.length_pos_of_mem
def qy:=@Nat.testBit_lt_two_pow
def rf:=@Option.map_eq_none_iff
def YK:=@List.Perm.swap
def rq:=@List.modify_succ_cons
def ru:=@List.modify_zero_cons
def su:=@List.eraseIdx_sublist
def tq:=@Array.toList_eraseIdx
def YL:=@Tryz.results63
def YM:=@Tryz.results92
def YN:=@Tryz.results80
def YO:=@Tryz.results84
def YP:=@Tryz.results85
def YQ:=@Tryz.results91
def YR:=@Tryz.results93
def tu:=@List.set_append_right
def uf:=@Bool.and_eq_false_iff
def ug:=@List.eq_replicate_iff
def YS:=@List.foldl_nil
def uh:=@List.contains_eq_mem
def uj:=@List.range_eq_range'
def ul:=@UInt8.lt_or_lt_of_ne
def um:=@List.replicate_succ'
def uo:=@List.drop_eq_nil_iff
def uw:=@BitVec.ofInt_natCast
def uy:=@BitVec.getLsbD_ofNat
def YT:=@List.all_cons
def uz:=@List.replicate_succ
def ve:=@Array.toList_modify
def vg:=@Nat.testBit_two_pow
def vk:=@List.take_succ_cons
def vw:=@List.drop_succ_cons
def vz:=@List.getElem_of_mem
def wo:=@List.getElem_set_ne
def wu:=@List.take_replicate
def wz:=@List.filter_eq_self
def xg:=@Nat.add_one_ne_zero
def xh:=@Int.toNat_of_nonneg
def YU:=@wpQuiet_step
def YV:=@callsIn_wide
def YW:=@Nat.mul_comm
def YX:=@wpList_step
def YZ:=@Sem.run_map
def ZA:=@Int.le_refl
def ZB:=@Int.add_mul
abbrev Env:=List (Nat×Value)
def get:Env->Nat->Option Value
 |[],_=>none|(k,v)::r,i=>bif Nat.beq k i then some v else get r i
def At(a:Act)(b:Env):Prop:=∀i v,get b i=some v->a.tmps[i]?=some v
def zLm(k:Nat)(v:Value)(r:Env)(i:Nat):get ((k,v)::r) i=if k=i then some v else get r i:=by
 simp only[get];by_cases h:k=i
 ·subst h;simp
 ·have:Nat.beq k i=false:=by
   cases a:Nat.beq k i
   ·rfl
   ·exact absurd (Nat.eq_of_beq_eq_true a) h
  simp[this,h]
def At.nil(a:Act):At a []:=λ_ _ h=>by simp[get]at h
variable{Z:Act}{I:Env}{B:Nat}{S:Value}
def At.cons(b:Z.tmps[B]?=some S)(h:At Z I):At Z ((B,S)::I):=by
 intro i u a;rw[zLm]at a;split at a
 ·rename_i e;subst e;injection a with a;subst a;exact b
 ·exact h i u a
def At.put{a:Act}{c:Env}{d:Nat}{v:Value}(h:At a c)(f:d<a.tmps.size):At (a.put (some d) v) ((d,v)::c):=by
 intro i u b;rw[zLm]at b;split at b
 ·rename_i e;subst e;injection b with b;subst b
  simp[Act.put,f]
 ·rename_i e
  have:=h i u b;simp only[Act.put];rw[TQ e];exact this
def At.PV(h:At Z I):At (Z.put none S) I:=h
def iq:Env->Env->Prop
 |[],_=>True|(k,v)::r,a=>get a k=some v/\iq r a
def iq.get{b:Env}:∀{a:Env},iq a b->∀i v,get a i=some v->get b i=some v
 |[],_,i,v,h=>by simp[Go.Proofs.YtjconpohbhlcmaaGreatDoor.get]at h|(k,u)::r,c,i,v,h=>by
  rw[zLm]at h;split at h
  ·rename_i e;subst e;injection h with h;subst h;exact c.1
  ·exact c.2.get i v h
def At.sub{a:Env}(h:At Z I)(b:iq a I):At Z a:=λi v c=>h i v (b.get i v c)
def ev(a:Env):Operand->Option Value
 |.tmp t=>get a t|.const v=>some v|.func f=>some (.func (.func f) #[] #[])|.global g=>some (.pointer (some ⟨g,0,none⟩))
def At.eval{a:Act}{c:Env}(h:At a c){x:Operand}{v:Value}(b:ev c x=some v):a.eval x=v:=by
 cases x with
 |tmp t=>
  have:=h t v b;simp[Act.eval,this]
 |const u=>simpa[ev,Act.eval]using b|func f=>simpa[ev,Act.eval]using b|global g=>simpa[ev,Act.eval]using b
def evs(a:Env):List Operand->Option (List Value)
 |[]=>some []|x::r=>match ev a x,evs a r with
  |some v,some b=>some (v::b)|_,_=>none
def At.QS{a:Act}{d:Env}(h:At a d):∀{e:List Operand} {c:List Value},evs d e=some c->e.map a.eval=c
 |[],c,b=>by simpa[evs]using b|x::r,c,b=>by
  simp only[evs]at b;split at b
  ·rename_i v i f g
   injection b with b;subst b;simp[h.eval f,h.QS g]
  ·cases b
abbrev Hp:=Nat->Option Obj
def hp(w:World):Hp:=λk=>w.heap[k]?
def Hp.le(m a:Hp):Prop:=∀k o,m k=some o->a k=some o
structure Ro where
 p:Hp->Prop
 mono:∀m m',Hp.le m m'->p m->p m'
structure ah where
 gs:List Nat
 p:Hp->Prop
 loc:∀m m',(∀k,k∈gs->m k=m' k)->p m->p m'
 q:Hp->Hp->Prop:=λ_ _=>True
 ai:∀m m' z z',(∀k,k∈gs->m k=m' k)->Hp.le z z'->q m z->q m' z':=by intros;exact MI
inductive As where
 |ro (r:Ro)
 |res (r:ah)
def As.gs:As->List Nat
 |.ro _=>[]|.res r=>r.gs
def yU:List As->List Nat
 |[]=>[]|x::r=>x.gs++yU r
def KO(U:List Nat)(w:World):Hp:=λk=>if k∈U then none else w.heap[k]?
def As.holds(U:List Nat)(w:World):As->Prop
 |.ro r=>r.p (KO U w)|.res r=>(∀k,k∈r.gs->k<w.heap.size)/\r.p (hp w)/\r.q (hp w) (KO U w)
structure Sat(F:List As)(w:World):Prop where
 nodup:(yU F).Nodup
 all:∀x∈F,x.holds (yU F) w
variable{F:List As}
def cT:B∈yU F↔∃x∈F,B∈x.gs:=by
 induction F with
 |nil=>simp[yU]|cons y r a=>simp[yU,a]
def pN(F G:List As):yU (F++G)=yU F++yU G:=by
 induction F with
 |nil=>rfl|cons x r a=>simp[yU,a]
variable{D:World}
def Sat.lt(h:Sat F D){k:Nat}(b:k∈yU F):k<D.heap.size:=by
 obtain⟨x,c,a⟩:=cT.1 b;have:=h.all x c;cases x with
 |ro r=>cases a|res r=>exact this.1 k a
variable{d8:List Nat}
def Um{b:List Nat}(w:World)(h:∀k,k∈b->k∈d8):Hp.le (KO d8 w) (KO b w):=by
 intro k o a;unfold KO at*;split at a
 ·cases a
 ·rename_i c
  rw[AP (λd=>c (h k d))];exact a
def yBm(U:List Nat)(w:World):Hp.le (KO U w) (hp w):=by
 intro k o a;unfold KO at a;split at a
 ·cases a
 ·exact a
variable{c9:As}
def As.jh{a:List Nat}(hU:∀k,k∈a->k∈d8)(h:c9.holds d8 D):c9.holds a D:=by
 cases c9 with
 |ro r=>exact r.mono _ _ (Um D hU) h|res r=>exact⟨h.1,h.2.1,r.ai _ _ _ _ (λ_ _=>O) (Um D hU) h.2.2⟩
variable{G:List As}
def Sat.NZ(c:(yU G).Nodup)(b:∀x∈G,x∈F)(h:Sat F D):Sat G D:=by refine⟨c,λx d=>As.jh (λk e=>?_) (h.all x (b x d))⟩;obtain⟨y,hy,a⟩:=cT.1 e;exact cT.2 ⟨y,b y hy,a⟩
def Sat.nil(w:World):Sat [] w:=⟨by simp[yU],by simp⟩
def Sat.tail(h:Sat (c9::F) D):Sat F D:=
 h.NZ (LU.1 h.nodup).2.1 λ_ hy=>EX _ hy
def Sat.IW(h:Sat F D)(r:Ro)(b:r.p (KO (yU F) D)):Sat (.ro r::F) D:=by
 refine⟨by simpa[yU,As.gs]using h.nodup,λx a=>?_⟩;have e:yU (.ro r::F)=yU F:=by simp[yU,As.gs]
 rw[e];cases a with
 |head=>exact b|tail _ a=>exact h.all x a
def Sat.ro{F:List As}{w:World}(h:Sat F w){r:Ro}(a:As.ro r∈F):r.p (KO (yU F) w):=h.all _ a
def Sat.TK(h:Sat F D){r:Ro}(a:As.ro r∈F):r.p (hp D):=r.mono _ _ (yBm _ _) (h.ro a)
def Sat.res{F:List As}{w:World}(h:Sat F w){r:ah}(a:As.res r∈F):r.p (hp w):=(h.all _ a).2.1
def Sat.PW(h:Sat F D){r:ah}(a:As.res r∈F):r.q (hp D) (KO (yU F) D):=(h.all _ a).2.2
structure Same(w w':World):Prop where
 os:w'.os=w.os
 tape:w'.tape=w.tape
 output:w'.output=w.output
 size:w.heap.size<=w'.heap.size
def Same.refl(w:World):Same w w:=⟨O,O,O,FN _⟩
def Same.trans{a b c:World}(h:Same a b)(k:Same b c):Same a c:=
 ⟨k.os.trans h.os,k.tape.trans h.tape,k.output.trans h.output,JU h.size k.size⟩
structure Ext(w w':World):Prop extends Same w w' where
 block:∀k,k<w.heap.size->w'.heap[k]?=w.heap[k]?
def Ext.refl(w:World):Ext w w:=⟨Same.refl w,λ_ _=>O⟩
def Ext.trans{a b c:World}(h:Ext a b)(k:Ext b c):Ext a c:=
 ⟨h.toSame.trans k.toSame,λi d=>(k.block i (GV d h.size)).trans (h.block i d)⟩
def Ext.drew(w:World):Ext w w.drew:=⟨⟨O,O,O,FN _⟩,λ_ _=>O⟩
def Ext.alloc(w:World)(o:Obj):Ext w (w.alloc o):=⟨⟨O,O,O,by simp⟩,λ_ a=>heap_alloc_old w o a⟩
variable{a8:World}
def zUA(h:Ext D a8):Hp.le (KO d8 D) (KO d8 a8):=by
 intro k o a;unfold KO at*;split at a
 ·cases a
 ·rename_i b
  rw[AP b,h.block k (IX.1 a).1];exact a
def Sat.ext(h:Sat F D)(b:Ext D a8):Sat F a8:=by
 refine⟨h.nodup,λx e=>?_⟩;have a:=h.all x e;cases x with
 |ro r=>exact r.mono _ _ (zUA b) a|res r=>
  have d:∀k,k∈r.gs->hp D k=hp a8 k:=λk c=>(b.block k (a.1 k c)).symm
  exact⟨λk c=>GV (a.1 k c) b.size,r.loc _ _ d a.2.1,r.ai _ _ _ _ d (zUA b) a.2.2⟩
def Sat.KA(h:Sat F D)(i:Ext D a8)(r:ah)(j:r.gs.Nodup)(l:∀k,k∈r.gs->D.heap.size<=k/\k<a8.heap.size)(u:r.p (hp a8))(v:r.q (hp a8) (KO (r.gs++yU F) a8):=by exact MI):Sat (.res r::F) a8:=by
 have w:=h.ext i
 have f:Hp.le (KO (yU F) D) (KO (r.gs++yU F) a8):=by
  intro k o c;unfold KO at*;split at c
  ·cases c
  ·rename_i j
   have m:=(IX.1 c).1;rw[AP,i.block k m]
   ·exact c
   ·intro d
    simp only[DW]at d;rcases d with d|d
    ·have:=(l k d).1;omega
    ·exact j d
 refine⟨?_,λx g=>?_⟩
 ·simp only[yU,As.gs]
  refine LU.2 ⟨j,h.nodup,λa y b z e=>?_⟩;have:=h.lt z;have:=(l a y).1;omega
 ·cases g with
  |head=>exact⟨λk c=>(l k c).2,u,v⟩|tail _ g=>
   have n:=h.all x g;cases x with
   |res s=>
    have t:=w.all _ g;exact⟨t.1,t.2.1,s.ai _ _ _ _ (λk c=>(i.block k (n.1 k c)).symm) f n.2.2⟩
   |ro s=>exact s.mono _ _ f n
structure oM(gs:List Nat)(w w':World):Prop extends Same w w' where
 block:∀k,k<w.heap.size->k∉gs->w'.heap[k]?=w.heap[k]?
def oM.VE(h:Ext D a8):oM d8 D a8:=⟨h.toSame,λk a _=>h.block k a⟩
def oM.trans{gs:List Nat}{a b c:World}(h:oM gs a b)(k:oM gs b c):oM gs a c:=
 ⟨h.toSame.trans k.toSame,λi d e=>(k.block i (GV d h.size) e).trans (h.block i d e)⟩
def oM.setCell(w:World)(p:Addr)(v:Value):oM [p.block] w (w.setCell p v):=
 ⟨⟨O,O,O,by simp⟩,λk _ a=>heap_setCell_other w p k v (by simpa using a)⟩
def Sat.exchange{r r':ah}(h:Sat (.res r::F) D)(t:oM r.gs D a8)(y:r'.gs.Nodup)(u:∀k,k∈r'.gs->k<a8.heap.size/\(k∈r.gs\/D.heap.size<=k))(z:r'.p (hp a8))(A:r'.q (hp a8) (KO (r'.gs++yU F) a8):=by exact MI):Sat (.res r'::F) a8:=by
 have g:=LU.1 h.nodup
 have j:Hp.le (KO (yU (.res r::F)) D) (KO (r'.gs++yU F) a8):=by
  intro k o c;unfold KO at*;split at c
  ·cases c
  ·rename_i f
   have v:=(IX.1 c).1;simp only[yU,As.gs,DW,MK]at f;rw[AP,t.block k v f.1]
   ·exact c
   ·simp only[DW,MK]
    refine⟨λw=>?_,f.2⟩;rcases(u k w).2 with l|l
    ·exact f.1 l
    ·omega
 have m:∀k,k∈r'.gs->k∉yU F:=by
  intro k c i;rcases(u k c).2 with l|l
  ·exact g.2.2 k l k i O
  ·have:=h.lt (k:=k) (by simp only[yU,As.gs,DW];exact .inr i)
   omega
 refine⟨?_,λx s=>?_⟩
 ·simp only[yU,As.gs]
  exact LU.2 ⟨y,g.2.1,λa B b i e=>m a B (e▸i)⟩
 ·cases s with
  |head=>exact⟨λk c=>(u k c).1,z,A⟩|tail _ s=>
   have n:=h.all x (EX _ s);cases x with
   |res d=>
    have i:∀k,k∈d.gs->hp D k=hp a8 k:=λk c=>(t.block k (n.1 k c) (λw=>g.2.2 k w k (cT.2 ⟨_,s,c⟩) O)).symm
    exact⟨λk c=>GV (n.1 k c) t.size,d.loc _ _ i n.2.1,d.ai _ _ _ _ i j n.2.2⟩
   |ro d=>exact d.mono _ _ j n
inductive Del:List As->As->List As->Prop
 |z {x:As} {F:List As}:Del (x::F) x F
 |s {x y:As} {F F':List As} (h:Del F x F'):Del (y::F) x (y::F')
def xu:Nat->List As->Option (As×List As)
 |_,[]=>none|0,x::F=>some (x,F)|n+1,y::F=>match xu n F with
  |some (x,G)=>some (x,y::G)|none=>none
def IQ:∀(n:Nat) {F G:List As} {x:As},xu n F=some (x,G)->Del F x G
 |_,[],_,_,h=>by simp[xu]at h|0,_::_,_,_,h=>by cases h;exact .z|n+1,y::F,_,_,h=>by
  unfold xu at h;split at h
  ·rename_i x G e;cases h;exact .s (IQ n e)
  ·cases h
def Del.perm{G:List As}(h:Del F c9 G):F.Perm (c9::G):=by
 induction h with
 |z=>exact List.Perm.refl _|s _ a=>exact(a.cons _).trans (YK ..)
def Del.mem(h:Del F c9 G):c9∈F:=h.perm.mem_iff.2 (DZ ..)
def zJm(h:F.Perm G):(yU F).Perm (yU G):=by
 induction h with
 |nil=>exact List.Perm.refl _|cons x _ b=>exact b.append_left _|swap x y l=>
  simp only[yU,<-FH];exact(WZ).append_right _
 |trans _ _ ih1 a=>exact ih1.trans a
def Sat.perm{G:List As}(h:Sat F D)(p:F.Perm G):Sat G D:=
 h.NZ ((zJm p).nodup_iff.1 h.nodup) λ_ a=>p.mem_iff.2 a
def Sat.front(h:Sat F D)(d:Del F c9 G):Sat (c9::G) D:=h.perm d.perm
def St(w0:World)(b:Nat)(c:Env)(F:List As)(X:Act->World->Prop):Prop:=
 ∀a w,a.tmps.size=b->a.defers=[]->At a c->Sat F w->Same w0 w->X a w
variable{X:Act->World->Prop}{L:Array Oper}{d0:Code}{Q:Exit->Act->World->Prop}{i:Nat}{A:Operand}{P:Program}
section
def St.weak{b:Env}(c:iq b I)(d:∀w,Sat F w->Sat G w)(h:St D B b G X):St D B I F X:=
 λa w e f g i j=>h a w e f (g.sub c) (d w i) j
def St.slots{Γ':Env}(a:iq Γ' I)(h:St D B Γ' F X):St D B I F X:=St.weak a (λ_ h=>h) h
def St.BF{F':List As}(b:∀w,Sat F w->Sat F' w)(h:St D B I F' X):St D B I F X:=
 λa w c d e f g=>h a w c d e (b w f) g
def St.seq{x y:Code}(h:St D B I F (x.wp P (Exit.then (y.wp P Q) Q))):St D B I F ((Code.seq x y).wp P Q):=
 λa w b c d e f=>wp_seq (h a w b c d e f)
def St.block{id:Nat}{c:Code}(h:St D B I F (c.wp P (Exit.inBlock id Q))):St D B I F ((Code.block id c).wp P Q):=
 λa w b d e f g=>wp_block (h a w b d e f g)
def St.skip(h:St D B I F (Q .normal)):St D B I F (Code.skip.wp P Q):=λa w b c d e f=>wp_skip (h a w b c d e f)
def St.ret(h:St D B I F (Q .ret)):St D B I F (Code.ret.wp P Q):=λa w b c d e f=>wp_ret (h a w b c d e f)
def St.exit{id:Nat}(h:St D B I F (Q (.exit id))):St D B I F ((Code.exit id).wp P Q):=λa w b c d e f=>wp_exit (h a w b c d e f)
def St.cond{c:Operand}{x y:Code}(b:Bool)(j:ev I c=some (.bool b))(k:b=true->St D B I F (x.wp P Q))(l:b=false->St D B I F (y.wp P Q)):St D B I F ((Code.cond c x y).wp P Q):=
 λa w f g d h i=>wp_cond_split (d.eval j) (λe=>k e a w f g d h i) (λe=>l e a w f g d h i)
def St.JE{y:Code}(a:ev I A=some (.bool true))(b:St D B I F (d0.wp P Q)):St D B I F ((Code.cond A d0 y).wp P Q):=
 St.cond true a (λ_=>b) (λe=>by cases e)
def St.LY{y:Code}(a:ev I A=some (.bool false))(b:St D B I F (y.wp P Q)):St D B I F ((Code.cond A d0 y).wp P Q):=
 St.cond false a (λe=>by cases e) (λ_=>b)
def St.DK(h:St D B I F X):St D B I F (Exit.then X Q .normal):=h
def St.TL(h:St D B I F (Q .ret)):St D B I F (Exit.then X Q .ret):=h
def St.VF(h:St D B I F (Q (.exit i))):St D B I F (Exit.then X Q (.exit i)):=h
def St.KW(h:St D B I F (Q .normal)):St D B I F (Exit.inBlock i Q .normal):=h
def St.aj(h:St D B I F (Q .ret)):St D B I F (Exit.inBlock i Q .ret):=h
def St.QV(h:St D B I F (Q .normal)):St D B I F (Exit.inBlock i Q (.exit i)):=
 λa w b c d e f=>by simpa[Exit.inBlock]using h a w b c d e f
class Walk(P:outParam Program)(ops:outParam (Array Oper))(X:List Oper->Act->World->Prop):Prop where
 val:∀(o:Oper) (rest:List Oper) (a:Act) (w:World) (v:Value),Region.wanted o (yielded ops a.tmps)=true->
  (∀w',Ext w w'->(execOp a.eval o).run P w'=.ok (.value v) w')->X rest (a.put o.dst v) w->X (o::rest) a w
 pass:∀(o:Oper) (rest:List Oper) (a:Act) (w:World),Region.wanted o (yielded ops a.tmps)=false->X rest (a.put o.dst undef) w->X (o::rest) a w
 bare:∀(o o':Oper) (rest:List Oper) (a:Act) (w:World),Region.wanted o (yielded ops a.tmps)=true->Region.wanted o' (yielded ops a.tmps)=true->o'.dst=o.dst->o'.op=o.op->o'.type=o.type->X (o'::rest) a w->X (o::rest) a w
 call:∀(o:Oper) (rest:List Oper) (a:Act) (w:World) (f:FuncId) (args:Array Value) (v:Value),Region.wanted o (yielded ops a.tmps)=true->
  (∀w',Ext w w'->(execOp a.eval o).run P w'=.ok (.enter f args) w')->(∀w',Ext w w'->Calls P f args w' λe w''=>e=.returned v/\Ext w' w'')->
  (∀w',Ext w w'->X rest (a.put o.dst v) w')->X (o::rest) a w
instance(P:Program)(ops:Array Oper)(Q:Exit->Act->World->Prop):Walk P ops (wpList P ops Q) where
 val o rest a w v hw hr hx:=by
  refine YX λK hK=>?_
  rw[AQ hw];unfold Oper.wp;rw[hr w (Ext.refl w)];exact hK _ _ hx
 pass o rest a w hw hx:=by
  refine YX λK hK=>?_
  rw[AP (by simp[hw])];exact hK _ _ hx
 bare o o' rest a w hw hw' h1 h2 h3 hx:=by obtain⟨d,op,t,p,af,g⟩:=o;obtain⟨d',op',t',p',af',g'⟩:=o';simp only at h1 h2 h3;subst h1;subst h2;subst h3;unfold wpList at hx⊢;rw[AQ hw']at hx;rw[AQ hw];exact hx
 call o rest a w f args v hw hr hc hx:=by
  refine YX λK hK=>?_
  rw[AQ hw];unfold Oper.wp;rw[hr w (Ext.refl w)];show Calls P f args w _;exact(hc w (Ext.refl w)).mono λe w' ⟨he,h2⟩=>by subst he;exact hK _ _ (hx w' h2)
def Jb(P:Program)(ops:Array Oper)(Q:Exit->Act->World->Prop)(b:List Oper)(a:Act)(w:World):Prop:=
 wpQuiet P ops (Ext w) (λd=>∀c,Ext w c->Q .normal d c) b a
instance(P:Program)(ops:Array Oper)(Q:Exit->Act->World->Prop):Walk P ops (Jb P ops Q) where
 val o rest a w v hw hr hx:=by
  refine YU λK hK=>?_
  rw[AQ hw];refine⟨v,λw' he=>?_,hK _ hx⟩;unfold Oper.quietAt;rw[hr w' he];exact⟨O,O⟩
 pass o rest a w hw hx:=by
  refine YU λK hK=>?_
  rw[AP (by simp[hw])];exact hK _ hx
 bare o o' rest a w hw hw' h1 h2 h3 hx:=by obtain⟨d,op,t,p,af,g⟩:=o;obtain⟨d',op',t',p',af',g'⟩:=o';simp only at h1 h2 h3;subst h1;subst h2;subst h3;unfold Jb wpQuiet at hx⊢;rw[AQ hw']at hx;rw[AQ hw];exact hx
 call o rest a w f args v hw hr hc hx:=by
  refine YU λK hK=>?_
  rw[AQ hw];refine⟨v,λw' he=>?_,hK _ (hx _ (Ext.refl _))⟩;unfold Oper.quietAt;rw[hr w' he];exact⟨O,(hc w' he).mono λe w'' ⟨h1,h2⟩=>⟨h1,he.trans h2⟩⟩
def St.region{id:Nat}{l:List Oper}(h:St D B I F (wpList P l.toArray Q l)):St D B I F ((Code.region id l.toArray false).wp P Q):=
 λa w b c d e f=>wp_region_lit (h a w b c d e f)
def St.done(h:St D B I F (Q .normal)):St D B I F (wpList P L Q []):=λa w b c d e f=>wpList_nil (h a w b c d e f)
def St.Dh(h:St D B I F (Q .normal)):St D B I F (Jb P L Q []):=
 λa _ c d e f g=>wpQuiet_nil λi b=>h a i c d e (f.ext b) (g.trans b.toSame)
end
inductive TD where
 |bool|int (k:IntKind)|string|pointer (e:Nat)|slice (e:Nat)|array (n:Nat) (e:Nat)|map (k e:Nat)
 |struct (fs:List (Nat×Nat×Bool))
 |other
def mF(f:Field):Nat×Nat×Bool:=(f.type,f.offset,f.name== "_")
def TD.of:TypeDesc->TD
 |.bool=>.bool|.int k=>.int k|.string=>.string|.pointer e=>.pointer e|.slice e=>.slice e|.array n e=>.array n e|.map k e=>.map k e|.struct a=>.struct (a.toList.map mF)|_=>.other
variable{a9:TypeDesc}
def TD.of_bool(h:TD.of a9=.bool):a9=.bool:=by cases a9<;>simp[TD.of]at h⊢
variable{t:IntKind}
def TD.of_int(h:TD.of a9=.int t):a9=.int t:=by cases a9<;>simp[TD.of]at h⊢;exact h
def TD.of_string(h:TD.of a9=.string):a9=.string:=by cases a9<;>simp[TD.of]at h⊢
def TD.of_slice(h:TD.of a9=.slice B):a9=.slice B:=by cases a9<;>simp[TD.of]at h⊢;exact h
def TD.of_pointer(h:TD.of a9=.pointer B):a9=.pointer B:=by cases a9<;>simp[TD.of]at h⊢;exact h
def TD.of_array(h:TD.of a9=.array B i):a9=.array B i:=by cases a9<;>simp[TD.of]at h⊢;exact h
def TD.of_map(h:TD.of a9=.map B i):a9=.map B i:=by cases a9<;>simp[TD.of]at h⊢;exact h
def TD.of_struct{l:List (Nat×Nat×Bool)}(h:TD.of a9=.struct l):∃a:Array Field,a9=.struct a/\a.toList.map mF=l:=by cases a9<;>simp[TD.of]at h⊢;exact h
structure TI where
 desc:TD
 size:Nat
 bytes:Nat
 zero:Value
 cmp:Bool
abbrev TT:=List (List Nat×TI)
def xG:TT->Nat->Option TI
 |[],_=>none|(k,v)::r,i=>bif k.any (Nat.beq i)then some v else xG r i
def TI.ok(P:Program)(t:Nat)(i:TI):Prop:=
 (P.underlying t).map TD.of=some i.desc/\(P.info? t).map (λj=>(j.size,j.bytes,j.zero))=some (i.size,i.bytes,some i.zero)/\
  (i.cmp=true->P.stoodInHeld t=false/\P.eqGuardType P.depth t=false)
def gT(P:Program)(tt:TT):Prop:=∀x∈tt,∀t∈x.1,TI.ok P t x.2
def gT.get{P:Program}:∀{tt:TT},gT P tt->∀{t:Nat} {i:TI},xG tt t=some i->TI.ok P t i
 |[],_,_,_,h=>by simp[xG]at h|(k,j)::r,b,t,i,h=>by
  simp only[xG]at h;cases a:k.any (Nat.beq t)
  ·simp only[a,BB]at h;exact gT.get (λx c=>b x (.tail _ c)) h
  ·simp only[a,BD]at h
   injection h with h;obtain⟨u,d,e⟩:=JH.1 a;have:=Nat.eq_of_beq_eq_true e;subst this;subst h;exact b _ (.head _) _ d
def gT.of{P:Program}{tt:TT}(h:(tt.map λx=>x.1.map λt=>((P.underlying t).map TD.of,(P.info? t).map λj=>(j.size,j.bytes,j.zero),x.2.cmp&&(P.stoodInHeld t||P.eqGuardType P.depth t)))=tt.map λx=>x.1.map λ_=>(some x.2.desc,some (x.2.size,x.2.bytes,some x.2.zero),false)):gT P tt:=by
 induction tt with
 |nil=>exactλx a=>by cases a|cons y r d=>
  injection h with e f;intro x a t b;rcases EC.1 a with rfl|a
  ·have:=List.map_inj_left.1 e t b
   simp only[KD]at this;refine⟨this.1,this.2.1,λg=>?_⟩;have c:=this.2.2;rw[g,GL,XC]at c;exact c
  ·exact d f x a t b
class GZ(P:Program) where
 tt:TT
 ok:gT P tt
 en:Nat->Bool
 he:∀f,en f=true->∃fn,P.funcs[f]?=some fn/\(fn.name== "runtime.NumGoroutine")=false/\fn.body.isNone=false
def nth{a:Type}:List a->Nat->Option a
 |[],_=>none|x::_,0=>some x|_::r,n+1=>nth r n
def Kw{a:Type}:∀(l:List a) (n:Nat),nth l n=l[n]?
 |[],_=>by simp[nth]|_::_,0=>by simp[nth]|_::r,n+1=>by simp[nth,Kw r n]
def uJ(k:IntKind)(x y:Int):Int:=k.wrap (BitVec.ofInt k.bits x&&&BitVec.ofInt k.bits y).toNat
def GR(k:IntKind)(x y:Int):Int:=k.wrap (BitVec.ofInt k.bits x|||BitVec.ofInt k.bits y).toNat
def VZ(k:IntKind)(x y:Int):Int:=k.wrap (BitVec.ofInt k.bits x^^^BitVec.ofInt k.bits y).toNat
def Jc(k:IntKind)(x y:Int):Int:=k.wrap (BitVec.ofInt k.bits x&&&~~~BitVec.ofInt k.bits y).toNat
def cB(k:IntKind)(x y:Int):Int:=k.wrap (x*2^(min y.toNat k.bits))
def sI(k:IntKind)(x y:Int):Int:=x.fdiv (2^(min y.toNat k.bits))
def Un(a:BinOp)(k:IntKind)(x y:Int):Option Value:=
 match a with
 |.add=>some (.int k (k.wrap (x+y)))|.sub=>some (.int k (k.wrap (x-y)))|.mul=>some (.int k (k.wrap (x*y)))|.quo=>match decide (y=0)with|true=>none|false=>some (.int k (k.wrap (x.tdiv y)))
 |.rem=>match decide (y=0)with|true=>none|false=>some (.int k (x.tmod y))
 |.and=>some (.int k (uJ k x y))|.or=>some (.int k (GR k x y))|.xor=>some (.int k (VZ k x y))|.andNot=>some (.int k (Jc k x y))|.eql=>some (.bool (x==y))|.neq=>some (.bool (x !=y))|.lss=>some (.bool (decide (x<y)))|.leq=>some (.bool (decide (x<=y)))|.gtr=>some (.bool (decide (x>y)))|.geq=>some (.bool (decide (x>=y)))|_=>none
def Ky(a:BinOp)(k:IntKind)(x y:Int):Option Value:=
 match decide (y<0)with
 |true=>none|false=>match a with
  |.shl=>some (.int k (cB k x y))|.shr=>some (.int k (sI k x y))|_=>none
def yBI(a:BinOp)(x y:ByteArray):Option Value:=
 match a with
 |.eql=>some (.bool (x.toList==y.toList))|.neq=>some (.bool (!(x.toList==y.toList)))|.lss=>some (.bool (Op.bytesLess x.toList y.toList))|.leq=>some (.bool (Op.bytesLess x.toList y.toList||x.toList==y.toList))|.gtr=>some (.bool (!(Op.bytesLess x.toList y.toList||x.toList==y.toList)))|.geq=>some (.bool (!(Op.bytesLess x.toList y.toList)))|_=>none
def zYW:TD->Bool
 |.struct _|.array _ _=>true|_=>false
def Uo{a:Type}:List Value->Nat->(List Value->Option a)->Option a
 |_,0,k=>k []|[],_+1,_=>none|v::r,n+1,k=>Uo r n λb=>k (v::b)
def zLh{a:Type}:∀(l:List Value) (n:Nat) (k:List Value->Option a) (b:a),Uo l n k=some b->n<=l.length/\k (l.take n)=some b
 |_,0,k,b,h=>by simpa[Uo]using h|[],_+1,_,_,h=>by simp[Uo]at h|v::r,n+1,k,b,h=>by have:=zLh r n _ b h;exact⟨by simp;omega,by simpa using this.2⟩
def kA(tt:TT)(t:Nat)(b:List Value)(a:Nat):Option Value:=
 match xG tt t with
 |some i=>match zYW i.desc with
  |true=>Uo (b.drop a) i.size λc=>some (.agg c.toArray)|false=>nth b a
 |none=>none
mutual
def Kz(tt:TT):Nat->Nat->Value->Value->Option Bool
 |0,_,_,_=>none|n+1,t,x,y=>match xG tt t with
  |none=>none|some i=>match i.desc,x,y with
   |.bool,.bool a,.bool b=>some (a==b)|.int _,.int k a,.int k' b=>match decide (k=k')with|true=>some (a==b)|false=>none
   |.string,.string a,.string b=>some (a.toList==b.toList)|.struct f,.agg c,.agg d=>match i.cmp with|true=>Qh tt n f c.toList d.toList|false=>none
   |.array m e,.agg c,.agg d=>match xG tt e with
    |some j=>Qi tt n e j.size m 0 c.toList d.toList|none=>none
   |_,_,_=>none
def Qh(tt:TT):Nat->List (Nat×Nat×Bool)->List Value->List Value->Option Bool
 |_,[],_,_=>some true|0,_::_,_,_=>none|n+1,f::e,c,d=>match f.2.2 with
  |true=>none|false=>match kA tt f.1 c f.2.1,kA tt f.1 d f.2.1 with
   |some a,some b=>match Kz tt n f.1 a b,Qh tt n e c d with
    |some p,some q=>some (p&&q)|_,_=>none
   |_,_=>none
def Qi(tt:TT):Nat->Nat->Nat->Nat->Nat->List Value->List Value->Option Bool
 |_,_,_,0,_,_,_=>some true|0,_,_,_+1,_,_,_=>none|n+1,e,c,m+1,i,d,f=>match kA tt e d (i*c),kA tt e f (i*c)with
  |some a,some b=>match Kz tt n e a b,Qi tt n e c m (i+1) d f with
   |some p,some q=>some (p&&q)|_,_=>none
  |_,_=>none
end
def Gt(A B:Option H):Option Bool:=match A,B with
 |none,b=>some b.isNone|some _,none=>some false|_,_=>none
def La(a:BinOp)(r:Option Bool):Option Value:=match a,r with
 |.eql,some b=>some (.bool b)|.neq,some b=>some (.bool (!b))|_,_=>none
def Jd(tt:TT)(c:BinOp)(t:Nat)(a b:Value):Option Value:=
 match a,b with
 |.int k x,.int k' y=>match c with
  |.shl=>Ky .shl k x y|.shr=>Ky .shr k x y|c=>match decide (k=k')with|true=>Un c k x y|false=>none
 |.string s,.string u=>yBI c s u|.bool p,.bool q=>match xG tt t with
  |some i=>match i.desc,c with
   |.bool,.eql=>some (.bool (p==q))|.bool,.neq=>some (.bool (!(p==q)))|_,_=>none
  |none=>none
 |.agg d,.agg e=>match xG tt t with
  |some i=>match i.cmp,c with
   |true,.eql=>match Kz tt 60 t (.agg d) (.agg e)with|some r=>some (.bool r)|none=>none
   |true,.neq=>match Kz tt 60 t (.agg d) (.agg e)with|some r=>some (.bool (!r))|none=>none
   |_,_=>none
  |none=>none
 |.slice A _ _,.slice B _ _=>match xG tt t with
  |some i=>match i.desc with|.slice _=>La c (Gt A B)|_=>none
  |none=>none
 |.pointer A,.pointer B=>match xG tt t with
  |some i=>match i.desc with|.pointer _=>La c (Gt A B)|_=>none
  |none=>none
 |.map A,.map B=>match xG tt t with
  |some i=>match i.desc with|.map _ _=>La c (Gt A B)|_=>none
  |none=>none
 |_,_=>none
def pun(a:UnOp)(v:Value):Option Value:=
 match a,v with
 |.not,.bool b=>some (.bool (!b))|.neg,.int k n=>some (.int k (k.wrap (0-n)))|.xor,.int k n=>some (.int k (VZ k (if k.signed then-1 else k.max) n))|_,_=>none
def zYa(tt:TT)(s d:Nat)(v:Value):Option Value:=
 match xG tt s,xG tt d with
 |some _,some j=>match j.desc,v with
  |.int k,.int _ n=>some (.int k (k.wrap n))|.string,.string b=>some (.string b)|_,_=>none
 |_,_=>none
def yBJ(a:Addr)(n:Nat):Addr:=match n with|0=>a|n+1=>⟨a.block,a.off+(n+1),none⟩
def zUJ(a:Addr)(n:Nat):yBJ a n=a.add n:=by cases n<;>rfl
def zGp(tt:TT)(s:Nat)(v:Value)(f:Nat):Option Value:=
 match xG tt s,v with
 |some i,.pointer (some a)=>match i.desc with
  |.struct c=>match nth c f with
   |some b=>match xG tt b.1 with
    |some j=>match j.size with
     |0=>none|_+1=>some (.pointer (some (yBJ a b.2.1)))
    |none=>none
   |none=>none
  |_=>none
 |_,_=>none
def zSK(tt:TT)(s:Nat)(v:Value)(f:Nat):Option Value:=
 match xG tt s,v with
 |some i,.agg b=>match i.desc with
  |.struct c=>match nth c f with
   |some a=>kA tt a.1 b.toList a.2.1|none=>none
  |_=>none
 |_,_=>none
def zSw(tt:TT)(s:Nat)(v a:Value):Option Value:=
 match xG tt s,v,a with
 |some i,.agg b,.int _ n=>match i.desc with
  |.array len e=>match xG tt e,decide (0<=n),decide (n<(len:Int))with
   |some j,true,true=>kA tt e b.toList (n.toNat*j.size)|_,_,_=>none
  |_=>none
 |_,_,_=>none
def zGt(tt:TT)(s:Nat)(v b:Value):Option Value:=
 match xG tt s,v,b with
 |some i,.pointer (some a),.int _ n=>match i.desc with
  |.array len e=>match xG tt e,decide (0<=n),decide (n<(len:Int))with
   |some j,true,true=>some (.pointer (some (yBJ a (n.toNat*j.size))))|_,_,_=>none
  |_=>none
 |_,_,_=>none
def yBd(tt:TT)(a:List Nat)(v:Value):Option Value:=
 match a with
 |[t]=>match xG tt t with
  |some i=>match i.desc,v with
   |.string,.string s=>some (.int .i64 s.size)|.slice _,.slice _ n _=>some (.int .i64 n)|.array n _,_=>some (.int .i64 n)|_,_=>none
  |none=>none
 |_=>none
def yBX(a b:Value):Option Value:=
 match a,b with
 |.int k x,.int k' y=>match decide (k=k')with|true=>some (.int k (min x y))|false=>none
 |_,_=>none
def yBF(a b:Value):Option Value:=
 match a,b with
 |.int k x,.int k' y=>match decide (k=k')with|true=>some (.int k (max x y))|false=>none
 |_,_=>none
def zYG(tt:TT)(a:Env)(c:Call):Option Value:=
 match c.callee,c.args.toList with
 |.builtin .len,[x]=>match ev a x with|some v=>yBd tt c.argTypes.toList v|none=>none
 |.builtin .min,[x,y]=>match ev a x,ev a y with|some v,some u=>yBX v u|_,_=>none
 |.builtin .max,[x,y]=>match ev a x,ev a y with|some v,some u=>yBF v u|_,_=>none
 |_,_=>none
def zc:Value->List Value
 |.agg a=>a.toList|v=>[v]
def aU(v:Value):(zc v).toArray=v.cells:=by cases v<;>simp[zc,Value.cells]
def sN:List Value->Nat->List Value->(List Value->Option (List Value))->Option (List Value)
 |b,0,[],k=>k b|[],0,_::_,_=>none|_::r,0,v::a,k=>sN r 0 a λl=>k (v::l)|[],_+1,_,_=>none|c::r,n+1,a,k=>sN r n a λl=>k (c::l)
def cI:∀(b:List Value) (n:Nat) (a:List Value) (k:List Value->Option (List Value)) (r:List Value),sN b n a k=some r->
  n+a.length<=b.length/\k (b.take n++a++b.drop (n+a.length))=some r
 |b,0,[],k,r,h=>by simpa[sN]using h|[],0,_::_,_,_,h=>by simp[sN]at h|c::b,0,v::a,k,r,h=>by simp only[sN]at h;have:=cI b 0 a _ r h;exact⟨by have:=this.1;simp at*;omega,by simpa using this.2⟩|[],_+1,_,_,_,h=>by simp[sN]at h|c::b,n+1,a,k,r,h=>by
  simp only[sN]at h;have:=cI b n a _ r h;refine⟨by have:=this.1;simp at*;omega,?_⟩;have e:n+1+a.length=(n+a.length)+1:=by omega
  rw[e];simpa using this.2
def Gu(d:Env)(e:Nat->Option (Nat×Nat)):List Value->List (Nat×Operand)->Option (List Value)
 |a,[]=>some a|a,(i,x)::r=>match e i,ev d x with
  |some (b,f),some v=>match Nat.beq (zc v).length f with
   |true=>match sN a b (zc v) some with
    |some c=>Gu d e c r|none=>none
   |false=>none
  |_,_=>none
def Lc(tt:TT):List (Nat×Nat×Bool)->Bool
 |[]=>true|f::r=>match xG tt f.1 with|some _=>Lc tt r|none=>false
def zLg(tt:TT)(a:List (Nat×Nat×Bool))(i:Nat):Option (Nat×Nat):=
 match nth a i with
 |some f=>match xG tt f.1 with
  |some j=>some (f.2.1,j.size)|none=>none
 |none=>none
def zTp(tt:TT)(b:Env)(t:Nat)(c:List (Nat×Operand)):Option Value:=
 match xG tt t with
 |some i=>match i.desc with
  |.struct d=>match Lc tt d with
   |true=>match Gu b (zLg tt d) (zc i.zero) c with
    |some a=>some (.agg a.toArray)|none=>none
   |false=>none
  |.array _ e=>match xG tt e with
   |some j=>match Gu b (λi=>some (i*j.size,j.size)) (zc i.zero) c with
    |some a=>some (.agg a.toArray)|none=>none
   |none=>none
  |_=>none
 |none=>none
def ZM(tt:TT)(e:Env):Op->Option Value
 |.build t k=>zTp tt e t k.toList|.move x=>ev e x|.assign x=>ev e x|.pick c a b=>match ev e c with
  |some (.bool true)=>ev e a|some (.bool false)=>ev e b|_=>none
 |.binOp op t x y _=>match ev e x,ev e y with
  |some a,some b=>Jd tt op t a b|_,_=>none
 |.unOp op _ x=>match ev e x with|some v=>pun op v|none=>none
 |.extract t i=>match ev e t with|some (.tuple h)=>nth h.toList i|_=>none
 |.convert s d x=>match ev e x with|some v=>zYa tt s d v|none=>none
 |.fieldAddr s x f=>match ev e x with|some v=>zGp tt s v f|none=>none
 |.field s x f=>match ev e x with|some v=>zSK tt s v f|none=>none
 |.index s x j=>match ev e x,ev e j with|some v,some n=>zSw tt s v n|_,_=>none
 |.indexAddr s x j=>match ev e x,ev e j with|some v,some n=>zGt tt s v n|_,_=>none
 |.nilCheck x=>match ev e x with|some (.pointer (some a))=>some (.pointer (some a))|_=>none
 |.makeFunc fn first g=>match evs e first.toList,evs e g.toList with
  |some h,some l=>some (.func fn h.toArray l.toArray)|_,_=>none
 |.call c=>zYG tt e c|_=>none
variable{a0:Array Nat}{c4:BinOp}{b8:Bool}{y b9:Int}{J V f o a7:Nat}{Y:Option Addr}{d6:Option Nat}{m:TI}{j:TT}{E c7:Value}
section
def xC(c:gT P j){t:Nat}(h:xG j t=some m)(w:World):(sizeOf t).run P w=.ok m.size w:=by
 have:=(c.get h).2.1;cases b:P.info? t with
 |none=>simp[b]at this|some a=>simp[b]at this;simp[sizeOf,typeInfo,b,this.1]
def tY(c:gT P j){t:Nat}(h:xG j t=some m)(w:World):(zeroValue t).run P w=.ok m.zero w:=by
 have:=(c.get h).2.1;cases b:P.info? t with
 |none=>simp[b]at this|some a=>simp[b]at this;simp[zeroValue,typeInfo,b,this.2.2]
def gT.desc(b:gT P j){t:Nat}{i:TI}(h:xG j t=some i):∃d,P.underlying t=some d/\TD.of d=i.desc:=by
 have:=(b.get h).1;cases a:P.underlying t with
 |none=>simp[a]at this|some d=>rw[a]at this;exact⟨d,O,by simpa using this⟩
def zHp(a:gT P j){t:Nat}(h:xG j t=some m)(w:World):(isAgg t).run P w=.ok (zYW m.desc) w:=by obtain⟨d,b,c⟩:=a.desc h;unfold isAgg;rw[EJ,CY b,<-c];cases d<;>rfl
def Qj(c:gT P j){t:Nat}{a:Array Value}(h:kA j t a.toList B=some S)(w:World):(part t a B).run P w=.ok S w:=by
 unfold kA at h;split at h
 ·rename_i i d
  unfold part;rw[EJ,zHp c d];split at h
  ·rename_i b
   have h:=(zLh _ _ _ _ h).2;injection h with h;subst h;simp only[EO,b,FO,EJ,xC c d,FX];congr 2;apply QI;simp[Array.toList_extract,List.extract,OD]
  ·rename_i b
   rw[Kw]at h;simp only[EO,b,MV,EI];have:a[B]?=some S:=by simpa using h
   simp[this]
 ·cases h
def zWR{k:IntKind}(h:Un c4 k y b9=some S)(a:c4≠.shl/\c4≠.shr)(t:TypeId)(w:World):(binOp c4 t (.int k y) (.int k b9)).run P w=.ok S w:=by
 cases c4<;>simp only[Un]at h<;>simp only[binOp,JZ,TY,EI]
 case quo=>
  split at h
  ·cases h
  ·rename_i hy;injection h with h;subst h;simp at hy;simp[Op.intDiv,hy]
 case rem=>
  split at h
  ·cases h
  ·rename_i hy;injection h with h;subst h;simp at hy;simp[Op.intDiv,hy]
 case shl=>cases h
 case shr=>cases h
 all_goals(injection h with h;subst h;rfl)
def zKj{k a:IntKind}(h:Ky c4 k y b9=some S)(t:TypeId)(w:World):(binOp c4 t (.int k y) (.int a b9)).run P w=.ok S w:=by
 unfold Ky at h;split at h
 ·cases h
 ·rename_i hy
  cases c4<;>simp only[reduceCtorEq]at h<;>injection h with h<;>subst h<;>simp at hy<;>simp[binOp,Op.shift,Int.not_lt.2 hy,cB,sI]
def zYw{x y:ByteArray}(h:yBI c4 x y=some S)(t:TypeId)(w:World):(binOp c4 t (.string x) (.string y)).run P w=.ok S w:=by cases c4<;>simp only[yBI,reduceCtorEq]at h<;>injection h with h<;>subst h<;>rfl
def Ld(d e n:Nat)(c f:Array Value):List Nat->Sem Bool
 |[]=>pure true|i::r=>do
  let a<-part e c (i*n)
  let b<-part e f (i*n)
  let q<-Op.equalIn d e a b
  if(!q)=true then pure false else Ld d e n c f r
def zGY(p:gT P j)(d t c e:Nat)(q:xG j e=some m)(f g:Array Value)(h:P.underlying t=some (.array c e))(w:World):(Op.equalIn (d+1) t (.agg f) (.agg g)).run P w=(Ld d e m.size f g (List.range' 0 c)).run P w:=by
 simp only[Op.equalIn,EJ,CY h,EO,xC p q];rw[Std.Legacy.Range.forIn_eq_forIn_range'];simp only[Std.Legacy.Range.size,Nat.sub_zero,PZ,Nat.div_one];generalize List.range' 0 c=l;clear h;induction l generalizing w with
 |nil=>simp[Ld]|cons i l s=>
  simp only[List.forIn_cons,Ld,EJ];generalize (part e f (i*m.size)).run P w=r1;cases r1 with
  |ok a k=>
   simp only[EO];generalize (part e g (i*m.size)).run P k=r2;cases r2 with
   |ok b n=>
    simp only[EO];generalize (Op.equalIn d e a b).run P n=r3;cases r3 with
    |ok r o=>
     cases r
     ·simp only[EO,IK,FO,FX]
     ·simp only[EO,EG,MV,EI,FX]
      exact s o
    |halt x o=>simp[Result.andThen]
   |halt x n=>simp[Result.andThen]
  |halt x k=>simp[Result.andThen]
mutual
def D5(g:gT P j):∀(n:Nat) (t:Nat) (x y:Value) (r:Bool),Kz j n t x y=some r->∀(d:Nat) (w:World),n<=d->(Op.equalIn d t x y).run P w=.ok r w
 |0,_,_,_,_,h,_,_,_=>by simp[Kz]at h|n+1,t,x,y,r,h,d,w,B=>by
  obtain⟨d,rfl⟩:∃e,d=e+1:=⟨d-1,by omega⟩;unfold Kz at h;split at h
  ·cases h
  ·rename_i i q
   obtain⟨C,f,c⟩:=g.desc q;split at h
   ·rename_i b
    injection h with h;subst h;simp[Op.equalIn,CY f,TD.of_bool (c.trans b)]
   ·rename_i b
    split at h
    ·rename_i k
     injection h with h;subst h;simp at k;simp[Op.equalIn,CY f,TD.of_int (c.trans b),k]
    ·cases h
   ·rename_i b
    injection h with h;subst h;rw[TD.of_string (c.trans b)]at f;exact run_equalIn_string w d t _ _ f
   ·rename_i v l o b
    split at h
    ·rename_i z
     obtain⟨s,rfl,rfl⟩:=TD.of_struct (c.trans b);have u:P.fieldsOf t=s:=by unfold Program.fieldsOf;rw[f]
     have p:P.underlying t=some (.struct (P.fieldsOf t)):=by rw[u,f]
     rw[run_equalIn_struct w d t l o p ((g.get q).2.2 z).1,u];exact zNo g n s.toList l o r h d w (by omega)
    ·cases h
   ·rename_i m e l o b
    split at h
    ·rename_i a A
     rw[zGY g d t m e A l o (TD.of_array (c.trans b)▸f)];exact zMW g n e a.size m 0 l o r h d w (by omega)
    ·cases h
   ·cases h
def zNo(c:gT P j):∀(n:Nat) (e:List Field) (g i:Array Value) (r:Bool),Qh j n (e.map mF) g.toList i.toList=some r->∀(d:Nat) (w:World),n<=d->(Op.eqFields d g i e).run P w=.ok r w
 |_,[],_,_,_,h,_,_,_=>by simp only[QE,Qh]at h;injection h with h;subst h;simp[Op.eqFields]
 |0,_::_,_,_,_,h,_,_,_=>by simp[Qh]at h|n+1,f::e,g,i,r,h,d,w,u=>by
  rw[GY]at h;unfold Qh at h;split at h
  ·cases h
  ·rename_i l
   have k:f.name≠ "_" :=by simpa[mF]using l
   simp only[mF]at h;split at h
   ·rename_i a b m o
    split at h
    ·rename_i p q s t
     injection h with h;subst h;simp only[Op.eqFields,AQ k,EJ,Qj c m,Qj c o,EO,D5 c n f.type a b p s d w (by omega)];cases p
     ·simp
     ·simpa using zNo c n e g i q t d w (by omega)
    ·cases h
   ·cases h
def zMW(c:gT P j):∀(n e f m i:Nat) (g k:Array Value) (r:Bool),Qi j n e f m i g.toList k.toList=some r->∀(d:Nat) (w:World),n<=d->
  (Ld d e f g k (List.range' i m)).run P w=.ok r w
 |_,_,_,0,_,_,_,_,h,_,_,_=>by simp only[Qi]at h;injection h with h;subst h;simp[Ld]
 |0,_,_,_+1,_,_,_,_,h,_,_,_=>by simp[Qi]at h|n+1,e,f,m+1,i,g,k,r,h,d,w,u=>by
  unfold Qi at h;split at h
  ·rename_i a b l o
   split at h
   ·rename_i p q s t
    injection h with h;subst h;simp only[RY,Ld,EJ,Qj c l,Qj c o,EO,D5 c n e a b p s d w (by omega)];cases p
    ·simp
    ·simpa using zMW c n e f m (i+1) g k q t d w (by omega)
   ·cases h
  ·cases h
end
def zPd(t:Nat)(p q:Bool)(h:P.underlying t=some .bool)(w:World):(binOp .eql t (.bool p) (.bool q)).run P w=.ok (.bool (p==q)) w:=by
 have a:(Op.equalIn (9999+1) t (.bool p) (.bool q)).run P w=.ok (p==q) w:=run_equalIn_bool w 9999 t p q h;have b:binOp .eql t (.bool p) (.bool q)=(do pure (.bool (<-Op.equal t (.bool p) (.bool q)))):=by simp only[binOp]
 rw[b,EJ];show((Op.equalIn (9999+1) t (.bool p) (.bool q)).run P w).andThen _=_;rw[a];rfl
def zOZ(t:Nat)(p q:Bool)(h:P.underlying t=some .bool)(w:World):(binOp .neq t (.bool p) (.bool q)).run P w=.ok (.bool (!(p==q))) w:=by
 have a:(Op.equalIn (9999+1) t (.bool p) (.bool q)).run P w=.ok (p==q) w:=run_equalIn_bool w 9999 t p q h;have b:binOp .neq t (.bool p) (.bool q)=(do pure (.bool (!(<-Op.equal t (.bool p) (.bool q))))):=by simp only[binOp]
 rw[b,EJ];show((Op.equalIn (9999+1) t (.bool p) (.bool q)).run P w).andThen _=_;rw[a];rfl
def zOv{t:Nat}{r:Bool}(e:∀w,(Op.equalIn (9999+1) t S E).run P w=.ok r w)(a:La c4 (some r)=some c7)(c:∀w,(binOp .eql t S E).run P w=(do pure (.bool (<-Op.equal t S E)):Sem Value).run P w)(d:∀w,(binOp .neq t S E).run P w=(do pure (.bool (!(<-Op.equal t S E))):Sem Value).run P w)(w:World):(binOp c4 t S E).run P w=.ok c7 w:=by
 unfold La at a;split at a
 ·rename_i E b
  injection b with b;injection a with a;subst b;subst a;rw[c,EJ];show((Op.equalIn (9999+1) t _ _).run P w).andThen _=_;rw[e];rfl
 ·rename_i E b
  injection b with b;injection a with a;subst b;subst a;rw[d,EJ];show((Op.equalIn (9999+1) t _ _).run P w).andThen _=_;rw[e];rfl
 ·cases a
def zYZ{t:Nat}{B:Option Addr}(b:P.underlying t=some (.slice i))(a:Gt Y B=some b8)(w:World):(Op.equalIn (J+1) t (.slice Y V f) (.slice B o a7)).run P w=.ok b8 w:=by unfold Op.equalIn;rw[EJ,CY b,EO];cases Y<;>cases B<;>simp[Gt]at a<;>subst a<;>rfl
def zXf{t:Nat}{B:Option Addr}(b:P.underlying t=some (.pointer i))(a:Gt Y B=some b8)(w:World):(Op.equalIn (J+1) t (.pointer Y) (.pointer B)).run P w=.ok b8 w:=by unfold Op.equalIn;rw[EJ,CY b,EO];cases Y<;>cases B<;>simp[Gt]at a<;>subst a<;>rfl
def zWS{t:Nat}{B:Option Nat}(b:P.underlying t=some (.map i J))(a:Gt d6 B=some b8)(w:World):(Op.equalIn (V+1) t (.map d6) (.map B)).run P w=.ok b8 w:=by unfold Op.equalIn;rw[EJ,CY b,EO];cases d6<;>cases B<;>simp[Gt]at a<;>subst a<;>rfl
def zIo{o:Option Bool}(h:La c4 o=some S):∃r,o=some r:=by
 unfold La at h;split at h
 ·exact⟨_,O⟩
 ·exact⟨_,O⟩
 ·cases h
def zYM(m:gT P j){t:Nat}(h:Jd j c4 t S E=some c7)(x y:Operand)(w:World):(do eqGuard c4 t x y S E;binOp c4 t S E:Sem Value).run P w=.ok c7 w:=by
 unfold Jd at h;split at h
 ·rename_i k i C D
  have d:(eqGuard c4 t x y (.int k i) (.int C D)).run P w=.ok () w:=by cases c4<;>rfl
  rw[EJ,d,EO];split at h
  ·exact zKj h t w
  ·exact zKj h t w
  ·rename_i F G
   split at h
   ·rename_i p
    simp at p;subst p;exact zWR h ⟨F,G⟩ t w
   ·cases h
 ·rename_i E q
  have d:(eqGuard c4 t x y (.string E) (.string q)).run P w=.ok () w:=by cases c4<;>rfl
  rw[EJ,d,EO];exact zYw h t w
 ·rename_i E q
  have d:(eqGuard c4 t x y (.bool E) (.bool q)).run P w=.ok () w:=by cases c4<;>rfl
  rw[EJ,d,EO];split at h
  ·rename_i i g
   obtain⟨s,o,a⟩:=m.desc g;split at h
   ·rename_i l
    injection h with h;subst h;exact zPd t E q (TD.of_bool (a.trans l)▸o) w
   ·rename_i l
    injection h with h;subst h;exact zOZ t E q (TD.of_bool (a.trans l)▸o) w
   ·cases h
  ·cases h
 ·split at h
  ·rename_i v z _ i g
   split at h
   ·rename_i u
    split at h
    ·rename_i r b
     injection h with h;subst h;rw[EJ,run_eqGuard_agg w .eql t x y v z ((m.get g).2.2 u).2,EO,run_eql_struct,D5 m 60 t _ _ r b 10000 w (by omega)];rfl
    ·cases h
   ·rename_i u
    split at h
    ·rename_i r b
     injection h with h;subst h;rw[EJ,run_eqGuard_agg w .neq t x y v z ((m.get g).2.2 u).2,EO,run_neq_struct,D5 m 60 t _ _ r b 10000 w (by omega)];rfl
    ·cases h
   ·cases h
  ·cases h
 ·rename_i A n c B H I
  have d:(eqGuard c4 t x y (.slice A n c) (.slice B H I)).run P w=.ok () w:=by cases c4<;>rfl
  rw[EJ,d,EO];split at h
  ·rename_i i g
   obtain⟨s,o,a⟩:=m.desc g;split at h
   ·rename_i e l
    obtain⟨r,b⟩:=zIo h;rw[b]at h;have f:=TD.of_slice (a.trans l)▸o;exact zOv (P:=P) (r:=r) (λw=>zYZ f b w) h (λ_=>O) (λ_=>O) w
   ·cases h
  ·cases h
 ·rename_i A B
  have d:(eqGuard c4 t x y (.pointer A) (.pointer B)).run P w=.ok () w:=by cases c4<;>rfl
  rw[EJ,d,EO];split at h
  ·rename_i i g
   obtain⟨s,o,a⟩:=m.desc g;split at h
   ·rename_i e l
    obtain⟨r,b⟩:=zIo h;rw[b]at h;have f:=TD.of_pointer (a.trans l)▸o;exact zOv (P:=P) (r:=r) (λw=>zXf f b w) h (λ_=>O) (λ_=>O) w
   ·cases h
  ·cases h
 ·rename_i A B
  have d:(eqGuard c4 t x y (.map A) (.map B)).run P w=.ok () w:=by cases c4<;>rfl
  rw[EJ,d,EO];split at h
  ·rename_i i g
   obtain⟨s,o,a⟩:=m.desc g;split at h
   ·rename_i k e l
    obtain⟨r,b⟩:=zIo h;rw[b]at h;have f:=TD.of_map (a.trans l)▸o;exact zOv (P:=P) (r:=r) (λw=>zWS f b w) h (λ_=>O) (λ_=>O) w
   ·cases h
  ·cases h
 ·cases h
def yAy{a:UnOp}(h:pun a S=some E)(w:World):(Op.unary a S).run P w=.ok E w:=by unfold pun at h;split at h<;>first|(injection h with h;subst h;rfl)|cases h
def zVx(e:gT P j)(h:zYa j B i S=some E)(w:World):(convert B i S).run P w=.ok E w:=by
 unfold zYa at h;split at h
 ·rename_i b c k l
  obtain⟨m,f,_⟩:=e.desc k;obtain⟨n,g,a⟩:=e.desc l;split at h
  ·rename_i d
   injection h with h;subst h;simp[convert,CY f,CY g,TD.of_int (a.trans d),Conv.intToInt]
  ·rename_i d
   injection h with h;subst h;simp[convert,CY f,CY g,TD.of_string (a.trans d)]
  ·cases h
 ·cases h
def zKz(f:gT P j)(h:zGp j B S i=some E)(w:World):(Instr.fieldAt B S i).run P w=.ok E w:=by
 unfold zGp at h;split at h
 ·rename_i b t k
  obtain⟨u,l,d⟩:=f.desc k;split at h
  ·rename_i m o
   obtain⟨p,rfl,rfl⟩:=TD.of_struct (d.trans o);rw[Kw]at h;split at h
   ·rename_i q a
    split at h
    ·rename_i c g
     split at h
     ·cases h
     ·rename_i n r
      injection h with h;subst h;simp only[IJ,LP]at a;obtain⟨s,a,rfl⟩:=a;have e:p[i]?=some s:=by simpa using a
      simp only[mF]at g;simp[Instr.fieldAt,CY l,mF,e,Instr.sureAddr,fieldPlace,xC f g,r,zUJ]
    ·cases h
   ·cases h
  ·cases h
 ·cases h
def zSu(e:gT P j)(h:zSK j B S i=some E)(w:World):(Instr.field B S i).run P w=.ok E w:=by
 unfold zSK at h;split at h
 ·rename_i b p f
  obtain⟨q,g,c⟩:=e.desc f;split at h
  ·rename_i k l
   obtain⟨m,rfl,rfl⟩:=TD.of_struct (c.trans l);rw[Kw]at h;split at h
   ·rename_i n a
    simp only[IJ,LP]at a;obtain⟨o,a,rfl⟩:=a;have d:m[i]?=some o:=by simpa using a
    simp only[mF]at h;simp[Instr.field,CY g,d,asAgg,Qj e h]
   ·cases h
  ·cases h
 ·cases h
def zTr(a:gT P j)(h:zSw j B S E=some c7)(w:World):(Instr.index B S E).run P w=.ok c7 w:=by
 unfold zSw at h;split at h
 ·rename_i i p k n g
  obtain⟨q,l,c⟩:=a.desc g;split at h
  ·rename_i len e m
   split at h
   ·rename_i b o d f
    simp at d f;simp[Instr.index,asIntOf,CY l,TD.of_array (c.trans m),d,f,xC a o,Qj a h]
   ·cases h
  ·cases h
 ·cases h
def zKs(c:gT P j)(h:zGt j B S E=some c7)(w:World):(Instr.indexAt B S E).run P w=.ok c7 w:=by
 unfold zGt at h;split at h
 ·rename_i i p k n g
  obtain⟨q,l,a⟩:=c.desc g;split at h
  ·rename_i len e m
   split at h
   ·rename_i b o d f
    injection h with h;subst h;simp at d f;simp[Instr.indexAt,asIntOf,CY l,TD.of_array (a.trans m),d,f,Instr.sureAddr,xC c o,zUJ]
   ·cases h
  ·cases h
 ·cases h
theorem zYB(d:gT P j)(h:yBd j a0.toList S=some E)(w:World):(Builtin.len_ a0 B #[S]).run P w=.ok E w:=by
 unfold yBd at h;split at h
 ·rename_i t f
  have:a0=#[t]:=by cases a0;simp_all
  subst this;split at h
  ·rename_i i e
   obtain⟨g,c,a⟩:=d.desc e;split at h
   ·rename_i b;injection h with h;subst h;simp[Builtin.len_,CY c,TD.of_string (a.trans b),goInt]
   ·rename_i b;injection h with h;subst h;simp[Builtin.len_,CY c,TD.of_slice (a.trans b),goInt]
   ·rename_i b;injection h with h;subst h;simp[Builtin.len_,CY c,TD.of_array (a.trans b),goInt]
   ·cases h
  ·cases h
 ·cases h
def zYx(h:yBX S E=some c7)(w:World):(Builtin.min_ a0 B #[S,E]).run P w=.ok c7 w:=by
 unfold yBX at h;split at h
 ·split at h
  ·rename_i k x b y a
   injection h with h;subst h;simp at a;simp only[Builtin.min_,List.foldlM_cons,List.foldlM_nil,Builtin.min2,bind_pure,FX];congr 2;simp only[Int.min_def];split<;>split<;>omega
  ·cases h
 ·cases h
def zZa(h:yBF S E=some c7)(w:World):(Builtin.max_ a0 B #[S,E]).run P w=.ok c7 w:=by
 unfold yBF at h;split at h
 ·split at h
  ·rename_i k x b y a
   injection h with h;subst h;simp at a;simp only[Builtin.max_,List.foldlM_cons,List.foldlM_nil,Builtin.max2,bind_pure,FX];congr 2;simp only[Int.max_def];split<;>split<;>omega
  ·cases h
 ·cases h
theorem zVt(i:gT P j)(e:At Z I){c:Call}(h:zYG j I c=some S)(k:Nat)(w:World):(do let d<-resolve Z.eval c k;invoke d.target d.args:Sem Next).run P w=.ok (.value S) w:=by
 obtain⟨callee,args,m⟩:=c;unfold zYG at h;split at h
 ·rename_i x a g
  have:args=#[x]:=by cases args;simp_all
  subst this;simp only at a;subst a;split at h
  ·rename_i u f
   simp[resolve,invoke,builtin,e.eval f,zYB i h]
  ·cases h
 ·rename_i x y a g
  have:args=#[x,y]:=by cases args;simp_all
  subst this;simp only at a;subst a;split at h
  ·rename_i u l f b
   simp[resolve,invoke,builtin,e.eval f,e.eval b,zYx h]
  ·cases h
 ·rename_i x y a g
  have:args=#[x,y]:=by cases args;simp_all
  subst this;simp only at a;subst a;split at h
  ·rename_i u l f b
   simp[resolve,invoke,builtin,e.eval f,e.eval b,zZa h]
  ·cases h
 ·cases h
def zNn(a:Nat):∀(c:List Value) (k:Nat) (b:Array Value),a+k+c.length<=b.size->
  (c.zipIdx k).foldl (λ(f:Array Value) (x:Value×Nat)=>f.setIfInBounds (a+x.2) x.1) b=(b.toList.take (a+k)++c++b.toList.drop (a+k+c.length)).toArray
 |[],k,b,_=>by simp|v::c,k,b,h=>by
  simp only[EP]at h;simp only[List.zipIdx_cons,LW];rw[zNn a c (k+1) _ (by simp;omega)];congr 1;simp only[Array.toList_setIfInBounds,EP];apply FW;intro i;rw[NU,NU,NU,NU];simp only[ER,DV,SC,EP,LQ,MW,KR,PU];have g:min (a+(k+1)) b.size=a+k+1:=by omega
  have j:min (a+k) b.size=a+k:=by omega
  rw[g,j];by_cases d:i<a+k
  ·simp only[show i<a+k+1+c.length by omega,show i<a+k+1 by omega,show i<a+(k+1)by omega,show i<a+k+(c.length+1)by omega,d,FO]
   rw[AP (by omega)]
  ·by_cases l:i=a+k
   ·subst l
    simp only[show a+k<a+k+1+c.length by omega,show a+k<a+k+1 by omega,show a+k<a+(k+1)by omega,show a+k<a+k+(c.length+1)by omega,Nat.lt_irrefl,FO,EI,KI];simp;omega
   ·by_cases e:i<a+k+1+c.length
    ·simp only[e,FO,show¬i<a+k+1 by omega,show i<a+k+(c.length+1)by omega,EI,d]
     rw[show i-(a+k)=(i-(a+k+1))+1 by omega,TU]
    ·simp only[e,EI,show¬i<a+k+(c.length+1)by omega]
     rw[AP (by omega)];congr 1;omega
def Ur{a:Act}{l:Env}(m:At a l){n:Nat->Option (Nat×Nat)}:∀(e:List (Nat×Operand)) (b r:List Value),Gu l n b e=some r->
  Instr.fill n b.toArray (e.map λx=>(x.1,a.eval x.2))=some r.toArray
 |[],b,r,h=>by simp only[Gu]at h;injection h with h;subst h;rfl
 |(i,x)::e,b,r,h=>by
  simp only[Gu]at h;split at h
  ·rename_i c f v hp q
   split at h
   ·rename_i o
    split at h
    ·rename_i d s
     obtain⟨w,g⟩:=cI _ _ _ _ _ s;injection g with g;have j:v.cells.size=f:=by rw[<-aU];simpa using Nat.eq_of_beq_eq_true o
     have t:(zc v).length=f:=Nat.eq_of_beq_eq_true o;simp only[GY,Instr.fill,hp,m.eval q,j,NM,JZ,TY];have k:¬(c+f>b.length):=by omega
     simp only[QF,k,UN,EI,MV];have p:=zNn c (zc v) 0 b.toArray (by simp;omega)
     have u:v.cells.zipIdx.foldl (λ(b:Array Value) (x:Value×Nat)=>b.setIfInBounds (c+x.2) x.1) b.toArray=d.toArray:=by rw[<-Array.foldl_toList,Array.toList_zipIdx,<-aU];simp only[LH]at p⊢;rw[p,g]
     rw[u];exact Ur m e d r h
    ·cases h
   ·cases h
  ·cases h
def zBN(tt:TT):∀(b:List (Nat×Nat×Bool)),Lc tt b=true->∀f∈b,∃j,xG tt f.1=some j
 |[],_,f,a=>by cases a|g::r,h,f,a=>by
  simp only[Lc]at h;split at h
  ·rename_i j c
   cases a with
   |head=>exact⟨j,c⟩|tail _ a=>exact zBN tt r h f a
  ·cases h
def Us(tt:TT)(f:Field):Nat×Nat:=(f.offset,match xG tt f.type with|some j=>j.size|none=>0)
def zKV(d:gT P j)(w:World):∀(b:List Field),Lc j (b.map mF)=true->(b.mapM (λf=>do pure (f.offset,<-sizeOf f.type)):Sem (List (Nat×Nat))).run P w=.ok (b.map (Us j)) w
 |[],_=>rfl|f::b,h=>by
  obtain⟨a,c⟩:=zBN j _ h (mF f) (by simp)
  have e:Lc j (b.map mF)=true:=by
   simp only[GY,Lc]at h;split at h
   ·exact h
   ·cases h
  simp only[mF]at c;rw[UJ];simp only[EJ,xC d c,EO,FX,zKV d w b e];simp[Us,c]
def zTk(d:gT P j)(v:At Z I){t:Nat}{l:Array (Nat×Operand)}(h:zTp j I t l.toList=some S)(w:World):(Instr.build t (l.map λx=>(x.1,Z.eval x.2))).run P w=.ok S w:=by
 have g:(l.map λx=>(x.1,Z.eval x.2)).toList=l.toList.map λx=>(x.1,Z.eval x.2):=by simp
 unfold zTp at h;split at h
 ·rename_i i p
  obtain⟨D,y,k⟩:=d.desc p;split at h
  ·rename_i z q
   obtain⟨a,rfl,rfl⟩:=TD.of_struct (k.trans q);split at h
   ·rename_i c
    split at h
    ·rename_i A r
     injection h with h;subst h;have s:=Ur v _ _ _ r
     have u:(a.mapM (λf=>do pure (f.offset,<-sizeOf f.type)):Sem (Array (Nat×Nat))).run P w=.ok (a.toList.map (Us j)).toArray w:=by
      have:=zKV d w a.toList c
      have e:(a.mapM (λf=>do pure (f.offset,<-sizeOf f.type)):Sem (Array (Nat×Nat)))=Functor.map List.toArray (a.toList.mapM λf=>do pure (f.offset,<-sizeOf f.type)):=by rw[<-XP]
      rw[e,YZ,this];rfl
     have B:(λi=>(a.toList.map (Us j)).toArray[i]?)=zLg j (a.toList.map mF):=by
      funext n;simp only[zLg,Kw,IJ,List.getElem?_toArray];cases C:a.toList[n]?with
      |none=>rfl|some f=>
       obtain⟨b,o⟩:=zBN j _ c (mF f) (FM.2 ⟨f,MQ C,rfl⟩);simp only[mF]at o;simp[mF,Us,o]
     simp only[Instr.build,EJ,tY d p,EO,CY y,u];rw[B,g,<-aU,s];rfl
    ·cases h
   ·cases h
  ·rename_i m e q
   split at h
   ·rename_i b o
    split at h
    ·rename_i A r
     injection h with h;subst h;have s:=Ur v _ _ _ r;simp only[Instr.build,EJ,tY d p,EO,CY y,TD.of_array (k.trans q),xC d o];rw[g,<-aU,s];rfl
    ·cases h
   ·cases h
  ·cases h
 ·cases h
def zTF(e:gT P j)(a:At Z I){o:Oper}(h:ZM j I o.op=some S)(w:World):(execOp Z.eval o).run P w=.ok (.value S) w:=by
 obtain⟨r,k,g,pos,l,m⟩:=o;cases k<;>simp only[ZM]at h<;>simp only[execOp]
 case build t ps=>simp[zTk e a h w]
 case move x=>rw[a.eval h];rfl
 case assign x=>rw[a.eval h];rfl
 case pick c x y=>
  split at h
  ·rename_i n;simp[a.eval n,asBool,a.eval h]
  ·rename_i n;simp[a.eval n,asBool,a.eval h]
  ·cases h
 case nilCheck x=>
  split at h
  ·rename_i b;injection h with h;subst h;rw[a.eval b];rfl
  ·cases h
 case binOp k t x y yt=>
  split at h
  ·rename_i u q b hy
   have:=zYM (P:=P) e h x y w;rw[a.eval b,a.eval hy];simp only[EJ]at this⊢;rw[this];rfl
  ·cases h
 case unOp k t x=>
  split at h
  ·rename_i u b;simp[a.eval b,yAy h]
  ·cases h
 case convert s d x=>
  split at h
  ·rename_i u b;simp[a.eval b,zVx e h]
  ·cases h
 case makeFunc fn first captured=>
  split at h
  ·rename_i p v z A
   injection h with h;subst h
   have B:first.map Z.eval=p.toArray:=by have:=a.QS z;apply QI;simpa using this
   have C:captured.map Z.eval=v.toArray:=by have:=a.QS A;apply QI;simpa using this
   simp[Instr.makeFunc,B,C]
  ·cases h
 case fieldAddr s x f=>
  split at h
  ·rename_i u b;simp[a.eval b,zKz e h]
  ·cases h
 case field s x f=>
  split at h
  ·rename_i u b;simp[a.eval b,zSu e h]
  ·cases h
 case indexAddr s x ix=>
  split at h
  ·rename_i u q b hy;simp[a.eval b,a.eval hy,zKs e h]
  ·cases h
 case index s x ix=>
  split at h
  ·rename_i u q b hy;simp[a.eval b,a.eval hy,zTr e h]
  ·cases h
 case extract t i=>
  split at h
  ·rename_i p b
   rw[Kw]at h;have:p[i]?=some S:=by simpa using h
   simp[a.eval b,Instr.extract,this]
  ·cases h
 case call c=>
  exact zVt e a h g w
 all_goals cases h
end
def ji(m:Hp)(b o:Nat):Option Value:=match m b with
 |some (.cells c _ _)=>c[o]?|_=>none
def zGu{m b:Hp}(h:Hp.le m b)(c:ji m B i=some S):ji b B i=some S:=by
 unfold ji at*;cases a:m B with
 |none=>simp[a]at c|some x=>rw[h B x a];simpa[a]using c
def Ut(w:World)(b o:Nat):ji (hp w) b o=w.cell? ⟨b,o,none⟩:=by
 unfold ji hp World.cell?;cases w.heap[b]?with
 |none=>rfl|some x=>cases x<;>rfl
def gN(b o:Nat)(cs:List Value):Ro where
 p m:=∀i u,cs[i]?=some u->ji m b (o+i)=some u
 mono _ _ h hp i u hu:=zGu h (hp i u hu)
def yAO(T:Nat)(a:List Value)(o:Obj):Prop:=∃fr:Nat×Nat,o=.cells a.toArray T fr/\∀i,i<a.length->¬(fr.1<=i/\i<fr.2)
def Box(g T:Nat)(cs:List Value):ah where
 gs:=[g]
 p m:=∃o,m g=some o/\yAO T cs o
 loc _ _ h:=λ⟨o,ho,hb⟩=>⟨o,(h g (by simp)).symm.trans ho,hb⟩
structure JL(α:Type) where
 n:Nat
 rel:Hp->α->List Value->Prop
 len:∀m x cs,rel m x cs->cs.length=n
 one:∀m x cs,rel m x cs->∀u∈cs,u.oneCell'=true
 mono:∀m m' x cs,Hp.le m m'->rel m x cs->rel m' x cs
def JL.flat(n:Nat)(enc:H->List Value)(hlen:∀x,(enc x).length=n)(hone:∀x,∀u∈enc x,u.oneCell'=true):JL H where
 n:=n
 rel _ x cs:=cs=enc x
 len _ x _ h:=h▸hlen x
 one _ x _ h:=h▸hone x
 mono _ _ _ _ _ h:=h
def Di(k:IntKind)(x:Int):Prop:=k.min<=x/\x<=k.max
def Be(k:IntKind)(x:Int):List Value:=[.int k x]
def yAZ(x:Bool):List Value:=[.bool x]
def yCi(x:ByteArray):List Value:=[.string x]
section
def NG(E:JL H)(A:Option Addr)(c:Nat)(b:List H)(m:Hp):Prop:=
 b.length<=c/\c<=maxLen/\(A=none->b=[])/\
  ∀a,A=some a->∀j x,b[j]?=some x->a.spot=none/\∃d,E.rel m x d/\∀i u,d[i]?=some u->ji m a.block (a.off+j*E.n+i)=some u
def Sl(E:JL H)(A:Option Addr)(c:Nat)(xs:List H):Ro where
 p:=NG E A c xs
 mono m m' h hp:=⟨hp.1,hp.2.1,hp.2.2.1,λad ha j x hx=>by obtain⟨h0,cs,h1,h2⟩:=hp.2.2.2 ad ha j x hx;exact⟨h0,cs,E.mono _ _ _ _ h h1,λi u hu=>zGu h (h2 i u hu)⟩⟩
def CO(a:List H)(i:Int):Option H:=if 0<=i then a[i.toNat]?else none
def rC(h:CO W y=some q):0<=y/\y<W.length/\W[y.toNat]?=some q:=by
 unfold CO at h;split at h
 ·rename_i a
  have:=(FT.1 h).1;exact⟨a,by omega,h⟩
 ·cases h
def Rel(E:JL H)(x:H)(a:List Value):Ro:=⟨λm=>E.rel m x a,λm b h=>E.mono m b x a h⟩
end
variable{M:Array Edge}{U:List Oper}{K:List Oper->Act->World->Prop}{e e6:List Value}{b7:Op}{c0:Oper}{x:Operand}{N:String}{r:TI}
section
variable[T:GZ P]
def wK(h:c0.guard=none)(y:Nat->Option Bool):Region.wanted c0 y=true:=by simp[Region.wanted,h]
def St.p[W:Walk P L K](e:Nat.blt i B=true)(f:ZM T.tt I b7=some S)(k:St D B ((i,S)::I) F (K U)):St D B I F (K (⟨some i,b7,J,N,M,none⟩::U)):=
 λa w c b d g h=>W.val _ _ _ _ S (wK O _) (λj _=>zTF T.ok d (o:=⟨some i,b7,J,N,M,none⟩) f j)
  (k _ w (by simp[Act.put,c]) b (d.put (c▸EU e)) g h)
def Fg(ops:Array Oper)(j:Nat):Option Nat:=(ops[j]?).bind (·.dst)
def D6(c:At Z I)(a:Fg L B=some i)(d:get I i=some S):yielded L Z.tmps B=match S with|.bool b=>some b|_=>none:=by have:=c i S d;unfold Fg at a;simp only[yielded,a,CS,this];cases S<;>rfl
def St.CV[W:Walk P L K]{dj:Nat}(d:Fg L J=some dj)(e:get I dj=some (.bool b8))(k:St D B I F (K (⟨d6,b7,i,N,M,none⟩::U))):St D B I F (K (⟨d6,b7,i,N,M,some (J,b8)⟩::U)):=
 λa w f b c g h=>W.bare _ ⟨d6,b7,i,N,M,none⟩ _ _ _ (by simp[Region.wanted,D6 c d e]) (wK O _) O O O (k a w f b c g h)
def Fh(v:Value)(b:Bool):Bool:=match v with|.bool c=>c !=b|_=>true
theorem St.ZC[W:Walk P L K]{dj:Nat}(e:Nat.blt i B=true)(f:Fg L V=some dj)(g:get I dj=some S)(l:Fh S b8=true)(k:St D B ((i,undef)::I) F (K U)):St D B I F (K (⟨some i,b7,J,N,M,some (V,b8)⟩::U)):=
 λa w c b d h j=>W.pass _ _ _ _ (by simp only[Region.wanted,D6 d f g];cases S<;>simp_all[Fh])
  (k _ w (by simp[Act.put,c]) b (d.put (c▸EU e)) h j)
def St.VG{dj:Nat}(c:Bool)(e:get I dj=some (.bool c))(j:c=true->St D B ((dj,.bool true)::I) F (K (⟨d6,b7,i,N,M,some (J,b8)⟩::U)))(k:c=false->St D B ((dj,.bool false)::I) F (K (⟨d6,b7,i,N,M,some (J,b8)⟩::U))):St D B I F (K (⟨d6,b7,i,N,M,some (J,b8)⟩::U)):=
 λa w f b d g h=>by
  cases c
  ·exact k O a w f b (At.cons (d dj _ e) d) g h
  ·exact j O a w f b (At.cons (d dj _ e) d) g h
def jH(w:World)(o:Obj):hp (w.alloc o) w.heap.size=some o:=heap_alloc_new w o
def zWl(T:Nat)(a:List Value):yAO T a (.cells a.toArray T):=⟨(0,0),O,λi _ h=>by omega⟩
def Sat.alloc{w:World}(h:Sat F w)(T:Nat)(a:List Value):Sat (.res (Box w.heap.size T a)::F) (w.alloc (.cells a.toArray T)):=
 h.KA (Ext.alloc w _) _ (by simp[Box]) (λk b=>by simp[Box]at b;subst b;simp) ⟨_,jH w _,zWl T a⟩
def St.alloc{t:Nat}{b:TI}(e:Nat.blt i B=true)(f:xG T.tt t=some b)(k:∀g,St D B ((i,.pointer (some ⟨g,0,none⟩))::I) (.res (Box g t (zc b.zero))::F) (wpList P L Q U)):St D B I F (wpList P L Q (⟨some i,.alloc t,J,N,M,none⟩::U)):=
 λa w d c h j l=>GN O λK m=>by
  have hz:=tY T.ok f w;unfold Oper.wp
  have n:(execOp a.eval ⟨some i,.alloc t,J,N,M,none⟩).run P w=.ok (.value (.pointer (some ⟨w.heap.size,0,none⟩))) (w.alloc (.cells (zc b.zero).toArray t)):=by simp[execOp,Instr.alloc,hz,newVar,newRow,aU]
  rw[n];exact m _ _ (k _ _ _ (by simp[Act.put,d]) c (h.put (d▸EU e)) (j.alloc t _) (l.trans (Ext.alloc w _).toSame))
def St.box{t:Nat}{x:Operand}{v:Value}(e:Nat.blt i B=true)(f:ev I x=some v)(k:∀g,St D B ((i,.pointer (some ⟨g,0,none⟩))::I) (.res (Box g t (zc v))::F) (wpList P L Q U)):St D B I F (wpList P L Q (⟨some i,.box t x,J,N,M,none⟩::U)):=
 λa w c b d h j=>GN O λK l=>by
  unfold Oper.wp
  have m:(execOp a.eval ⟨some i,.box t x,J,N,M,none⟩).run P w=.ok (.value (.pointer (some ⟨w.heap.size,0,none⟩))) (w.alloc (.cells (zc v).toArray t)):=by simp[execOp,Instr.box,d.eval f,newVar,newRow,aU]
  rw[m];exact l _ _ (k _ _ _ (by simp[Act.put,c]) b (d.put (c▸EU e)) (h.alloc t _) (j.trans (Ext.alloc w _).toSame))
def zBC(f:gT P j){t:Nat}(h:kA j t e B=some S){w:World}{b o:Nat}(g:∀i u,e[i]?=some u->w.cell? ⟨b,o+i,none⟩=some u):(loadVar t ⟨b,o+B,none⟩).run P w=.ok S w:=by
 unfold kA at h;split at h
 ·rename_i i k
  unfold loadVar;rw[EJ,zHp f k];split at h
  ·rename_i d
   obtain⟨l,h⟩:=zLh _ _ _ _ h;injection h with h;subst h;simp only[EO,d,FO,EJ,xC f k];have n:((e.drop B).take i.size).length=i.size:=by rw[DV];omega
   have:=run_loadCells_list (P:=P) w ⟨b,o+B,none⟩ ((e.drop B).take i.size) (λa u c=>by
    rw[LQ]at c;split at c
    ·rw[MW]at c
     have m:=g _ _ c;unfold Addr.add;split
     ·rename_i p;subst p;simpa[LG]using m
     ·simpa[LG]using m
    ·cases c)
   rw[n]at this;simp[this]
  ·rename_i d
   rw[Kw]at h;simp only[EO,d,MV,EI,run_load,g _ _ h]
 ·cases h
def lD(d:gT P j){t:Nat}{x:Operand}{a:Act}{b o off:Nat}(f:a.eval x=.pointer (some ⟨b,o+off,none⟩))(h:kA j t e off=some S){w:World}(k:∀i u,e[i]?=some u->w.cell? ⟨b,o+i,none⟩=some u)(c:Option Nat)(g:Option (Nat×Bool)):(execOp a.eval ⟨c,.load t x,B,N,M,g⟩).run P w=.ok (.value S) w:=by simp[execOp,Instr.loadAt,f,Instr.sureAddr,zBC d h k]
def St.load[W:Walk P L K]{t:Nat}{x:Operand}{b p:Nat}(o:Nat)(d:Nat){f:List Value}{v:Value}(l:Nat.blt i B=true)(m:ev I x=some (.pointer (some ⟨b,p,none⟩)))(n:As.ro (gN b o f)∈F)(hp:p=o+d)(q:kA T.tt t f d=some v)(k:St D B ((i,v)::I) F (K U)):St D B I F (K (⟨some i,.load t x,J,N,M,none⟩::U)):=
 λa w g e h j r=>W.val _ _ _ _ v (wK O _) (λz s=>lD T.ok (by rw[h.eval m,hp]) q (λc u y=>by rw[<-Ut];exact(j.ext s).TK n c u y) _ _)
  (k _ w (by simp[Act.put,g]) e (h.put (g▸EU l)) j r)
def Box.cell{g t:Nat}{a:List Value}{w:World}(h:(Box g t a).p (hp w)){i:Nat}{u:Value}(c:a[i]?=some u):w.cell? ⟨g,i,none⟩=some u:=by obtain⟨o,d,fr,rfl,_⟩:=h;have b:w.heap[g]?=some (.cells a.toArray t fr):=d;simp[World.cell?,b,c]
def St.NS[W:Walk P L K]{t:Nat}(c:Nat)(l:Nat.blt i B=true)(m:ev I A=some (.pointer (some ⟨V,o,none⟩)))(n:As.res (Box V f e)∈F)(hp:o=c)(p:kA T.tt t e c=some S)(k:St D B ((i,S)::I) F (K U)):St D B I F (K (⟨some i,.load t A,J,N,M,none⟩::U)):=
 λa w g d h j q=>W.val _ _ _ _ S (wK O _) (λv r=>lD (o:=0) (off:=c) T.ok (by rw[h.eval m,hp,KE]) p (λb u s=>by rw[KE];exact Box.cell ((j.ext r).res n) s) _ _)
  (k _ w (by simp[Act.put,g]) d (h.put (g▸EU l)) j q)
theorem dU{T g:Nat}:∀(a:List Value) (b:List Value) (n j:Nat) (w:World),(Box g T b).p (hp w)->n+j+a.length<=b.length->(∀u∈a,u.oneCell'=true)->
  ∃k,(storeCells ⟨g,n,none⟩ a j).run P w=.ok () k/\oM [g] w k/\(Box g T (b.take (n+j)++a++b.drop (n+j+a.length))).p (hp k)
 |[],b,n,j,w,h,_,_=>⟨w,by simp[storeCells],oM.VE (Ext.refl w),by simpa using h⟩|v::a,b,n,j,w,h,t,x=>by
  obtain⟨o,A,fr,rfl,l⟩:=h;have c:w.heap[g]?=some (.cells b.toArray T fr):=A;have d:n+j<b.length:=by simp at t;omega
  have m:(⟨g,n,none⟩:Addr).add j=⟨g,n+j,none⟩:=by unfold Addr.add;split<;>simp_all
  have f:w.cell? ⟨g,n+j,none⟩=some b[n+j]:=by simp[World.cell?,c,d]
  have r:w.frozen? ⟨g,n+j,none⟩=false:=by have:=l (n+j) d;simp only[World.frozen?,c];simpa using this
  have s:(store ⟨g,n+j,none⟩ v).run P w=.ok () (w.setCell ⟨g,n+j,none⟩ v):=by rw[run_store P w _ v .plain (x v (by simp)),f];simp[r]
  have q:(Box g T (b.set (n+j) v)).p (hp (w.setCell ⟨g,n+j,none⟩ v)):=by refine⟨.cells (b.set (n+j) v).toArray T fr,?_,fr,O,λi B=>l i (by simpa using B)⟩;simp[hp,World.setCell,XA,c]
  obtain⟨k,C,D,E⟩:=dU a (b.set (n+j) v) n (j+1) (w.setCell ⟨g,n+j,none⟩ v) q (by simp at t⊢;omega) (λu F=>x u (by simp[F]));refine⟨k,by simp[storeCells,m,s,C],(oM.setCell w ⟨g,n+j,none⟩ v).trans D,?_⟩
  have e:(b.set (n+j) v).take (n+(j+1))++a++(b.set (n+j) v).drop (n+(j+1)+a.length)=b.take (n+j)++v::a++b.drop (n+j+(v::a).length):=by
   apply FW;intro i;simp only[EP];rw[NU,NU,NU,NU];simp only[ER,DV,SC,EP,LQ,MW,KR];have G:min (n+(j+1)) b.length=n+j+1:=by omega
   have H:min (n+j) b.length=n+j:=by omega
   rw[G,H];by_cases y:i<n+j
   ·simp only[show i<n+j+1+a.length by omega,show i<n+j+1 by omega,show i<n+(j+1)by omega,show i<n+j+(a.length+1)by omega,y,FO]
    rw[AP (by omega)]
   ·by_cases I:i=n+j
    ·subst I
     simp only[show n+j<n+j+1+a.length by omega,show n+j<n+j+1 by omega,show n+j<n+(j+1)by omega,show n+j<n+j+(a.length+1)by omega,Nat.lt_irrefl,FO,EI,KI];simp[d]
    ·by_cases z:i<n+j+1+a.length
     ·simp only[z,FO,show¬i<n+j+1 by omega,show i<n+j+(a.length+1)by omega,EI,y]
      rw[show i-(n+j)=(i-(n+j+1))+1 by omega,TU]
     ·simp only[z,EI,show¬i<n+j+(a.length+1)by omega]
      rw[AP (by omega)];congr 1;omega
  rw[<-e];exact E
def zMF(f:gT P j){t:Nat}(g:xG j t=some m)(b:Nat.beq (zc S).length m.size=true)(k:((zc S).all λu=>u.oneCell')=true)(l:sN e J (zc S) some=some e6)(h:(Box B i e).p (hp D)):∃a,(storeVar t ⟨B,J,none⟩ S).run P D=.ok () a/\oM [B] D a/\(Box B i e6).p (hp a):=by
 obtain⟨s,c⟩:=cI _ _ _ _ _ l;injection c with c;subst c;obtain⟨a,n,o,q⟩:=dU (P:=P) (zc S) e J 0 D h (by omega) (λu r=>by simpa using List.all_eq_true.1 k u r);refine⟨a,?_,o,by simpa using q⟩;have hz:S.cells.size=m.size:=by rw[<-aU];simpa using Nat.eq_of_beq_eq_true b
 have d:S.cells.toList=zc S:=by rw[<-aU]
 simp[storeVar,xC f g,hz,d,n]
def St.store{t:Nat}{x y:Operand}{g q p:Nat}(e:Nat){b:TI}{r f:List Value}{v:Value}{G:List As}(z:ev I x=some (.pointer (some ⟨g,p,none⟩)))(hy:ev I y=some v)(hp:p=e)(A:xG T.tt t=some b)(h:Nat.beq (zc v).length b.size=true)(C:((zc v).all λu=>u.oneCell')=true)(E:Del F (.res (Box g q r)) G)(H:sN r e (zc v) some=some f)(k:St D B I (.res (Box g q f)::G) (wpList P L Q U)):St D B I F (wpList P L Q (⟨none,.store t x y,i,N,M,none⟩::U)):=
 λa w l m n J R=>GN O λK S=>by
  have c:=J.front E;obtain⟨V,W,d,X⟩:=zMF (P:=P) T.ok A h C H (c.all _ (DZ ..)).2.1;unfold Oper.wp
  have o:(execOp a.eval ⟨none,.store t x y,i,N,M,none⟩).run P w=.ok .skip V:=by subst hp;simp[execOp,Instr.storeAt,n.eval z,n.eval hy,Instr.sureAddr,W]
  rw[o];refine S _ _ (k _ _ l m n.PV (c.exchange d (by simp[Box]) (λj s=>?_) X) (R.trans d.toSame));simp only[Box,FI]at s;subst s;refine⟨GV (c.lt (by simp[yU,As.gs,Box])) d.size,.inl (by simp[Box])⟩
def zPw{E:JL H}(d:gT P j){t:Nat}(f:xG j t=some m)(a:m.desc=.slice i)(h:xG j i=some r)(k:r.size=E.n){e:Addr}{l:IntKind}(o:Z.eval A=.slice (some e) J V)(p:Z.eval x=.int l y)(q:0<=y)(s:y<J)(w:World)(b:Option Nat)(g:Option (Nat×Bool)):(execOp Z.eval ⟨b,.indexAddr t A x,B,N,M,g⟩).run P w=.ok (.value (.pointer (some (e.add (y.toNat*E.n))))) w:=by obtain⟨v,u,c⟩:=d.desc f;simp[execOp,Instr.indexAt,o,p,asIntOf,CY u,TD.of_slice (c.trans a),xC d h,k,q,s]
theorem St.idx[g:Walk P L K](E:JL H){t:Nat}{X:IntKind}(Z:Nat.blt i B=true)(hx:ev I A=some (.slice Y f o))(hq:ev I x=some (.int X y))(hm:As.ro (Sl E Y o W)∈F)(j:f=W.length)(hy:CO W y=some q)(hi:xG T.tt t=some m)(d:m.desc=.slice V)(hj:xG T.tt V=some r)(hn:r.size=E.n)(k:∀b l c,St D B ((i,.pointer (some ⟨b,l,none⟩))::I) (.ro (gN b l c)::.ro (Rel E q c)::F) (K U)):St D B I F (K (⟨some i,.indexAddr t A x,J,N,M,none⟩::U)):=
 λa w R s v S hw=>by
  obtain⟨h0,h1,z⟩:=rC hy;obtain⟨g1,g2,g3,g4⟩:=S.ro hm;cases Y with
  |none=>rw[g3 O]at z;simp at z|some e=>
   obtain⟨hsp,c,C,G⟩:=g4 e rfl _ _ z
   have p:e.add (y.toNat*E.n)=⟨e.block,e.off+y.toNat*E.n,none⟩:=by
    unfold Addr.add;split
    ·rename_i h;cases e;simp_all
    ·rfl
   refine g.val _ _ _ _ _ (wK O _) (λw' he=>zPw (E:=E) T.ok hi d hj hn (v.eval hx) (v.eval hq) h0 (j▸h1) w' _ _) ?_;rw[p]
   have Q:Sat (.ro (gN e.block (e.off+y.toNat*E.n) c)::.ro (Rel E q c)::F) w:=
    (S.IW (Rel E q c) C).IW (gN _ _ c) (λm u hu=>by simpa[yU,As.gs]using G m u hu)
   exact k _ _ c _ w (by simp[Act.put,R]) s (v.put (R▸EU Z)) Q hw
def St.aBM[g:Walk P L K]{enc:H->List Value}{hlen':∀A,(enc A).length=V}{hone:∀A,∀u∈enc A,u.oneCell'=true}{t:Nat}{n:IntKind}(p:Nat.blt i B=true)(s:ev I A=some (.slice Y o a7))(v:ev I x=some (.int n y))(C:As.ro (Sl (JL.flat V enc hlen' hone) Y a7 W)∈F)(d:o=W.length)(hy:CO W y=some q)(E:xG T.tt t=some m)(c:m.desc=.slice f)(G:xG T.tt f=some r)(Q:r.size=V)(k:∀b h,St D B ((i,.pointer (some ⟨b,h,none⟩))::I) (.ro (gN b h (enc q))::F) (K U)):St D B I F (K (⟨some i,.indexAddr t A x,J,N,M,none⟩::U)):=
 St.idx (JL.flat V enc hlen' hone) p s v C d hy E c G Q λb h l a w R e S j X=>by
  have:l=enc q:=j.ro (r:=Rel (JL.flat V enc hlen' hone) q l) (by simp);subst this;refine k b h a w R e S (j.NZ ?_ ?_) X
  ·simpa[yU,As.gs]using j.nodup
  ·intro z hz
   simp only[EC]at hz⊢;rcases hz with hz|hz
   ·exact .inl hz
   ·exact .inr (.inr hz)
end
def Out(w:World)(R:List As)(Post:Value->List As->Prop)(e:Ending)(a:World):Prop:=
 ∃v b,e=.returned v/\Post v b/\Sat (b++R) a/\Same w a
def CW(P:Program)(f:FuncId)(args:List Value)(F:List As)(Post:Value->List As->Prop):Prop:=
 ∀(w:World) (R:List As),Sat (F++R) w->Calls P f args.toArray w (Out w R Post)
def Val(v:Value):Value->List As->Prop:=λa b=>a=v/\b=[]
def ML:Nat->List Value->Env
 |_,[]=>[]|k,v::r=>(k,v)::ML (k+1) r
def At.ML(tmps:Array Value)(a:List Deferred):∀(b:List Value) (k:Nat),(∀i v,b[i]?=some v->tmps[k+i]?=some v)->At {tmps:=tmps,defers:=a} (ML k b)
 |[],_,_=>At.nil _|v::r,k,h=>At.cons (by simpa using h 0 v O) (At.ML tmps a r (k+1) λi u c=>by
  have:=h (i+1) u (by simpa using c)
  rwa [show k+(i+1)=k+1+i by omega]at this)
def CW.intro{P:Program}{f:FuncId}{fn:Func}{c:Code}{args:List Value}{F:List As}{Post:Value->List As->Prop}{a:Nat}(d:P.funcs[f]?=some fn)(e:fn.body=some c)(g:fn.ntmps=a)(j:Nat.ble args.length a=true)(h:∀w R,St w a (ML 0 args) (F++R) (c.wp P (bodyPost P fn (Out w R Post)))):CW P f args F Post:=by
 intro w R k;have l:=EU j;refine calls_of_wp d e (h w R _ w ?_ O ?_ k (Same.refl w))
 ·simp[g];omega
 ·refine At.ML _ _ args 0 λi v b=>?_
  rw[KE];have m:=(FT.1 b).1;rw[qf (by simpa using m)];simpa using b
variable{w:Type}{c5:FuncId}{R:List As}{c8:List Operand}
section
variable[T:GZ P]
def zBW{fn:Func}{o:Ending->World->Prop}(v:Value)(a:(results fn Z.tmps).run P D=.ok v D)(b:Z.defers=[])(c:o (.returned v) D):bodyPost P fn o .ret Z D/\bodyPost P fn o .normal Z D:=⟨⟨b,v,a,c⟩,⟨b,v,a,c⟩⟩
def Qk(a:Env):List ResultVar->(List Value->Option Value)->Option Value
 |[],k=>k []|.tmp t::r,k=>match get a t with
  |some v=>Qk a r λb=>k (v::b)|none=>none
 |.cell _ _::_,_=>none
def xw:List Value->Option Value
 |[v]=>some v|vs=>some (.tuple vs.toArray)
def Lh(tmps:Array Value):ResultVar->Sem Value
 |.tmp t=>pure (tmps.getD t undef)|.cell x t=>do loadVar t (<-asAddr (tmps.getD x undef))
def zLc(fn:Func)(tmps:Array Value):results fn tmps=(do let vs<-fn.results.mapM (Lh tmps);pure (if h:vs.size=1 then vs[0]else .tuple vs)):=by
 unfold results
 have:(λx:ResultVar=>(match x with|.tmp t=>pure (tmps.getD t undef)|.cell a t=>do loadVar t (<-asAddr (tmps.getD a undef)):Sem Value))=Lh tmps:=by funext x;cases x<;>rfl
 rw[<-this];rfl
def zPH{c:Env}{a:Act}{w:World}(d:At a c):∀(e:List ResultVar) (k:List Value->Option Value) (v:Value),Qk c e k=some v->
  ∃b,k b=some v/\(e.mapM (Lh a.tmps):Sem (List Value)).run P w=.ok b w
 |[],k,v,h=>⟨[],h,O⟩|.tmp t::r,k,v,h=>by
  simp only[Qk]at h;split at h
  ·rename_i u f
   obtain⟨b,g,i⟩:=zPH (w:=w) d r _ v h;have j:a.tmps.getD t undef=u:=by simp[d t u f]
   refine⟨u::b,g,?_⟩;rw[UJ];simp only[EJ,Lh,j,FX,EO,i]
  ·cases h
 |.cell _ _::_,_,_,h=>by simp[Qk]at h
def zJi{fn:Func}{rs:List ResultVar}(c:At Z I)(b:fn.results=rs.toArray)(h:Qk I rs xw=some S):(results fn Z.tmps).run P D=.ok S D:=by
 obtain⟨d,a,e⟩:=zPH (P:=P) (w:=D) c rs xw S h;rw[zLc,b,XP,EJ,YZ,e];simp only[EO];cases d with
 |nil=>simp[xw]at a;subst a;simp|cons x r=>
  cases r with
  |nil=>simp[xw]at a;subst a;simp|cons y r=>simp[xw]at a;subst a;simp
def St.aBO{Post:Value->List As->Prop}{fn:Func}{rs:List ResultVar}(a:fn.results=rs.toArray)(d:Qk I rs xw=some S)(b:List As)(hp:Post S b)(e:∀w,Sat F w->Sat (b++G) w):St D B I F (bodyPost P fn (Out D G Post) .normal):=
 λ_ w _ c f g h=>(zBW S (zJi f a d) c ⟨S,b,O,hp,e w g,h⟩).2
def Bf(P:Program)[T:GZ P](f:FuncId):Prop:=T.en f=true
def Uu(c:Bf P c5)(d:Z.eval A=.func (.func c5) #[] #[])(a:c8.map Z.eval=e)(w:World)(b:Option Nat)(g:Option (Nat×Bool)):(execOp Z.eval ⟨b,.call {callee:=.value A,args:=c8.toArray,argTypes:=a0},B,N,M,g⟩).run P w=.ok (.enter c5 e.toArray) w:=by
 obtain⟨fn,f,h,i⟩:=T.he _ c;subst a
 have j:∀args:Array Value,(callFunc c5 args).run P w=.ok (.enter c5 args) w:=λargs=>by unfold callFunc;rw[EJ,UU];simp only[EO,f,h,i,MV,EI,FX]
 simp[execOp,resolve,d,Deferred.ofValue,invoke,j]
def eD{F:List As}(h:∀x∈F,x.gs=[]):yU F=[]:=by
 induction F with
 |nil=>rfl|cons x r a=>simp[yU,h x (by simp),a λy hy=>h y (by simp[hy])]
def jD:List As->Bool
 |[]=>true|.ro _::r=>jD r|.res _::_=>false
def dM:∀{F:List As},jD F=true->∀x∈F,∃r,x=.ro r
 |[],_,x,a=>by cases a|.ro r::F,h,x,a=>by
  cases a with
  |head=>exact⟨r,O⟩|tail _ a=>exact dM (F:=F) h x a
 |.res _::_,h,_,_=>by simp[jD]at h
def gD:List As->List As->Prop
 |[],_=>True|x::r,F=>x∈F/\gD r F
def gD.mem:∀{G F:List As},gD G F->∀x∈G,x∈F
 |[],_,_,x,a=>by cases a|y::r,F,h,x,a=>by
  cases a with
  |head=>exact h.1|tail _ a=>exact gD.mem h.2 x a
def yc(w:World):Ro where
 p m:=∀k,k<w.heap.size->m k=w.heap[k]?
 mono m m' h hp k hk:=by have h1:=hp k hk;rw[WS hk]at h1⊢;exact h k _ h1
def CW.quiet{args:List Value}(h:CW P c5 args R (Val S))(b:jD R=true)(c:gD R F)(i:Sat F D):Calls P c5 args.toArray D λe d=>e=.returned S/\Ext D d:=by
 have f:=dM b
 have g:yU (R++[.ro (yc D)])=[]:=eD λx a=>by
  rcases DW.1 a with a|a
  ·obtain⟨r,rfl⟩:=f x a;rfl
  ·simp at a;subst a;rfl
 have j:Sat (R++[.ro (yc D)]) D:=by
  refine⟨by rw[g];simp,λx a=>?_⟩;rw[g];rcases DW.1 a with a|a
  ·obtain⟨r,rfl⟩:=f x a
   refine r.mono _ _ ?_ (i.ro (c.mem _ a));exact Um D (by simp)
  ·simp at a
   subst a;intro k _;simp[KO]
 refine(h D [.ro (yc D)] j).mono λe d ⟨t,G,l,⟨m,n⟩,o,p⟩=>?_
 subst m;subst n;refine⟨l,p,λk q=>?_⟩;have s:=o.TK (r:=yc D) (by simp) k q;exact s
def St.Dj[W:Walk P L K]{args:List Value}(h:CW P c5 args G (Val S))(m:Bf P c5)(n:Nat.blt i B=true)(o:ev I A=some (.func (.func c5) #[] #[]))(c:evs I c8=some args)(d:jD G=true)(e:gD G F)(k:St D B ((i,S)::I) F (K U)):St D B I F (K (⟨some i,.call {callee:=.value A,args:=c8.toArray,argTypes:=a0},J,N,M,none⟩::U)):=
 λa w j f g l p=>W.call _ _ _ _ c5 args.toArray S (wK O _) (λq _=>Uu m (g.eval o) (g.QS c) q _ _)
  (λ_ b=>h.quiet d e (l.ext b))
  (λ_ b=>k _ _ (by simp[Act.put,j]) f (g.put (j▸EU n)) (l.ext b) (p.trans b.toSame))
section
variable{Post:Value->List As->Prop}
def St.call{f:FuncId}{args:List Value}{b:List As}{x:Operand}{j:List Operand}{m:Array Nat}(h:CW P f args b Post)(n:Bf P f)(o:Nat.blt i B=true)(p:ev I x=some (.func (.func f) #[] #[]))(c:evs I j=some args)(q:∀w,Sat F w->Sat (b++R) w)(k:∀v G,Post v G->St D B ((i,v)::I) (G++R) (wpList P L Q U)):St D B I F (wpList P L Q (⟨some i,.call {callee:=.value x,args:=j.toArray,argTypes:=m},J,N,M,none⟩::U)):=
 λa w l d g r s=>GN O λK t=>by
  unfold Oper.wp;rw[Uu n (g.eval p) (g.QS c)];show Calls P f args.toArray w _;refine(h w R (q w r)).mono λe C ⟨v,G,u,y,z,A⟩=>?_
  subst u;exact t _ _ (k v G y _ _ (by simp[Act.put,l]) d (g.put (l▸EU o)) z (s.trans A))
end
def Sat.dup{G:List As}(b:jD G=true)(c:gD G F)(h:Sat F D):Sat (G++F) D:=by
 have d:=dM b;refine h.NZ ?_ λx a=>?_
 ·rw[pN,eD (F:=G) λx a=>by obtain⟨r,rfl⟩:=d x a;rfl]
  simpa using h.nodup
 ·rcases DW.1 a with a|a
  ·exact c.mem x a
  ·exact a
inductive wZ(σ τ:Type) where
 |next (s:σ)
 |done (t:τ)
def WA{a b:Type}(m:a->Option (wZ a b)):Nat->a->Option b
 |0,_=>none|n+1,s=>match m s with
  |some (.next c)=>WA m n c|some (.done t)=>some t|none=>none
def zPK{c e:Type}{m:c->Option (wZ c e)}:∀{n k:Nat} {s:c} {t u:e},WA m n s=some t->WA m k s=some u->t=u
 |0,_,_,_,_,h,_=>by simp[WA]at h|_+1,0,_,_,_,_,h=>by simp[WA]at h|n+1,k+1,s,t,u,a,b=>by
  simp only[WA]at a b;split at a
  ·rename_i f d;rw[d]at b;exact zPK a b
  ·rename_i g d;rw[d]at b;injection a with a;injection b with b;rw[<-a,<-b]
  ·cases a
class AX where
 lp:∀{σ τ:Type},(σ->Option (wZ σ τ))->σ->Option τ
 ok:∀{σ τ:Type} {m:σ->Option (wZ σ τ)} {s:σ} {t:τ},lp m s=some t->∃n,WA m n s=some t
open Classical in
def zWV(m:H->Option (wZ H w))(s:H):Option w:=
 if h:∃t n,WA m n s=some t then some (Classical.choose h)else none
def zKE{a c:Type}{m:a->Option (wZ a c)}{s:a}{t:c}:zWV m s=some t↔∃n,WA m n s=some t:=by
 unfold zWV;split
 ·rename_i h
  have:=XB h;obtain⟨n,d⟩:=this;constructor
  ·intro e;injection e with e;exact⟨n,e▸d⟩
  ·intro⟨k,b⟩;rw[zPK d b]
 ·rename_i h
  constructor
  ·intro e;cases e
  ·intro⟨k,b⟩;exact absurd ⟨t,k,b⟩ h
noncomputable instance aFb:AX:=⟨zWV,λh=>zKE.1 h⟩
abbrev yAY:AX:=⟨λm s=>WA m 100000 s,λh=>⟨_,h⟩⟩
def zZ[I:AX]{τ:Type}(m:H->Option (wZ H τ))(s:H):Option τ:=I.lp m s
variable{d9:H->Option (wZ H w)}
def zXG[I:AX]{t:w}(h:zZ d9 q=some t):∃n,WA d9 n q=some t:=I.ok h
def cM{t:w}:zZ d9 q=some t↔∃n,WA d9 n q=some t:=zKE
def Ql{d:Type}(g:Nat)(w0:World)(m:H->Option (wZ H w))(s:H)(e:H->d->Env)(h:H->d->List As)(I:H->d->Prop):Act->World->Prop:=λa b=>
 ∃c f,m s=some (.next c)/\I c f/\a.tmps.size=g/\a.defers=[]/\At a (e c f)/\Sat (h c f) b/\Same w0 b
def St.again{h:Env}{d:Type}{b:H->d->Env}{i:H->d->List As}{I:H->d->Prop}(c:H)(e:d)(j:d9 q=some (.next c))(k:I c e)(f:iq (b c e) h)(l:∀a,Sat F a->Sat (i c e) a):St D B h F (Ql B D d9 q b i I):=
 λ_ a m g n o p=>⟨c,e,j,k,m,g,n.sub f,l a o,p⟩
def D7{J:Nat->Prop}(h:∃k,J k):∃k,J k/\∀j,J j->k<=j:=by
 obtain⟨k,d⟩:=h;induction k using Nat.strongRecOn with
 |_ k e=>
  by_cases c:∃j,j<k/\J j
  ·obtain⟨j,f,a⟩:=c
   exact e j f a
  ·exact⟨k,d,λj a=>XV λb=>c ⟨j,b,a⟩⟩
def St.loop[AX]{l C ε:Type}{m:l->Option (wZ l C)}{o:l}{d:C}{c:Code}(M:zZ m o=some d)(f:l->ε->Env)(q:l->ε->List As)(b:l->ε->Prop)(r:ε)(N:b o r)(t:iq (f o r) I)(R:∀w,Sat F w->Sat (q o r) w)(round:∀s e,b s e->(∃n,WA m (n+1) s=some d)->St D B (f s e) (q s e) (c.wp P (Exit.then (Ql B D m s f q b) Q))):St D B I F ((Code.loop c).wp P Q):=by
 obtain⟨n,E⟩:=zXG M
 have j:∀{n s},WA m n s=some d->∃k,n=k+1:=λ{n s} h=>by
  cases n with
  |zero=>simp[WA]at h|succ k=>exact⟨k,O⟩
 intro a w S u T U V
 let J:Act->World->Nat->Prop:=λa w k=>∃s e,b s e/\WA m (k+1) s=some d/\a.tmps.size=B/\a.defers=[]/\At a (f s e)/\Sat (q s e) w/\Same D w
 refine wp_loop (λa w=>∃k,J a w k) (λa w=>open Classical in if h:∃k,J a w k then Classical.choose (D7 h)else 0) ?_ ?_
 ·obtain⟨k,rfl⟩:=j E
  exact⟨k,o,r,N,E,S,u,T.sub t,R w U,V⟩
 ·intro a w v
  classical
  have G:=(XB (D7 v)).1;generalize y:Classical.choose (D7 v)=k at G;obtain⟨s,e,W,g,X,Y,Z,h4,h5⟩:=G;refine wp_mono (round s e W ⟨k,g⟩ a w X Y Z h4 h5) λx H K L=>?_
  cases x with
  |normal=>
   obtain⟨s',e',z,A,g1,g2,g3,g4,g5⟩:=L;simp only[WA,z]at g;obtain⟨p,rfl⟩:=j g;have i:J H K p:=⟨s',e',A,g,g1,g2,g3,g4,g5⟩;refine⟨⟨p,i⟩,?_⟩;rw[dif_pos ⟨p,i⟩,dif_pos v];have:=(XB (D7 (⟨p,i⟩:∃k,J H K k))).2 p i;rw[y];omega
  |_=>exact L
end
def oQ(o:Oper):List Nat:=(o.after.toList.filter (Region.binds .any)).map (·.on)
def Qm:Nat->List Nat->Bool
 |_,[]=>false|x,y::r=>bif Nat.beq x y then true else Qm x r
def zUF{x:Nat}:∀{l:List Nat},Qm x l=true->x∈l
 |[],h=>by simp[Qm]at h|y::r,h=>by
  simp only[Qm]at h;cases a:Nat.beq x y
  ·simp only[a,BB]at h;exact EX _ (zUF h)
  ·rw[Nat.eq_of_beq_eq_true a];exact DZ ..
def Dk(E:List Nat):List (Nat×Nat)->Nat->Bool
 |[],_=>true|p::r,t=>bif Nat.beq p.1 t then bif Qm p.2 E then Dk E r t else false else Dk E r t
def Uw{E:List Nat}:∀{d:List (Nat×Nat)} {t:Nat},Dk E d t=true->∀i,(t,i)∈d->i∈E
 |[],_,_,_,h=>by cases h|p::r,t,h,i,b=>by
  simp only[Dk]at h;cases c:Nat.beq p.1 t
  ·simp only[c,BB]at h
   cases b with
   |head=>simp at c|tail _ b=>exact Uw h i b
  ·simp only[c,BD]at h
   cases a:Qm p.2 E
   ·simp[a]at h
   ·simp only[a,BD]at h
    cases b with
    |head=>exact zUF a|tail _ b=>exact Uw h i b
def Ux(j:Nat):List Nat->Bool
 |[]=>true|x::r=>bif Nat.blt x j then Ux j r else false
def zKv{j:Nat}:∀{l:List Nat},Ux j l=true->∀x∈l,x<j
 |[],_,_,h=>by cases h|y::r,h,x,a=>by
  simp only[Ux]at h;cases b:Nat.blt y j
  ·simp[b]at h
  ·simp only[b,BD]at h
   cases a with
   |head=>exact EU b|tail _ a=>exact zKv h x a
def Uy(E:List Nat)(a:List (Nat×Nat)):List Nat->Bool
 |[]=>true|t::r=>bif Dk E a t then Uy E a r else false
def zHG{E:List Nat}{a:List (Nat×Nat)}:∀{l:List Nat},Uy E a l=true->∀t∈l,Dk E a t=true
 |[],_,_,h=>by cases h|y::r,h,x,b=>by
  simp only[Uy]at h;cases c:Dk E a y
  ·simp[c]at h
  ·simp only[c,BD]at h
   cases b with
   |head=>exact c|tail _ b=>exact zHG h x b
def D8:Op->Bool
 |.select ..=>false|_=>true
def D9(E:List Nat)(a b:List (Nat×Nat)):Option Nat->Bool
 |none=>true|some d=>bif Dk E a d then Dk E b d else false
def yCe(j:Nat)(a:List (Nat×Nat)):Option Nat->List (Nat×Nat)
 |none=>a|some d=>(d,j)::a
def fx(ops:Array Oper):List Oper->Nat->List (Nat×Nat)->List (Nat×Nat)->Bool
 |[],_,_,_=>true|o::r,j,a,b=>
  bif Ux j (oQ o)then bif Uy (oQ o) a (o.looksAt ops)then bif D9 (oQ o) a b o.dst then bif D8 o.op then
   fx ops r (j+1) (yCe j a o.dst) ((o.looksAt ops).map (·,j)++b)else false else false else false else false
structure yCu(ops:Array Oper):Prop where
 lt:∀(j:Nat) (oj:Oper),ops[j]?=some oj->∀e∈oj.after,Region.binds .any e=true->e.on<j
 apart:∀(i j:Nat) (oi oj:Oper),ops[i]?=some oi->ops[j]?=some oj->i<j->(∀e∈oj.after,Region.binds .any e=true->e.on≠i)->oi.apart ops oj=true
 WO:∀(j:Nat) (o:Oper) cs b,ops[j]?=some o->o.op≠.select cs b
def E5:B∈oQ c0↔∃e∈c0.after,Region.binds .any e=true/\e.on=B:=by simp[oQ,FM,KH,and_assoc]
def yBb{ops:Array Oper}:∀(l:List Oper) (k:Nat) (m u:List (Nat×Nat)),(∀j,l[j]?=ops[k+j]?)->fx ops l k m u=true->
  (∀i c d,i<k->ops[i]?=some c->c.dst=some d->(d,i)∈m)->(∀i c t,i<k->ops[i]?=some c->t∈c.looksAt ops->(t,i)∈u)->
  (∀(j:Nat) (n:Oper),k<=j->ops[j]?=some n->(∀e∈n.after,Region.binds .any e=true->e.on<j)/\(∀I b,n.op≠.select I b)/\
   ∀(i:Nat) (c:Oper),ops[i]?=some c->i<j->(∀e∈n.after,Region.binds .any e=true->e.on≠i)->c.apart ops n=true)
 |[],k,m,u,y,_,_,_,j,n,N,p=>by have:=y (j-k);rw[show k+(j-k)=j by omega,p]at this;simp at this|o::l,k,m,u,y,h,z,J,j,n,N,p=>by
  have A:ops[k]?=some o:=by simpa using(y 0).symm
  simp only[fx]at h;cases K:Ux k (oQ o)<;>simp only[K,BD,BB]at h<;>try cases h
  cases L:Uy (oQ o) m (o.looksAt ops)<;>simp only[L,BD,BB]at h<;>try cases h
  cases g:D9 (oQ o) m u o.dst<;>simp only[g,BD,BB]at h<;>try cases h
  cases B:D8 o.op<;>simp only[B,BD,BB]at h<;>try cases h
  by_cases C:j=k
  ·subst C
   rw[A]at p;injection p with p;subst p;refine⟨λe D E=>zKv K _ (E5.2 ⟨e,D,E,O⟩),(λI b F=>by rw[F]at B;cases B),λi c v q G=>?_⟩
   have f:i∉oQ o:=λw=>by obtain⟨e,D,E,rfl⟩:=E5.1 w;exact G e D E O
   unfold Oper.apart;rw[GX];constructor
   ·split
    ·rename_i d r
     rw[GX];constructor
     ·simp only[JQ,uh,JO]
      intro w;exact f (Uw (zHG L d w) i (z i c d q v r))
     ·simp only[JY,JZ]
      intro H;rw[H]at g;simp only[D9]at g;cases x:Dk (oQ o) m d
      ·simp[x]at g
      ·exact f (Uw x i (z i c d q v r))
    ·rfl
   ·split
    ·rename_i d r
     simp only[JQ,uh,JO];intro w;rw[r]at g;simp only[D9]at g;cases x:Dk (oQ o) m d
     ·simp[x]at g
     ·simp only[x,BD]at g
      exact f (Uw g i (J i c d q v w))
    ·rfl
  ·refine yBb l (k+1) _ _ (λj=>by have:=y (j+1);simpa[LG,KU 1 j]using this) h (λi c d v a r=>?_) (λi c t v a M=>?_) j n (by omega) p
   ·by_cases s:i=k
    ·subst s
     rw[A]at a;injection a with a;subst a;rw[r];exact DZ ..
    ·have:=z i c d (by omega) a r
     unfold yCe;split
     ·exact this
     ·exact EX _ this
   ·by_cases s:i=k
    ·subst s
     rw[A]at a;injection a with a;subst a;exact IY _ (FM.2 ⟨t,M,O⟩)
    ·exact JP _ (J i c t (by omega) a M)
def yBP(h:fx U.toArray U 0 [] []=true):yCu U.toArray:=by have:=yBb (ops:=U.toArray) U 0 [] [] (λj=>by simp) h (λi _ _ c=>by omega) (λi _ _ c=>by omega);exact⟨λj d a=>(this j d (KJ _) a).1,λi j g d c a e f=>(this j d (KJ _) a).2.2 i g c e f,λj o k b a=>(this j o (KJ _) a).2.1 k b⟩
variable{C:World->Prop}
section
def zNT{ops:Array Oper}(c:yCu ops){Q:Act->Prop}:∀(l:List Oper) (k:Nat) (listed:Array Bool) (a:Act),(∀j,l[j]?=ops[k+j]?)->listed.size=ops.size->(∀j,j<ops.size->listed[j]?=some (decide (j<k)))->
  wpQuiet P ops C Q l a->wpAnyQ P .any ops C Q l.length listed a
 |[],k,listed,a,n,d,b,h=>by
  refine⟨?_,h⟩
  have q:ops.size<=k:=by
   rcases MG k ops.size with f|m
   ·have:=n 0
    simp[f]at this
   ·exact m
  rw[oq];intro i x;obtain⟨y,o,z,_⟩:=SS.1 x;have A:=(IX.1 z).1;have:=b i A;simp[this,show i<k by omega]at y
 |o::l,k,listed,a,n,d,b,h=>by
  have g:ops[k]?=some o:=by simpa using(n 0).symm
  have q:=(IX.1 g).1;have r:qOp P ops C k (wpQuiet P ops C Q l) a:=by unfold qOp;simp only[g];exact h
  obtain⟨v,hy,B⟩:=yieldsIn_of_qOp g r
  refine wpAnyQ_first g c.WO l.length listed a (λj D p E s t=>?_) ?_ hy
   (zNT c l (k+1) _ _ (λj=>by have:=n (j+1);simpa[LG,KU 1 j]using this) (by simpa using d) (λj p=>?_) B)
  ·have u:=(IX.1 p).1
   have:=b j u
   have m:k<=j:=by simp[this]at s;omega
   exact c.apart k j o D g p (by omega) t
  ·refine SS.2 ⟨?_,o,g,λe F G=>?_⟩
   ·simp[b k q]
   ·have f:=c.lt k o g e F G
    simp[b e.on (by omega),f]
  ·rw[Array.getElem?_setIfInBounds]
   split
   ·rename_i w
    subst w;simp[d,q]
   ·rw[b j p]
    congr 1;simp only[QB];omega
def zPj(e:P.follows .mixedOrders=true)(f:fx U.toArray U 0 [] []=true)(g:C {D with drawn:=D.drawn+1})(h:wpQuiet P U.toArray C (λb=>∀a,C a->Q .normal b a) U Z):(Code.region B U.toArray true).wp P Q Z D:=by refine wp_region_any e (wpAny_of_quiet (Q:=λb=>∀a,C a->Q .normal b a) (λ_ a c h=>h a c) _ _ _ _ g ?_);have:=zNT (C:=C) (yBP f) U 0 (Array.replicate U.toArray.size false) Z (by simp) (by simp) (λj d=>by simp only[NM]at d;simp[d]) h;simpa using this
def St.regionF(b:P.follows .mixedOrders=true)(c:fx U.toArray U 0 [] []=true)(h:St D B I F (Jb P U.toArray Q U)):St D B I F ((Code.region i U.toArray true).wp P Q):=
 λa w d e f g j=>zPj (C:=Ext w) b c (Ext.drew w) (by simpa[Jb]using h a w d e f g j)
end
def fJ(b e:Nat)(A:Option Addr)(n c:Nat)(rows:List (List Value))(m:Hp):Prop:=
 rows.length=n/\(∀r∈rows,r.length=b/\∀u∈r,u.oneCell'=true)/\
  ((n=0/\c=0)\/∃(g:Nat) (a:Array Value) (fr:Nat×Nat),0<c/\A=some ⟨g,0,none⟩/\m g=some (.cells a e fr)/\a.size=c*b/\n<=c/\c<=maxLen/\
   a.toList.take (n*b)=rows.flatten/\∀i,i<a.size->¬(fr.1<=i/\i<fr.2))
def E8:Option Addr->List Nat
 |some a=>[a.block]|none=>[]
def fX(A:Option Addr)(c:Nat):List Nat:=if c=0 then[]else E8 A
def nD(A:Option Addr)(c:Nat):(fX A c).Nodup:=by
 unfold fX;split
 ·simp
 ·cases A<;>simp[E8]
def eF{A:Option Addr}{c:Nat}:B∈fX A c↔0<c/\∃a,A=some a/\B=a.block:=by
 unfold fX;split
 ·rename_i h;simp[h]
 ·rename_i h
  cases A with
  |none=>simp[E8]|some a=>simp[E8];omega
def zGH(h:0<i):fX (some ⟨B,0,none⟩) i=[B]:=by unfold fX;rw[AP (by omega)];rfl
def Own(sz e:Nat)(A:Option Addr)(n c:Nat)(rows:List (List Value)):ah where
 gs:=fX A c
 p:=fJ sz e A n c rows
 loc m m' h hp:=by
  obtain⟨h1,h2,h3⟩:=hp;refine⟨h1,h2,?_⟩;rcases h3 with h3|⟨g,cur,fr,h0,hA,hm,rest⟩
  ·exact .inl h3
  ·refine .inr ⟨g,cur,fr,h0,hA,?_,rest⟩
   rw[<-h g (eF.2 ⟨h0,_,hA,O⟩),hm]
def uZ{a:Nat}:∀{rows:List (List Value)},(∀r∈rows,r.length=a/\∀u∈r,u.oneCell'=true)->rows.flatten.length=rows.length*a
 |[],_=>by simp|r::b,h=>by
  have c:=(h r (by simp)).1;have d:=uZ (rows:=b) λx e=>h x (by simp[e])
  simp[c,d,FU,KU]
variable{h:List (List Value)}
def fJ.flat{m:Hp}(a:fJ B i Y J V h m):h.flatten.length=J*B:=by rw[uZ a.2.1,a.1]
def fJ.nil(a e:Nat)(m:Hp):fJ a e none 0 0 [] m:=⟨O,by simp,.inl ⟨O,O⟩⟩
def Sat.Gv(h:Sat F D)(a e:Nat):Sat (.res (Own a e none 0 0 [])::F) D:=
 h.KA (Ext.refl D) _ (by simp[Own,fX]) (by simp[Own,fX]) (fJ.nil a e _)
variable{d7:Nat}
section
variable[T:GZ P]
def F5{d:Nat}:∀{rows:List (List Value)},(∀r∈rows,r.length=d/\∀u∈r,u.oneCell'=true)->∀(q:Nat) (a:List Value),rows[q]?=some a->∀i u,a[i]?=some u->rows.flatten[q*d+i]?=some u
 |[],_,q,a,b,_,_,_=>by simp at b|r::e,h,0,a,b,i,u,c=>by simp at b;subst b;have g:=(FT.1 c).1;simp only[OQ,SL,KE];rw[NT g,c]|r::e,h,q+1,a,b,i,u,c=>by have f:=(h r (by simp)).1;have:=F5 (rows:=e) (λx j=>h x (by simp[j])) q a (by simpa using b) i u c;simp only[OQ];rw[JM (by rw[f,FU];omega),<-this];congr 1;rw[f,FU];omega
def fJ.cell{f e n c:Nat}{A:Option Addr}{rows:List (List Value)}{w:World}(h:fJ f e A n c rows (hp w)){j:Nat}{u:Value}(a:rows.flatten[j]?=some u):∃g,A=some ⟨g,0,none⟩/\w.cell? ⟨g,j,none⟩=some u:=by
 rcases h.2.2 with⟨i,_⟩|⟨g,b,fr,_,k,l,o,p,q,m,_⟩
 ·have:=h.flat
  rw[i,SL]at this;have:=KQ this;rw[this]at a;simp at a
 ·refine⟨g,k,?_⟩
  have d:w.heap[g]?=some (.cells b e fr):=l;rw[<-m,LQ]at a;split at a
  ·simp[World.cell?,d];simpa using a
  ·cases a
def fJ.sl{E:JL H}{m:Hp}(a:fJ E.n B Y i J h m)(e:List H)(w:e.length=i)(f:Hp)(y:∀k,k∈fX Y J->m k=f k)(z:∀(j:Nat) (x:H),e[j]?=some x->∃r,h[j]?=some r/\E.rel f x r):NG E Y J e f:=by
 have A:=a.2.2;rcases A with⟨C,o⟩|⟨g,p,fr,d,D,F,M,N,G,I,_⟩
 ·have:e=[]:=KQ (w.trans C)
  subst this;subst o;exact⟨by simp,by simp[maxLen],λ_=>O,λK _ j x q=>by simp at q⟩
 ·subst D
  refine⟨by omega,G,(λa=>by cases a),λK c j x q=>?_⟩;injection c with c;subst c;obtain⟨r,s,t⟩:=z j x q;refine⟨O,r,t,λb u L=>?_⟩;have l:=F5 a.2.1 j r s b u L;rw[<-I,LQ]at l;split at l
  ·have v:f g=some (.cells p B fr):=by rw[<-y g (eF.2 ⟨d,_,O,O⟩)];exact F
   simp only[ji,v,KE];simpa using l
  ·cases l
def ZN(P:Program)(c:Nat)(x:Value)(m:Nat)(a:List Value)(w:World):Prop:=
 (∀b,(Builtin.lenOf x).run P b=.ok m b)/\a.length=m*c/\(∀u∈a,u.oneCell'=true)/\∀b,b.heap=w.heap->(Builtin.firstCells c m x).run P b=.ok a.toArray b
def eY{a:Addr}(b:e.length=i*B)(c:∀j u,e[j]?=some u->D.cell? (a.add j)=some u):(Builtin.firstCells B i (.slice (some a) i J)).run P D=.ok e.toArray D:=by have:=run_loadCells_list (P:=P) D a e c;rw[b]at this;simpa[Builtin.firstCells]using this
theorem pL(g j:Nat):(⟨g,0,none⟩:Addr).add j=⟨g,j,none⟩:=by unfold Addr.add;split<;>simp_all
def Lj:TD->Bool
 |.int _=>false|_=>true
def zNe{t:Nat}(f:P.underlying t=some (.slice J))(c:P.underlying B=some a9)(d:Lj (TD.of a9)=true)(x y:Value)(w:World):(Builtin.append_ #[t,B] i #[x,y]).run P w=(Builtin.append_ #[t,t] i #[x,y]).run P w:=by
 have e:=λw=>CY (P:=P) f w
 have g:=λw=>CY (P:=P) c w
 have g0:∀a b:Nat,(#[a,b]:Array Nat)[0]?=some a:=λ_ _=>O
 have h:∀a b:Nat,(#[a,b]:Array Nat)[1]?=some b:=λ_ _=>O
 have j:∀a b:Value,(#[a,b]:Array Value)[0]?=some a:=λ_ _=>O
 have k:∀a b:Value,(#[a,b]:Array Value)[1]?=some b:=λ_ _=>O
 unfold Builtin.append_;simp only[g0,h,j,k,EJ,e,EO];cases x<;>try rfl
 simp only[EJ,e,g,EO,FX];cases a9<;>first|rfl|(simp[Lj,TD.of]at d)
def zJl{t ty:Nat}{n:TypeInfo}(ht:P.underlying t=some (.slice B))(K:P.info? B=some n)(hsz:n.size=i)(T:n.bytes=J)(hz:n.zero=some S)(hzs:S.cells.size=i)(b:fJ i B Y V f h (hp D))(hts:a0=#[t,t])(hx:ZN P i E o e D)(H:V+o<=maxLen)(z:(V+o)*J<=140737488355328)(c:List (List Value))(L:c.flatten=e)(U:c.length=o)(W:∀r∈c,r.length=i/\∀u∈r,u.oneCell'=true):∃X Z m,(Builtin.append_ a0 ty #[.slice Y V f,E]).run P D=.ok (.slice X (V+o) Z) m/\oM (fX Y f) D m/\fJ i B X (V+o) Z (h++c) (hp m)/\(∀k,k∈fX X Z->k<m.heap.size/\(k∈fX Y f\/D.heap.size<=k))/\((X=Y/\Z=f)\/(Ext D m/\∀k,k∈fX X Z->D.heap.size<=k)):=by
 obtain⟨A,v,hx3,C⟩:=hx;subst hts
 have w:∀r∈h++c,r.length=i/\∀u∈r,u.oneCell'=true:=λr M=>by
  rcases DW.1 M with M|M
  ·exact b.2.1 r M
  ·exact W r M
 have hrl:(h++c).length=V+o:=by simp[b.1,U]
 have hfl:(h++c).flatten=h.flatten++e:=by simp[L]
 have hsmall:V+o<=9223372036854775807:=by simp only[maxLen]at H;omega
 have F:(underlying t).run P D=.ok (.slice B) D:=CY ht D;have G:∀m,(sizeOf B).run P m=.ok i m:=λm=>by simp[sizeOf,typeInfo,K,hsz]
 have hti:∀m,(typeInfo B).run P m=.ok n m:=λm=>by simp[typeInfo,K]
 have hzv:∀m,(zeroValue B).run P m=.ok S m:=λm=>by simp[zeroValue,typeInfo,K,hz]
 by_cases q:V+o<=f
 ·
  rcases b.2.2 with⟨h0,hc0⟩|⟨g,x,fr,I,hA,hg,hcs,hn,hc,htk,hfz⟩
  ·have hm0:o=0:=by omega
   subst h0;subst hm0;subst hc0;have:e=[]:=KQ (by simpa using v);subst this;have:c=[]:=KQ U;subst this;refine⟨Y,0,D,?_,oM.VE (Ext.refl D),?_,λk s=>absurd (eF.1 s).1 (by omega),.inl ⟨O,O⟩⟩
   ·cases Y with
    |none=>simp[Builtin.append_,F,G,A,C D O]|some ad=>simp[Builtin.append_,F,G,A,C D O,storeCells]
   ·simpa using b
  ·subst hA
   have hg':D.heap[g]?=some (.cells x B fr):=hg;have hnm:(V+o)*i<=f*i:=MR _ q;have hbox:(Box g B x.toList).p (hp D):=⟨_,hg,fr,by simp,λd K=>hfz d (by simpa using K)⟩
   have hle:V*i+0+e.length<=x.toList.length:=by rw[v];simp only[PU,hcs];rw[FU]at hnm;omega
   obtain⟨m,M,hw,hb⟩:=dU (P:=P) e x.toList (V*i) 0 D hbox hle hx3;have hbk:fX (some ⟨g,0,none⟩) f=[g]:=zGH I;refine⟨some ⟨g,0,none⟩,f,m,?_,hbk▸hw,⟨hrl,w,.inr ?_⟩,?_,.inl ⟨O,O⟩⟩
   ·simp[Builtin.append_,F,G,A,q,C D O,pL,M]
   ·obtain⟨l,ho,fr',rfl,hfz'⟩:=hb
    refine⟨g,_,fr',I,O,ho,?_,q,hc,?_,λd K=>hfz' d (by simpa using K)⟩
    ·simp only[NM,ER,DV,EM,PU,hcs,v]
     rw[FU]at hnm;omega
    ·simp only[LH,htk,hfl]
     have N:(h.flatten++e).length=(V+o)*i:=by rw[ER,b.flat,v,FU]
     rw[<-N];exact OU
   ·intro k s
    refine⟨?_,.inl s⟩;rw[hbk]at s;simp at s;subst s;exact GV (IX.1 hg').1 hw.size
 ·
  have hfit:=growslice_fits (need:=V+o) (old:=f) (by omega) z
  have hold:∀m,m.heap=D.heap->(Builtin.firstCells i V (.slice Y V f)).run P m=.ok h.flatten.toArray m:=λm hw'=>by
   rcases b.2.2 with⟨h0,_⟩|⟨g,x,fr,_,hA,hg,_⟩
   ·have:=b.flat
    rw[h0,SL]at this;rw[KQ this,h0];cases Y with
    |none=>rfl|some ad=>simp[Builtin.firstCells];rfl
   ·subst hA
    refine eY b.flat λj u hu=>?_
    obtain⟨g',y,hc⟩:=b.cell hu;injection y with y;injection y with y;subst y;rw[pL];rw[<-hc];simp[World.cell?,hw']
  let R:=grownCap D (V+o) f B
  have hge:V+o<=R:=grownCap_ge D (V+o) f B;have hcm:R<=maxLen:=grownCap_le_maxLen D (V+o) f B H
  let cells:Array Value:=h.flatten.toArray++e.toArray++Builtin.zeroCells S.cells (R-(V+o))
  refine⟨some ⟨D.heap.size,0,none⟩,R,D.drew.alloc (.cells cells B),?_,oM.VE ((Ext.drew D).trans (Ext.alloc _ _)),⟨hrl,w,.inr ⟨D.heap.size,cells,(0,0),by omega,O,jH D.drew _,?_,hge,hcm,?_,λd _ hh=>by omega⟩⟩,?_,.inr ⟨(Ext.drew D).trans (Ext.alloc _ _),?_⟩⟩
  ·have hcond:¬((((V+o:Nat):Int)>IntKind.i64.max)/\((false=true)\/n.bytes=0)):=by
    intro hh;have:((V+o:Nat):Int)<=IntKind.i64.max:=by simp only[IntKind.max,IntKind.signed,IntKind.bits];omega
    omega
   have aBR:¬(Builtin.nextslicecap (V+o) f*n.bytes>2^48):=by rw[T];omega
   have hmax:((V:Int)+(o:Int))<=IntKind.i64.max:=by simp only[IntKind.max,IntKind.signed,IntKind.bits];simp;omega
   simp[Builtin.append_,F,G,A,q,hti,hzv,T];have h2:¬(281474976710656<Builtin.nextslicecap (V+o) f*J):=by omega
   have h3:¬(9223372036854775807<(V:Int)+(o:Int)):=by omega
   simp[h2,h3,hold D.drew O,C D.drew O,Question.forced,newRow];simp only[cells,R,grownCap,Array.append_assoc];exact⟨trivial,trivial⟩
  ·show cells.size=R*i
   simp only[cells,Array.size_append,NM,size_zeroCells,hzs,b.flat,v,<-FU];congr 1;omega
  ·show cells.toList.take ((V+o)*i)=_
   simp only[cells,Array.toList_append,hfl];have N:(h.flatten++e).length=(V+o)*i:=by rw[ER,b.flat,v,FU]
   rw[<-N];exact OU
  ·intro k s
   obtain⟨_,a,Q,s⟩:=eF.1 s;injection Q with Q;subst Q;subst s;exact⟨by simp,.inr (FN _)⟩
  ·intro k s
   obtain⟨_,a,Q,s⟩:=eF.1 s;injection Q with Q;subst Q;subst s;exact FN _
def zSx{t ty:Nat}{c:TypeInfo}(y:P.underlying t=some (.slice B))(z:P.info? B=some c)(q:c.size=i)(s:c.bytes=J)(hz:c.zero=some S)(v:S.cells.size=i)(a:fJ i B Y V f h (hp D))(w:a0=#[t,t])(A:ZN P i E o e D)(l:V+o<=maxLen)(d:(V+o)*J<=140737488355328)(b:List (List Value))(g:b.flatten=e)(x:b.length=o)(m:∀r∈b,r.length=i/\∀u∈r,u.oneCell'=true):∃n p j,(Builtin.append_ a0 ty #[.slice Y V f,E]).run P D=.ok (.slice n (V+o) p) j/\oM (fX Y f) D j/\fJ i B n (V+o) p (h++b) (hp j)/\(∀k,k∈fX n p->k<j.heap.size/\(k∈fX Y f\/D.heap.size<=k)):=by obtain⟨n,p,j,C,F,G,H,_⟩:=zJl (ty:=ty) y z q s hz v a w A l d b g x m;exact⟨n,p,j,C,F,G,H⟩
def Sat.UW(a:Sat F D)(b:Del F (.res (Own J V Y B i h)) G):fJ J V Y B i h (hp D):=a.res (r:=Own J V Y B i h) b.mem
def zMN{t n:Nat}{j:TI}(a:List (List Value))(s:Z.tmps.size=B)(R:Z.defers=[])(W:At Z I)(hf:Sat F a8)(hw:Same D a8)(hd:Nat.blt i B=true)(hs:ev I A=some (.slice Y n d7))(hx:ev I x=some S)(hD:Del F (.res (Own o f Y n d7 h)) G)(hi:xG T.tt t=some m)(c:m.desc=.slice f)(hj:xG T.tt f=some j)(X:j.size=o)(hzs:Nat.beq (zc j.zero).length o=true)(v:ZN P o S a7 e a8)(g:a.flatten=e)(hn':a.length=a7)(w:∀b∈a,b.length=o/\∀u∈b,u.oneCell'=true)(y:n+a7<=maxLen)(d:(n+a7)*j.bytes<=140737488355328)(hi2:xG T.tt V=some r)(hd2:Lj r.desc=true)(k:∀p q,St D B ((i,.slice p (n+a7) q)::I) (.res (Own o f p (n+a7) q (h++a))::G) (wpList P L Q U)):wpList P L Q (⟨some i,.call {callee:=.builtin .append,args:=#[A,x],argTypes:=#[t,V]},J,N,M,none⟩::U) Z a8:=
 GN O λK hK=>by
  obtain⟨dd,hu,z⟩:=T.ok.desc hi;obtain⟨d2,hu2,Ll⟩:=T.ok.desc hi2;have C:=(T.ok.get hj).2.1;cases l:P.info? f with
  |none=>simp[l]at C|some info=>
   simp[l]at C;have hz:j.zero.cells.size=o:=by rw[<-aU];simpa using Nat.eq_of_beq_eq_true hzs
   obtain⟨p,q,w',hr,E,H,hbl⟩:=zSx (P:=P) (ty:=J) (TD.of_slice (z.trans c)▸hu) l (C.1.trans X) C.2.1 C.2.2 hz (hf.UW hD) rfl v y d a g hn' w;unfold Oper.wp
   have hr2:(execOp Z.eval ⟨some i,.call {callee:=.builtin .append,args:=#[A,x],argTypes:=#[t,V]},J,N,M,none⟩).run P a8=.ok (.value (.slice p (n+a7) q)) w':=by simp[execOp,resolve,invoke,builtin,W.eval hs,W.eval hx,zNe (P:=P) (TD.of_slice (z.trans c)▸hu) hu2 (Ll▸hd2),hr]
   rw[hr2];refine hK _ _ (k p q _ _ (by simp[Act.put,s]) R (W.put (s▸EU hd)) ((hf.front hD).exchange E ?_ hbl H) (hw.trans E.toSame));exact nD p q
def St.append{t R e l m c n:Nat}{a i2 j:TI}{s x:Operand}{A:Option Addr}{S:Value}{rows:List (List Value)}{f:List Value}(b:List (List Value))(Y:Nat.blt i B=true)(Z:ev I s=some (.slice A n c))(hx:ev I x=some S)(hD:Del F (.res (Own l e A n c rows)) G)(hi:xG T.tt t=some a)(g:a.desc=.slice e)(hj:xG T.tt e=some j)(v:j.size=l)(y:Nat.beq (zc j.zero).length l=true)(o:∀w,Sat F w->ZN P l S m f w)(h:b.flatten=f)(z:b.length=m)(p:∀r∈b,r.length=l/\∀u∈r,u.oneCell'=true)(q:n+m<=maxLen)(d:(n+m)*j.bytes<=140737488355328)(C:xG T.tt R=some i2)(E:Lj i2.desc=true)(k:∀V W,St D B ((i,.slice V (n+m) W)::I) (.res (Own l e V (n+m) W (rows++b))::G) (wpList P L Q U)):St D B I F (wpList P L Q (⟨some i,.call {callee:=.builtin .append,args:=#[s,x],argTypes:=#[t,R]},J,N,M,none⟩::U)):=
 λ_ w H K ha X hw=>zMN b H K ha X hw Y Z hx hD hi g hj v y (o w X) h z p q d C E k
def zTO(d:As.res (Box B i e)∈F)(c:e.length=V*J)(g:(e.all λu=>u.oneCell')=true):∀w,Sat F w->ZN P J (.slice (some ⟨B,0,none⟩) V f) V e w:=by intro w h;refine⟨λ_=>O,c,λu a=>by simpa using List.all_eq_true.1 g u a,λk b=>eY c λj u a=>?_⟩;rw[pL];have:=Box.cell (h.res d) a;simpa[World.cell?,b]using this
def Qq(s:ByteArray):List Value:=s.toList.map λb=>.int .u8 (b.toNat:Int)
def yAn(s:ByteArray):∀w,Sat F w->ZN P 1 (.string s) s.size (Qq s) w:=by
 intro w _;have c:s.toList.length=s.size:=by rw[NV];simp
 refine⟨λ_=>O,by simp[Qq,c],λu a=>?_,λd _=>?_⟩
 ·simp only[Qq,FM]at a
  obtain⟨b,_,rfl⟩:=a;rfl
 ·simp[Builtin.firstCells,Qq,NV]
  apply QI;simp
def Aa(E:JL H)(a:List H)(rows:List (List Value))(m:Hp):Prop:=rows.length=a.length/\∀(j:Nat) (x:H) (r:List Value),a[j]?=some x->rows[j]?=some r->E.rel m x r
def WG(E:JL H)(a:List H)(rows:List (List Value)):Ro:=⟨Aa E a rows,λm b h hp=>⟨hp.1,λj x r c d=>E.mono m b x r h (hp.2 j x r c d)⟩⟩
def zJf{b c:Type}{R:Nat->b->c->Prop}:∀(a:List b),(∀(j:Nat) (x:b),a[j]?=some x->∃r,R j x r)->∃rows:List c,rows.length=a.length/\∀(j:Nat) (x:b) (r:c),a[j]?=some x->rows[j]?=some r->R j x r
 |[],_=>⟨[],O,λj x r h _=>by simp at h⟩|x::a,h=>by
  obtain⟨r,e⟩:=h 0 x rfl;obtain⟨rows,f,g⟩:=zJf (R:=λj x r=>R (j+1) x r) a λj y hy=>h (j+1) y (by simpa using hy)
  refine⟨r::rows,by simp[f],λj y s hy d=>?_⟩;cases j with
  |zero=>simp at hy d;subst hy;subst d;exact e|succ j=>exact g j y s (by simpa using hy) (by simpa using d)
def zKX{sz b o:Nat}{m:Hp}:∀(rows:List (List Value)),(∀r∈rows,r.length=sz)->(∀(j:Nat) (r:List Value),rows[j]?=some r->∀i u,r[i]?=some u->ji m b (o+j*sz+i)=some u)->
  ∀i u,rows.flatten[i]?=some u->ji m b (o+i)=some u
 |[],_,_,i,u,h=>by simp at h|r::e,c,d,i,u,h=>by
  simp only[OQ]at h;have f:=c r (by simp);by_cases g:i<r.length
  ·rw[NT g]at h
   simpa using d 0 r O i u h
  ·rw[JM (by omega)]at h
   have:=zKX (o:=o+sz) e (λx a=>c x (by simp[a])) (λj x a k v l=>by have n:=d (j+1) x (by simpa using a) k v l;rw[<-n];congr 1;rw[FU];omega) _ u h
   rw[<-this];congr 1;omega
def NG.rows{s:Type}{E:JL s}{A:Option Addr}{c:Nat}{b:List s}{m:Hp}(h:NG E A c b m):∃rows:List (List Value),Aa E b rows m/\(∀r∈rows,r.length=E.n/\∀u∈r,u.oneCell'=true)/\∀a,A=some a->b≠[]->a.spot=none/\∀i u,rows.flatten[i]?=some u->ji m a.block (a.off+i)=some u:=by
 cases A with
 |none=>
  have:=h.2.2.1 O;subst this;exact⟨[],⟨O,λj x r h=>by simp at h⟩,by simp,λa h=>by cases h⟩
 |some a=>
  obtain⟨rows,t,l⟩:=zJf (R:=λj x o=>a.spot=none/\E.rel m x o/\∀i u,o[i]?=some u->ji m a.block (a.off+j*E.n+i)=some u) b λj x e=>by obtain⟨v,o,w,y⟩:=h.2.2.2 a rfl j x e;exact⟨o,v,w,y⟩
  have k:∀r∈rows,∃j x,b[j]?=some x/\rows[j]?=some r:=λr k=>by obtain⟨j,d⟩:=List.getElem?_of_mem k;have p:=(FT.1 d).1;exact⟨j,b[j]'(by omega),CJ (by omega),d⟩
  refine⟨rows,⟨t,λj x r e k=>(l j x r e k).2.1⟩,λr f=>?_,λz g q=>?_⟩
  ·obtain⟨j,x,e,d⟩:=k r f
   have:=(l j x r e d).2.1;exact⟨E.len _ _ _ this,E.one _ _ _ this⟩
  ·injection g with g
   subst g;constructor
   ·cases b with
    |nil=>exact absurd O q|cons x b=>
     cases rows with
     |nil=>simp at t|cons r rows=>exact(l 0 x r O O).1
   ·refine zKX (sz:=E.n) rows (λr f=>?_) λj r d i u B=>?_
    ·obtain⟨j,x,e,d⟩:=k r f
     exact E.len _ _ _ (l j x r e d).2.1
    ·have p:=(FT.1 d).1
     exact(l j (b[j]'(by omega)) r (CJ (by omega)) d).2.2 i u B
theorem NG.src{E:JL H}(p:∀r∈h,r.length=E.n/\∀u∈r,u.oneCell'=true)(g:h.length=W.length)(q:Y=none->W=[])(s:∀b,Y=some b->W≠[]->b.spot=none/\∀i u,h.flatten[i]?=some u->ji (hp D) b.block (b.off+i)=some u):ZN P E.n (.slice Y W.length B) W.length h.flatten D:=by
 have d:h.flatten.length=W.length*E.n:=by rw[uZ p,g]
 refine⟨λ_=>O,d,λu f=>?_,λv k=>?_⟩
 ·obtain⟨r,l,m⟩:=UA.1 f
  exact(p r l).2 u m
 ·cases Y with
  |none=>
   have:=q O;subst this;have:h=[]:=KQ (by simpa using g);subst this;rfl
  |some b=>
   refine eY d λj u f=>?_
   have o:W≠[]:=λa=>by subst a;have:h=[]:=KQ (by simpa using g);subst this;simp at f
   obtain⟨t,c⟩:=s b rfl o;have:=c j u f;rw[Ut]at this;have e:b.add j=⟨b.block,b.off+j,none⟩:=by unfold Addr.add;split<;>(cases b;simp_all)
   rw[e];simpa[World.cell?,k]using this
def yBH{enc:H->List Value}{hlen:∀x,(enc x).length=B}{hone:∀x,∀u∈enc x,u.oneCell'=true}(c:As.ro (Sl (JL.flat B enc hlen hone) Y i W)∈F):∀w,Sat F w->ZN P B (.slice Y W.length i) W.length (W.map enc).flatten w:=by
 intro w d;have h:NG (JL.flat B enc hlen hone) Y i W (hp w):=d.TK c;obtain⟨rows,b,f,g⟩:=h.rows
 have:rows=W.map enc:=by apply LZ (by simp[b.1]);intro j k a;simp only[FQ]at a;have e:rows[j]=enc W[j]:=b.2 j W[j] rows[j] (CJ _) (CJ _);simpa using e
 subst this;exact NG.src (E:=JL.flat B enc hlen hone) f (by simp) h.2.2.1 g
end
def ZE:Nat->List Value->List Value
 |0,_=>[]|n+1,a=>a++ZE n a
def zUp(a:List Value):∀n,ZE n a=(List.replicate n a).flatten
 |0=>rfl|n+1=>by simp[ZE,uz,zUp a n]
def zIU(a:List Value)(n:Nat):(ZE n a).length=n*a.length:=by
 induction n with
 |zero=>simp[ZE]|succ n b=>simp[ZE,b,FU,KU]
def zRr(a:List Value):∀(n i:Nat),i<n*a.length->(ZE n a)[i]?=a[i%a.length]?
 |0,i,h=>by simp at h|n+1,i,h=>by
  simp only[ZE];by_cases b:i<a.length
  ·rw[NT b,UB b]
  ·rw[JM (by omega),zRr a n (i-a.length) (by rw[FU]at h;omega)]
   congr 1;exact(Nat.mod_eq_sub_mod (by omega)).symm
def zKw(z:Array Value)(n:Nat)(h:0<z.size):((Array.range (n*z.size)).map λi=>z[i%z.size]!)=(ZE n z.toList).toArray:=by
 apply QI;apply FW;intro i;simp only[Array.toList_map,Array.toList_range,IJ];by_cases a:i<n*z.size
 ·rw[List.getElem?_range a,zRr z.toList n i (by simpa using a)]
  have b:=Nat.mod_lt i h;simp[b]
 ·rw[MP (by simpa using a),MP (by rw[zIU];simpa using a)]
  rfl
section
variable[T:GZ P]
def zWU(h:Nat.beq (zc m.zero).length B=true):m.zero.cells.size=B:=by rw[<-aU];simpa using Nat.eq_of_beq_eq_true h
def St.buildSlice{t e n:Nat}{b j:TI}{m:Array (Nat×Operand)}{q:List Value}(H:Nat.blt i B=true)(R:xG T.tt t=some b)(f:b.desc=.slice e)(A:xG T.tt e=some j)(hz:Nat.beq (zc j.zero).length j.size=true)(o:Nat.blt 0 j.size=true)(r:Gu I (λb=>some (b*j.size,j.size)) (ZE n (zc j.zero)) m.toList=some q)(c:Nat.ble (n*j.size) 16777216=true)(k:∀g,St D B ((i,.slice (some ⟨g,0,none⟩) n n)::I) (.res (Box g e q)::F) (wpList P L Q U)):St D B I F (wpList P L Q (⟨some i,.buildSlice t n m,J,N,M,none⟩::U)):=
 λa w C s E S V=>GN O λK W=>by
  obtain⟨dd,X,u⟩:=T.ok.desc R;have v:=zWU hz;have Y:0<j.size:=EU o;have p:=Ur E _ _ _ r
  have d:((Array.range (n*j.size)).map λb=>(if n*j.size=0 then#[]else j.zero.cells:Array Value)[b%(if n*j.size=0 then#[]else j.zero.cells:Array Value).size]!)=(ZE n (zc j.zero)).toArray:=by
   by_cases l:n*j.size=0
   ·have y:n=0:=by
     rcases YB.1 l with h|h
     ·exact h
     ·omega
    subst y;simp[ZE]
   ·simp only[l,EI]
    have:=zKw j.zero.cells n (by omega);rw[v]at this⊢;rw[this,<-aU]
  have G:(m.map λx=>(x.1,a.eval x.2)).toList=m.toList.map λx=>(x.1,a.eval x.2):=by simp
  unfold Oper.wp
  have Z:(execOp a.eval ⟨some i,.buildSlice t n m,J,N,M,none⟩).run P w=.ok (.value (.slice (some ⟨w.heap.size,0,none⟩) n n)) (w.alloc (.cells q.toArray e)):=by
   have z:¬(n*j.size>2^24):=by have:=EU c;omega
   simp only[execOp,Instr.buildSlice,EJ,CY X,TD.of_slice (u.trans f),EO,xC T.ok A,AP z,FX];by_cases l:n*j.size=0
   ·simp only[l,FO]at d
    simp only[l,FO,EJ,FX,EO];rw[d,G,p];rfl
   ·simp only[l,EI]at d
    simp only[l,EI,EJ,tY T.ok A,FX,EO];rw[d,G,p];rfl
  rw[Z];exact W _ _ (k _ _ _ (by simp[Act.put,C]) s (E.put (C▸EU H)) (S.alloc e _) (V.trans (Ext.alloc w _).toSame))
def Sat.yg(m:h.flatten=e)(f:h.length=V)(g:∀r∈h,r.length=J/\∀u∈r,u.oneCell'=true)(n:V<=maxLen)(b:Sat (.res (Box B i e)::F) D):Sat (.res (Own J i (some ⟨B,0,none⟩) V V h)::F) D:=by
 refine b.exchange (oM.VE (Ext.refl D)) (nD _ _) (λk p=>by obtain⟨_,a,j,rfl⟩:=eF.1 p;injection j with j;subst j;exact⟨b.lt (by simp[yU,As.gs,Box]),.inl (by simp[Box])⟩) ?_
 obtain⟨o,q,fr,rfl,l⟩:=(b.all _ (DZ ..)).2.1;subst m;by_cases d:V=0
 ·exact⟨f,g,.inl ⟨d,d⟩⟩
 refine⟨f,g,.inr ⟨B,_,fr,by omega,O,q,?_,FN _,n,?_,λc s=>l c (by simpa using s)⟩⟩
 ·rw[NM,uZ g,f]
 ·rw[<-f,<-uZ g];exact GU
def St.makeSlice{t e:Nat}{b j:TI}{x y:Operand}{l c:Int}(hd:Nat.blt i B=true)(hx:ev I x=some (.int .i64 l))(hy:ev I y=some (.int .i64 c))(hi:xG T.tt t=some b)(o:b.desc=.slice e)(A:xG T.tt e=some j)(hz:Nat.beq (zc j.zero).length j.size=true)(z:Nat.blt 0 j.size=true)(h1:(zc j.zero).all (λu=>u.oneCell')=true)(m:0<=l)(hlc:l<=c)(hc:c*j.bytes<=281474976710656)(hm:c<=9223372036854775807)(k:∀g,St D B ((i,.slice (some ⟨g,0,none⟩) l.toNat c.toNat)::I) (.res (Own j.size e (some ⟨g,0,none⟩) l.toNat c.toNat (List.replicate l.toNat (zc j.zero)))::F) (wpList P L Q U)):St D B I F (wpList P L Q (⟨some i,.makeSlice t x y,J,N,M,none⟩::U)):=
 λa w Z C p hf hw=>GN O λK hK=>by
  obtain⟨dd,E,G⟩:=T.ok.desc hi;have H:=zWU hz;have hp0:0<j.size:=EU z;have R:=(T.ok.get A).2.1;cases q:P.info? e with
  |none=>simp[q]at R|some n=>
  simp[q]at R;have S:IntKind.i64.wrap l=l:=by simp only[wrap,IntKind.bits,IntKind.signed];simp;omega
  have V:IntKind.i64.wrap c=c:=by simp only[wrap,IntKind.bits,IntKind.signed];simp;omega
  have d:((Array.range (c.toNat*j.size)).map λb=>(if c.toNat*j.size=0 then#[]else j.zero.cells:Array Value)[b%(if c.toNat*j.size=0 then#[]else j.zero.cells:Array Value).size]!)=(ZE c.toNat (zc j.zero)).toArray:=by
   by_cases m:c.toNat*j.size=0
   ·have W:c.toNat=0:=by
     rcases YB.1 m with h|h
     ·exact h
     ·omega
    rw[W];simp[ZE]
   ·simp only[m,EI]
    have:=zKw j.zero.cells c.toNat (by omega);rw[H]at this⊢;rw[this,<-aU]
  unfold Oper.wp
  have X:(execOp a.eval ⟨some i,.makeSlice t x y,J,N,M,none⟩).run P w=.ok (.value (.slice (some ⟨w.heap.size,0,none⟩) l.toNat c.toNat)) (w.alloc (.cells (ZE c.toNat (zc j.zero)).toArray e)):=by
   have Y:(typeInfo e).run P w=.ok n w:=by simp[typeInfo,q]
   have s:(decide (c<0)||decide ((n.bytes:Int)*c>2^48)||decide (l<0)||decide (l>c))=false:=by rw[R.2.1];simp only[XC,JO];refine⟨⟨⟨by omega,?_⟩,by omega⟩,by omega⟩;rw[Int.mul_comm];omega
   simp only[execOp,Instr.makeSlice,EJ,CY E,TD.of_slice (G.trans o),EO,p.eval hx,p.eval hy,asInt,asIntOf,FX,Y,S,V,s,MV,EI,run_askRoom,xC T.ok A];by_cases m:c.toNat*j.size=0
   ·simp only[m,FO]at d
    simp only[m,FO,EJ,FX,EO];rw[d];rfl
   ·simp only[m,EI]at d
    simp only[m,EI,EJ,tY T.ok A,FX,EO];rw[d];rfl
  rw[X];have v:(zc j.zero).length=j.size:=Nat.eq_of_beq_eq_true hz;refine hK _ _ (k w.heap.size _ _ (by simp[Act.put,Z]) C (p.put (Z▸EU hd)) (hf.KA (Ext.alloc w _) _ (nD _ _) (λk hk=>?_) ?_) (hw.trans (Ext.alloc w _).toSame))
  ·obtain⟨_,a,p,rfl⟩:=eF.1 hk
   injection p with p;subst p;simp
  ·have f:∀r∈List.replicate l.toNat (zc j.zero),r.length=j.size/\∀u∈r,u.oneCell'=true:=λr X=>by obtain⟨_,rfl⟩:=List.mem_replicate.1 X;exact⟨v,λu E=>by simpa using List.all_eq_true.1 h1 u E⟩
   by_cases hc0:c=0
   ·exact⟨by simp,f,.inl ⟨by omega,by omega⟩⟩
   refine⟨by simp,f,.inr ⟨w.heap.size,_,(0,0),by omega,O,jH w _,?_,by omega,by simp only[maxLen];omega,?_,λb _ h=>by omega⟩⟩
   ·simp[zIU,v]
   ·simp only[zUp]
    rw[<-v];have:c.toNat=l.toNat+(c.toNat-l.toNat):=by omega
    rw[this,<-oh,XH];have e:l.toNat*(zc j.zero).length=((List.replicate l.toNat (zc j.zero)).flatten).length:=by simp
    rw[e];exact OU
def St.aBU[W:Walk P L K]{t:Nat}{s:IntKind}(u:Nat.blt i B=true)(v:ev I A=some (.slice Y o a7))(z:ev I x=some (.int s y))(C:As.res (Own f d7 Y o a7 h)∈F)(E:0<=y)(G:y<o)(H:xG T.tt t=some m)(c:m.desc=.slice V)(Q:xG T.tt V=some r)(R:r.size=f)(k:∀g,Y=some ⟨g,0,none⟩->St D B ((i,.pointer (some ⟨g,y.toNat*f,none⟩))::I) F (K U)):St D B I F (K (⟨some i,.indexAddr t A x,J,N,M,none⟩::U)):=
 λa w p j l q S=>by
  have d:fJ f d7 Y o a7 h (hp w):=q.res C;rcases d.2.2 with⟨b,_⟩|⟨g,X,fr,_,Z,_⟩
  ·omega
  ·subst Z
   obtain⟨dd,hu,n⟩:=T.ok.desc H;have e:(⟨g,0,none⟩:Addr).add (y.toNat*f)=⟨g,y.toNat*f,none⟩:=pL g _;refine W.val _ _ _ _ _ (wK O _) (λw' he=>?_) (k g O _ w (by simp[Act.put,p]) j (l.put (p▸EU u)) q S);simp[execOp,Instr.indexAt,l.eval v,l.eval z,asIntOf,CY hu,TD.of_slice (n.trans c),xC T.ok Q,R,E,G,e]
def zBS(a:fJ B i (some ⟨f,0,none⟩) J V h (hp D))(d:h[o]?=some e):∀b u,e[b]?=some u->D.cell? ⟨f,o*B+b,none⟩=some u:=by intro b u g;obtain⟨k,c,j⟩:=a.cell (F5 a.2.1 o e d b u g);injection c with c;injection c with c;subst c;exact j
def St.Uz[W:Walk P L K]{t p q:Nat}(b:Nat)(m:Nat.blt i B=true)(n:ev I A=some (.pointer (some ⟨d7,p,none⟩)))(s:As.res (Own V f (some ⟨d7,0,none⟩) o a7 h)∈F)(u:h[q]?=some e)(c:p=q*V+b)(v:kA T.tt t e b=some S)(k:St D B ((i,S)::I) F (K U)):St D B I F (K (⟨some i,.load t A,J,N,M,none⟩::U)):=
 λa w g d j l x=>W.val _ _ _ _ S (wK O _) (λz y=>lD T.ok (by rw[j.eval n,c]) v (zBS ((l.ext y).res (r:=Own V f (some ⟨d7,0,none⟩) o a7 h) s) u) _ _)
  (k _ w (by simp[Act.put,g]) d (j.put (g▸EU m)) l x)
def zEj{sz:Nat}:∀(rows:List (List Value)) (q:Nat) (b a:List Value),(∀r∈rows,r.length=sz)->rows[q]?=some b->a.length=sz->
  (rows.set q a).flatten=rows.flatten.take (q*sz)++a++rows.flatten.drop (q*sz+sz)
 |[],q,_,_,_,h,_=>by simp at h|r::d,0,b,a,c,h,e=>by simp at h;subst h;have:=c r (by simp);simp[<-this]|r::d,q+1,b,a,c,h,e=>by
  have g:=c r (by simp);have i:=zEj d q b a (λx j=>c x (by simp[j])) (by simpa using h) e;simp only[List.set_cons_succ,OQ,i];have f:(q+1)*sz=r.length+q*sz:=by rw[g,FU];omega
  have k:(q+1)*sz+sz=r.length+(q*sz+sz):=by rw[f];omega
  rw[f,show r.length+q*sz+sz=r.length+(q*sz+sz)by omega,XW,UC];simp[IU,MN]
def St.Dn{t q:Nat}(c:Nat)(hx:ev I A=some (.pointer (some ⟨a7,d7,none⟩)))(hy:ev I x=some S)(hD:Del F (.res (Own J V (some ⟨a7,0,none⟩) f o h)) G)(E:h[q]?=some e)(hpp:d7=q*J+c)(H:xG T.tt t=some m)(hsz:Nat.beq (zc S).length m.size=true)(h1:((zc S).all λu=>u.oneCell')=true)(hs:sN e c (zc S) some=some e6)(k:St D B I (.res (Own J V (some ⟨a7,0,none⟩) f o (h.set q e6))::G) (wpList P L Q U)):St D B I F (wpList P L Q (⟨none,.store t A x,i,N,M,none⟩::U)):=
 λa w hs' hdf ha hf hw=>GN O λK hK=>by
  have R:=hf.front hD;have W:fJ J V (some ⟨a7,0,none⟩) f o h (hp w):=hf.UW hD;obtain⟨o1,o2,o3⟩:=W;rcases o3 with⟨b,_⟩|⟨g',v,fr,s,X,hg,y,Y,hc,Z,hfz⟩
  ·have:=(FT.1 E).1
   omega
  injection X with X;injection X with X;subst X;obtain⟨hl,he⟩:=cI _ _ _ _ _ hs;injection he with he;have g:=o2 e (MQ E);have hqn:q<f:=o1▸(FT.1 E).1
  have hqs:q*J+J<=o*J:=by have:(q+1)*J<=o*J:=MR _ (by omega);rw[FU]at this;omega
  have hbox:(Box a7 V v.toList).p (hp w):=⟨_,hg,fr,by simp,λm H=>hfz m (by simpa using H)⟩;obtain⟨w',hrr,z,hb⟩:=dU (P:=P) (zc S) v.toList d7 0 w hbox (by simp only[PU,y];omega) (λu l=>by simpa using List.all_eq_true.1 h1 u l);have hz:S.cells.size=m.size:=by rw[<-aU];simpa using Nat.eq_of_beq_eq_true hsz
  have hzl:S.cells.toList=zc S:=by rw[<-aU]
  unfold Oper.wp
  have hr2:(execOp a.eval ⟨none,.store t A x,i,N,M,none⟩).run P w=.ok .skip w':=by simp[execOp,Instr.storeAt,ha.eval hx,ha.eval hy,Instr.sureAddr,storeVar,xC T.ok H,hz,hzl,hrr]
  rw[hr2];have hbk:[a7]=(Own J V (some ⟨a7,0,none⟩) f o h).gs:=(zGH s).symm;refine hK _ _ (k _ _ hs' hdf ha.PV (R.exchange (hbk▸z) (nD _ _) (λj hj=>?_) ?_) (hw.trans z.toSame))
  ·exact⟨GV (R.lt (by simp only[yU,As.gs,DW];exact .inl hj)) z.size,.inl hj⟩
  ·have n:e6.length=J:=by rw[<-he];simp only[ER,DV,EM,g.1]at hl⊢;omega
   obtain⟨d,ho,fr',rfl,hfz'⟩:=hb;refine⟨by simp[o1],λr C=>?_,.inr ⟨a7,_,fr',s,O,ho,?_,Y,hc,?_,λm H=>hfz' m (by simpa using H)⟩⟩
   ·rcases TR C with b|b
    ·exact o2 r b
    ·subst b
     refine⟨n,λu l=>?_⟩;rw[<-he]at l;simp only[DW]at l;rcases l with(l|l)|l
     ·exact g.2 u (OE l)
     ·simpa using List.all_eq_true.1 h1 u l
     ·exact g.2 u (XD l)
   ·simp only[NM,ER,DV,EM,PU,y]
    omega
   ·rw[zEj h q e e6 (λr C=>(o2 r C).1) E n,<-Z]
    simp only[LH]
    have hrc:∀k u,e[k]?=some u->v.toList[q*J+k]?=some u:=λk u l=>by
     have h3:=F5 o2 q e E k u l;rw[<-Z,LQ]at h3;split at h3
     ·exact h3
     ·cases h3
    have aMc:q*J+J<=f*J:=by have:(q+1)*J<=f*J:=MR _ (by omega);rw[FU]at this;omega
    have aMd:f*J<=o*J:=MR _ Y;apply FW;intro k;rw[<-he,hpp];simp only[LQ,NU,ER,DV,EM,PU,y,g.1,MW];have e1:min (q*J+c) (o*J)=q*J+c:=by omega
    have e2:min (q*J) (min (f*J) (o*J))=q*J:=by omega
    have e3:min c J=c:=by omega
    rw[e1,e2,e3];by_cases k1:k<q*J
    ·simp only[show k<f*J by omega,show k<q*J+c+(zc S).length by omega,show k<q*J+c by omega,show k<q*J+(c+(zc S).length+(J-(c+(zc S).length)))by omega,k1,FO]
    ·by_cases k2:k<q*J+c
     ·simp only[show k<f*J by omega,show k<q*J+c+(zc S).length by omega,k2,show k<q*J+(c+(zc S).length+(J-(c+(zc S).length)))by omega,k1,show k-q*J<c+(zc S).length by omega,show k-q*J<c by omega,FO,EI]
      have hk2:k-q*J<e.length:=by omega
      have:=hrc (k-q*J) _ (CJ hk2);rw[show q*J+(k-q*J)=k by omega]at this;rw[this,CJ hk2]
     ·by_cases k3:k<q*J+c+(zc S).length
      ·simp only[show k<f*J by omega,k3,k2,show k<q*J+(c+(zc S).length+(J-(c+(zc S).length)))by omega,k1,show k-q*J<c+(zc S).length by omega,show¬(k-q*J<c)by omega,FO,EI]
       congr 1;omega
      ·by_cases k4:k<q*J+J
       ·simp only[show k<f*J by omega,k3,k2,show k<q*J+(c+(zc S).length+(J-(c+(zc S).length)))by omega,k1,show¬(k-q*J<c+(zc S).length)by omega,FO,EI]
        have hk4:c+(zc S).length+(k-q*J-(c+(zc S).length))<e.length:=by omega
        have:=hrc _ _ (CJ hk4);rw[CJ hk4,<-this];congr 1;omega
       ·simp only[k3,show¬(k<q*J+(c+(zc S).length+(J-(c+(zc S).length))))by omega,EI]
        by_cases k5:k<f*J
        ·simp only[k5,FO]
         rw[AQ (by omega)];congr 1;omega
        ·simp only[k5,EI]
         rw[AP (by omega)]
end
def sub(c:List H)(a b:Int):Option (List H):=if 0<=a/\a<=b/\b<=c.length then some ((c.take b.toNat).drop a.toNat)else none
def JA(s:ByteArray)(i:Int):Option Int:=if 0<=i then(s[i.toNat]?).map λb=>(b.toNat:Int)else none
def iR(a:List Int):ByteArray:=⟨(a.map λn=>UInt8.ofNat n.toNat).toArray⟩
def iB(s:ByteArray):List Int:=s.toList.map λb=>(b.toNat:Int)
def app(b:Nat)(a c:List H):Option (List H):=if(a.length+c.length)*b<=140737488355328/\a.length+c.length<=9223372036854775807 then some (a++c)else none
def uF(a:List H)(i:Int)(y:H):Option (List H):=if 0<=i/\i<a.length then some (a.set i.toNat y)else none
def mkS(b:Nat)(z:H)(l c:Int):Option (List H):=if 0<=l/\l<=c/\c*b<=281474976710656/\c<=9223372036854775807 then some (List.replicate l.toNat z)else none
def Je(k:IntKind)(x y:Int):Option Int:=if y=0 then none else some (k.wrap (x.tdiv y))
def Qr(x y:Int):Option Int:=if y=0 then none else some (x.tmod y)
def cK(k:IntKind)(x y:Int):Option Int:=if y<0 then none else some (cB k x y)
def Dp(k:IntKind)(x y:Int):Option Int:=if y<0 then none else some (sI k x y)
def bnd(x:Option H)(f:H->Option w):Option w:=match x with|some a=>f a|none=>none
def jk{x:Option H}{f:H->Option w}{r:w}(h:bnd x f=some r):∃a,x=some a/\f a=some r:=by
 cases x with
 |none=>cases h|some a=>exact⟨a,O,h⟩
def cH{r:H}(a:b8=true)(h:(bif b8 then q else d4)=r):q=r:=by subst a;exact h
def cE{r:H}(a:b8=false)(h:(bif b8 then q else d4)=r):d4=r:=by subst a;exact h
variable{d5:List H}
def Qs(h:sub W y b9=some d5):0<=y/\y<=b9/\b9<=W.length/\d5=(W.take b9.toNat).drop y.toNat:=by
 unfold sub at h;split at h
 ·rename_i a;injection h with h;exact⟨a.1,a.2.1,a.2.2,h.symm⟩
 ·cases h
def Qu(h:sub W y b9=some d5):(d5.length:Int)=b9-y:=by obtain⟨a,b,c,rfl⟩:=Qs h;simp only[EM,DV];omega
section
variable[T:GZ P]
def St.val[W:Walk P L K]{v:Value}(f:Nat.blt i B=true)(g:∀a w,At a I->Sat F w->(execOp a.eval ⟨some i,b7,J,N,M,none⟩).run P w=.ok (.value v) w)(k:St D B ((i,v)::I) F (K U)):St D B I F (K (⟨some i,b7,J,N,M,none⟩::U)):=
 λa w c b d e h=>W.val _ _ _ _ v (wK O _) (λj l=>g a j d (e.ext l)) (k _ w (by simp[Act.put,c]) b (d.put (c▸EU f)) e h)
def St.quo[W:Walk P L K]{t c:Nat}{k:IntKind}{x y z:Int}{a b:Operand}(d:Nat.blt i B=true)(e:ev I a=some (.int k x))(hy:ev I b=some (.int k y))(h:Je k x y=some z)(f:St D B ((i,.int k z)::I) F (K U)):St D B I F (K (⟨some i,.binOp .quo t a b c,J,N,M,none⟩::U)):=
 St.p d (by
  unfold Je at h;split at h
  ·cases h
  ·rename_i g;injection h with h;subst h;simp[ZM,e,hy,Jd,Un,g]) f
def St.rem[W:Walk P L K]{t c:Nat}{k:IntKind}{x y z:Int}{a b:Operand}(d:Nat.blt i B=true)(e:ev I a=some (.int k x))(hy:ev I b=some (.int k y))(h:Qr x y=some z)(f:St D B ((i,.int k z)::I) F (K U)):St D B I F (K (⟨some i,.binOp .rem t a b c,J,N,M,none⟩::U)):=
 St.p d (by
  unfold Qr at h;split at h
  ·cases h
  ·rename_i g;injection h with h;subst h;simp[ZM,e,hy,Jd,Un,g]) f
def St.shl[W:Walk P L K]{t c:Nat}{k d:IntKind}{x y z:Int}{a b:Operand}(e:Nat.blt i B=true)(f:ev I a=some (.int k x))(hy:ev I b=some (.int d y))(h:cK k x y=some z)(g:St D B ((i,.int k z)::I) F (K U)):St D B I F (K (⟨some i,.binOp .shl t a b c,J,N,M,none⟩::U)):=
 St.p e (by
  unfold cK at h;split at h
  ·cases h
  ·rename_i j;injection h with h;subst h;simp[ZM,f,hy,Jd,Ky,j]) g
def St.shr[W:Walk P L K]{t c:Nat}{k d:IntKind}{x y z:Int}{a b:Operand}(e:Nat.blt i B=true)(f:ev I a=some (.int k x))(hy:ev I b=some (.int d y))(h:Dp k x y=some z)(g:St D B ((i,.int k z)::I) F (K U)):St D B I F (K (⟨some i,.binOp .shr t a b c,J,N,M,none⟩::U)):=
 St.p e (by
  unfold Dp at h;split at h
  ·cases h
  ·rename_i j;injection h with h;subst h;simp[ZM,f,hy,Jd,Ky,j]) g
def St.JA[W:Walk P L K]{t:Nat}{c:TI}{s:ByteArray}{l:IntKind}{q z:Int}{f g:Operand}(m:Nat.blt i B=true)(n:ev I f=some (.string s))(hy:ev I g=some (.int l q))(o:xG T.tt t=some c)(d:c.desc=.string)(h:JA s q=some z)(k:St D B ((i,.int .u8 z)::I) F (K U)):St D B I F (K (⟨some i,.index t f g,J,N,M,none⟩::U)):=
 St.val m (λa w j _=>by
  unfold Go.Proofs.YtjconpohbhlcmaaGreatDoor.JA at h;split at h
  ·rename_i p
   simp only[LP]at h;obtain⟨b,r,rfl⟩:=h;obtain⟨v,u,e⟩:=T.ok.desc o;simp[execOp,j.eval n,j.eval hy,Instr.index,asIntOf,CY u,TD.of_string (e.trans d),p,r]
  ·cases h) k
def sE(b:Env)(a:Int):Option Operand->Option Int
 |none=>some a|some x=>match ev b x with|some (.int _ n)=>some n|_=>none
def F6{f h:Option Operand}(j:Bool)(g:At Z I)(a:sE I 0 f=some y)(c:sE I B h=some b9)(l:0<=y)(o:y<=b9)(r:b9<=B)(s:B<=i)(w:World):(Instr.sliceBounds j B i (f.map Z.eval) (h.map Z.eval) none).run P w=.ok (y.toNat,b9.toNat,i) w:=by
 cases h with
 |none=>
  simp only[sE]at c;injection c with c;subst c;cases f with
  |none=>
   simp only[sE]at a;injection a with a;subst a;simp[Instr.sliceBounds]
  |some x=>
   simp only[sE]at a;split at a
   ·rename_i p n k
    injection a with a;subst a;simp[Instr.sliceBounds,Instr.sliceBound,asIntOf,g.eval k,l,o]
   ·cases a
 |some b=>
  simp only[sE]at c;split at c
  ·rename_i p m hy
   injection c with c;subst c;have d:0<=m:=by omega
   have e:m<=(i:Int):=by omega
   cases f with
   |none=>
    simp only[sE]at a;injection a with a;subst a;simp[Instr.sliceBounds,Instr.sliceBound,asIntOf,g.eval hy,d,e]
   |some x=>
    simp only[sE]at a;split at a
    ·rename_i q n k
     injection a with a;subst a;have:n<=max m 0:=by omega
     simp[Instr.sliceBounds,Instr.sliceBound,asIntOf,g.eval k,g.eval hy,d,e,l,this]
    ·cases a
  ·cases c
theorem NG.sub{k:Type}{E:JL k}{A:Option Addr}{c:Nat}{l o:List k}{d p:Int}{m:Hp}(h:NG E A c l m)(q:sub l d p=some o):NG E (if c=d.toNat then A else A.map (·.add (d.toNat*E.n))) (c-d.toNat) o m:=by
 obtain⟨B,C,D,rfl⟩:=Qs q;obtain⟨F,G,r,s⟩:=h;refine⟨by simp only[EM,DV];omega,by omega,?_,?_⟩
 ·intro g
  have:A=none:=by
   split at g
   ·exact g
   ·simpa using g
  rw[r this];simp
 ·intro H a j x f
  rw[MW,LQ]at f;split at f
  ·rename_i I
   cases A with
   |none=>split at a<;>cases a|some b=>
    obtain⟨J,t,v,w⟩:=s b rfl _ x f;have y:=(FT.1 f).1;rw[AP (by omega)]at a;simp only[DR]at a;injection a with a;have e:b.add (d.toNat*E.n)=⟨b.block,b.off+d.toNat*E.n,none⟩:=by unfold Addr.add;split<;>(cases b;simp_all)
    rw[e]at a;subst a;refine⟨O,t,v,λi u z=>?_⟩;rw[<-w i u z];congr 1;simp only[FU];omega
  ·cases f
def St.sub[W:Walk P L K]{C:Type}{E:JL C}{t e:Nat}{b j:TI}{A:Option Addr}{n c:Nat}{r g:List C}{G H:Option Operand}{l h:Int}{Q:Operand}(X:Nat.blt i B=true)(Y:ev I Q=some (.slice A n c))(R:As.ro (Sl E A c r)∈F)(o:n=r.length)(Z:sE I 0 G=some l)(hh:sE I (n:Int) H=some h)(s:xG T.tt t=some b)(d:b.desc=.slice e)(hj:xG T.tt e=some j)(hn:j.size=E.n)(hz:sub r l h=some g)(k:∀S V,St D B ((i,.slice S g.length V)::I) (.ro (Sl E S V g)::F) (K U)):St D B I F (K (⟨some i,.slice t Q G H none,J,N,M,none⟩::U)):=
 λa w u f m p x=>by
  obtain⟨h0,h1,h2,_⟩:=Qs hz;have hyl:=Qu hz;have y:NG E A c r (KO (yU F) w):=p.ro R;have q:=y.1;subst o;have Dq:g.length=h.toNat-l.toNat:=by omega
  refine St.val (F:=F) X (v:=.slice (if c=l.toNat then A else A.map (·.add (l.toNat*E.n))) g.length (c-l.toNat)) (λa w' m _=>?_)
   (λa w u f m p x=>k _ _ a w u f m (p.IW (Sl E _ _ g) (NG.sub (p.ro R) hz)) x) a w u f m p x
  obtain⟨dd,hu,z⟩:=T.ok.desc s;have hb:=F6 (P:=P) true m Z hh h0 h1 h2 q w';simp[execOp,Instr.sliceAt,Instr.slice,m.eval Y,CY hu,TD.of_slice (z.trans d),hb,xC T.ok hj,hn,Dq]
def zUM{a:List Int}(e:ZN P 1 (.slice Y a.length B) a.length (a.map (Be .u8)).flatten D):(Conv.bytesToString (.slice Y a.length B)).run P D=.ok (.string (iR a)) D:=by
 have b:(a.map (Be .u8)).flatten=a.map (Value.int .u8):=by
  induction a with
  |nil=>rfl|cons x r d=>
   have:(r.map (Be .u8)).flatten=r.map (Value.int .u8):=by
    clear d e;induction r with
    |nil=>rfl|cons y r d=>simp[Be,d]
   simp[Be,this]
 have c:=e.2.2.2 D O;cases Y with
 |none=>
  have:a=[]:=by
   have h:=c;simp only[Builtin.firstCells,FX,Result.ok.injEq]at h;have f:=congrArg Array.toList h.1;rw[b]at f;cases a with
   |nil=>rfl|cons x r=>simp at f
  subst this;rfl
 |some g=>
  simp only[Builtin.firstCells,Nat.mul_one]at c;rw[b]at c;rw[run_bytesToString D g a.length B a c,foldl_push_bytes];simp[iR,ByteArray.empty,ByteArray.emptyWithCapacity];rfl
def St.Dt[W:Walk P L K]{t:Nat}{l:TI}{c:List Int}(v:Nat.blt i B=true)(x:ev I A=some (.slice Y o a7))(d:o=c.length)(y:xG T.tt V=some m)(b:m.desc=.slice f)(z:xG T.tt f=some r)(g:r.desc=.int .u8)(C:xG T.tt t=some l)(h:l.desc=.string)(e:∀w,Sat F w->ZN P 1 (.slice Y c.length a7) c.length (c.map (Be .u8)).flatten w)(k:St D B ((i,.string (iR c))::I) F (K U)):St D B I F (K (⟨some i,.convert V t A,J,N,M,none⟩::U)):=
 St.val v (λa w E G=>by obtain⟨H,j,n⟩:=T.ok.desc y;obtain⟨Q,p,q⟩:=T.ok.desc z;obtain⟨R,s,u⟩:=T.ok.desc C;subst d;have:=qm (P:=P) w V t f Y c.length a7 (TD.of_slice (n.trans b)▸j) (TD.of_int (q.trans g)▸p) (TD.of_string (u.trans h)▸s);simp only[execOp,E.eval x,EJ,this,zUM (e w G),EO,FX]) k
def St.fact{φ:Prop}(h:∀w,Sat F w->φ)(k:φ->St D B I F X):St D B I F X:=λa w d b e c f=>k (h w c) a w d b e c f
def St.Lm{ε:Type}(b:ε->Env)(c:ε->List As)(f:St D B I F (d0.wp P (Exit.then (λa w=>∃e,a.tmps.size=B/\a.defers=[]/\At a (b e)/\Sat (c e) w/\Same D w) Q)))(g:∀e,St D B (b e) (c e) X):St D B I F (d0.wp P (Exit.then X Q)):=
 λa w h i j k l=>wp_mono (f a w h i j k l) λe m n d=>by
  cases e with
  |normal=>
   obtain⟨e,o,p,q,r,s⟩:=d;exact g e m n o p q r s
  |_=>exact d
def St.VH{b:H->Env}{d:H->List As}(e:H)(c:iq (b e) I)(f:∀w,Sat F w->Sat (d e) w):St D B I F (λa w=>∃e,a.tmps.size=B/\a.defers=[]/\At a (b e)/\Sat (d e) w/\Same D w):=
 λ_ w g h i j k=>⟨e,g,h,i.sub c,f w j,k⟩
def Sat.Du{E:JL H}{xs:List H}(a:Sat (.res (Own E.n B Y i J h)::F) D)(s:xs.length=i)(e:∀m,(∀r∈F,∀q,r=As.ro q->q.p m)->Aa E xs h m):Sat (.ro (Sl E Y J xs)::F) D:=by
 have c:fJ E.n B Y i J h (hp D):=(a.all _ (DZ ..)).2.1;have f:=LU.1 a.nodup;have l:=a.tail;refine l.IW (Sl E Y J xs) (c.sl xs s _ (λk t=>?_) (λj x o=>?_))
 ·unfold KO hp
  rw[AP (λu=>f.2.2 k t k u O)]
 ·have b:=e (KO (yU F) D) (λr e q v=>by subst v;exact l.all _ e)
  have g:=(FT.1 o).1;have d:j<h.length:=by rw[b.1];exact g
  exact⟨h[j],CJ d,b.2 j x _ o (CJ d)⟩
def zTw{enc:H->List Value}{a:∀x,(enc x).length=B}{b:∀x,∀u∈enc x,u.oneCell'=true}(c:List H)(m:Hp):Aa (JL.flat B enc a b) c (c.map enc) m:=
 ⟨by simp,λj x r e d=>by show r=enc x;simp[IJ,e]at d;exact d.symm⟩
def Sat.Gw{enc:H->List Value}{hlen:∀x,(enc x).length=B}{hone:∀x,∀u∈enc x,u.oneCell'=true}(h:Sat (.res (Own B i Y W.length J (W.map enc))::F) D):Sat (.ro (Sl (JL.flat B enc hlen hone) Y J W)::F) D:=
 Sat.Du (E:=JL.flat B enc hlen hone) h O λm _=>zTw W m
end
inductive mA:List As->List As->Prop
 |z {F:List As}:mA F F
 |k {F G:List As} {x:As} (h:mA F G):mA (x::F) (x::G)
 |d {F G:List As} {x:As} (h:mA F G):mA (x::F) G
def mA.mem(h:mA F G):∀x∈G,x∈F:=by
 induction h with
 |z=>exactλ_ h=>h|k _ b=>
  intro x a;cases a with
  |head=>exact DZ ..|tail _ a=>exact EX _ (b x a)
 |d _ b=>exactλx a=>EX _ (b x a)
def mA.sub(h:mA F G):(yU G).Sublist (yU F):=by
 induction h with
 |z=>exact List.Sublist.refl _|k _ a=>exact(List.Sublist.refl _).append a|d _ a=>exact a.trans (List.sublist_append_right _ _)
def mA.sat(h:mA F G)(a:Sat F D):Sat G D:=a.NZ (h.sub.nodup a.nodup) h.mem
variable{d9:H->Option (wZ H w)}
def zTe{b:w}(h:∃n,WA d9 (n+1) q=some b):∃st,d9 q=some st/\∀t,st=.done t->b=t:=by
 obtain⟨n,a⟩:=h;simp only[WA]at a;split at a
 ·rename_i f c;exact⟨_,c,λt e=>by cases e⟩
 ·rename_i t c;injection a with a;exact⟨_,c,λu d=>by injection d with d;rw[<-a,d]⟩
 ·cases a
def xX(o:H⊕w)(f:w->Option H):Option H:=match o with|.inl r=>some r|.inr s=>f s
def F7{a:List H}(h:app B W d5=some a):a=W++d5/\(W.length+d5.length)*B<=140737488355328/\W.length+d5.length<=9223372036854775807:=by
 unfold app at h;split at h
 ·rename_i b;injection h with h;exact⟨h.symm,b⟩
 ·cases h
def Qv{enc:H->List Value}(a:∀x,(enc x).length=B)(b:∀x,∀u∈enc x,u.oneCell'=true)(c:List H):∀r∈c.map enc,r.length=B/\∀u∈r,u.oneCell'=true:=λr d=>by obtain⟨x,_,rfl⟩:=FM.1 d;exact⟨a x,b x⟩
structure Enc(α:Type) where
 sz:Nat
 enc:α->List Value
 len:∀x,(enc x).length=sz
 one:∀x,∀u∈enc x,u.oneCell'=true
def DN(E:Enc H):JL H:=JL.flat E.sz E.enc E.len E.one
def zU:Enc Int:=⟨1,Be .i64,λ_=>O,λ_ u a=>by simp[Be]at a;subst a;rfl⟩
def F8:Enc Int:=⟨1,Be .u32,λ_=>O,λ_ u a=>by simp[Be]at a;subst a;rfl⟩
def BQ:Enc Int:=⟨1,Be .u8,λ_=>O,λ_ u a=>by simp[Be]at a;subst a;rfl⟩
def yC:Enc Bool:=⟨1,yAZ,λ_=>O,λ_ u a=>by simp[yAZ]at a;subst a;rfl⟩
def yBR:Enc ByteArray:=⟨1,yCi,λ_=>O,λ_ u a=>by simp[yCi]at a;subst a;rfl⟩
def zJ(E:Enc H)(e:Nat)(A:Option Addr)(c:Nat)(a:List H):ah:=Own E.sz e A a.length c (a.map E.enc)
def FB(E:Enc H)(A:Option Addr)(c:Nat)(a:List H):Ro:=Sl (DN E) A c a
inductive jl(tt:TT)(Γ:Env)(F:List As):List ResultVar->List Value->Prop
 |nil:jl tt Γ F [] []
 |tmp {t:Nat} {v:Value} {rs:List ResultVar} {vs:List Value} (h:get Γ t=some v) (k:jl tt Γ F rs vs):jl tt Γ F (.tmp t::rs) (v::vs)
 |cell {x t g t':Nat} {cs:List Value} {v:Value} {rs:List ResultVar} {vs:List Value} (h:get Γ x=some (.pointer (some ⟨g,0,none⟩))) (hm:As.res (Box g t' cs)∈F) (hv:kA tt t cs 0=some v) (k:jl tt Γ F rs vs):jl tt Γ F (.cell x t::rs) (v::vs)
variable{e4:List ResultVar}{b0:Enc H}
section
variable[T:GZ P]
def jl.run{a:Act}{w:World}(c:At a I)(d:Sat F w):∀{f:List ResultVar} {j:List Value},jl T.tt I F f j->(f.mapM (Lh a.tmps):Sem (List Value)).run P w=.ok j w
 |_,_,.nil=>rfl|_,_,.tmp (t:=t) (v:=v) h k=>by
  have e:a.tmps.getD t undef=v:=by simp[c t _ h]
  rw[UJ];simp only[EJ,Lh,e,FX,EO,jl.run c d k]
 |_,_,.cell (x:=x) (t:=t) (g:=g) h hm hv k=>by
  have e:a.tmps.getD x undef=.pointer (some ⟨g,0,none⟩):=by simp[c x _ h]
  have l:=zBC (P:=P) T.ok hv (w:=w) (b:=g) (o:=0) (λi u m=>by rw[KE];exact Box.cell (d.res hm) m);simp only[LH]at l;rw[UJ];simp only[EJ,Lh,e,asAddr,FX,EO,l,jl.run c d k]
def zHD{fn:Func}(c:At Z I)(d:Sat F D)(b:fn.results=e4.toArray)(h:jl T.tt I F e4 e)(a:xw e=some S):(results fn Z.tmps).run P D=.ok S D:=by
 rw[zLc,b,XP,EJ,YZ,jl.run c d h];simp only[EO];cases e with
 |nil=>simp[xw]at a;subst a;simp|cons x r=>
  cases r with
  |nil=>simp[xw]at a;subst a;simp|cons y r=>simp[xw]at a;subst a;simp
def St.TP{Post:Value->List As->Prop}{fn:Func}(a:fn.results=e4.toArray)(f:jl T.tt I F e4 e)(g:xw e=some S)(b:List As)(hp:Post S b)(h:∀w,Sat F w->Sat (b++G) w):St D B I F (bodyPost P fn (Out D G Post) .ret):=
 λ_ w _ c i d j=>(zBW S (zHD i d a f g) c ⟨S,b,O,hp,h w d,j⟩).1
def St.VI{Post:Value->List As->Prop}{fn:Func}(a:fn.results=e4.toArray)(f:jl T.tt I F e4 e)(g:xw e=some S)(b:List As)(hp:Post S b)(h:∀w,Sat F w->Sat (b++G) w):St D B I F (bodyPost P fn (Out D G Post) .normal):=
 λ_ w _ c i d j=>(zBW S (zHD i d a f g) c ⟨S,b,O,hp,h w d,j⟩).2
def St.Dv[a:Walk P L K]{E:Enc H}{t:Nat}{e:IntKind}(hy:CO W y=some q)(h:Nat.blt i B=true)(j:ev I A=some (.slice Y f o))(l:ev I x=some (.int e y))(n:As.ro (FB E Y o W)∈F)(d:f=W.length)(p:xG T.tt t=some m)(c:m.desc=.slice V)(s:xG T.tt V=some r)(u:r.size=E.sz)(k:∀b g,St D B ((i,.pointer (some ⟨b,g,none⟩))::I) (.ro (gN b g (E.enc q))::F) (K U)):St D B I F (K (⟨some i,.indexAddr t A x,J,N,M,none⟩::U)):=
 St.aBM (enc:=E.enc) (hlen':=E.len) (hone:=E.one) h j l n d hy p c s u k
def St.au[a:Walk P L K]{E:Enc H}{t:Nat}{d:IntKind}(hy:CO W y=some q)(e:Nat.blt i B=true)(h:ev I A=some (.slice Y o a7))(j:ev I x=some (.int d y))(l:As.res (zJ E f Y a7 W)∈F)(c:o=W.length)(n:xG T.tt t=some m)(b:m.desc=.slice V)(p:xG T.tt V=some r)(s:r.size=E.sz)(k:∀g,Y=some ⟨g,0,none⟩->St D B ((i,.pointer (some ⟨g,y.toNat*E.sz,none⟩))::I) F (K U)):St D B I F (K (⟨some i,.indexAddr t A x,J,N,M,none⟩::U)):=by subst c;exact St.aBU e h j l (rC hy).1 (rC hy).2.1 n b p s k
def zKl(hy:CO W y=some q):(W.map b0.enc)[y.toNat]?=some (b0.enc q):=by rw[IJ,(rC hy).2.2];rfl
def St.QT[a:Walk P L K]{t:Nat}(b:Nat)(hy:CO W y=some q)(d:Nat.blt i B=true)(e:ev I A=some (.pointer (some ⟨o,a7,none⟩)))(g:As.res (zJ b0 V (some ⟨o,0,none⟩) f W)∈F)(c:a7=y.toNat*b0.sz+b)(h:kA T.tt t (b0.enc q) b=some S)(k:St D B ((i,S)::I) F (K U)):St D B I F (K (⟨some i,.load t A,J,N,M,none⟩::U)):=
 St.Uz b d e g (zKl hy) c h k
def St.WH{t:Nat}{u:H}(a:Nat)(d:CO W y=some u)(hz:uF W y q=some d5)(e:ev I A=some (.pointer (some ⟨f,o,none⟩)))(hy:ev I x=some S)(g:Del F (.res (zJ b0 J (some ⟨f,0,none⟩) V W)) G)(b:o=y.toNat*b0.sz+a)(h:xG T.tt t=some m)(c:Nat.beq (zc S).length m.size=true)(j:((zc S).all λu=>u.oneCell')=true)(l:sN (b0.enc u) a (zc S) some=some (b0.enc q))(k:St D B I (.res (zJ b0 J (some ⟨f,0,none⟩) V d5)::G) (wpList P L Q U)):St D B I F (wpList P L Q (⟨none,.store t A x,i,N,M,none⟩::U)):=by
 refine St.Dn a e hy g (zKl d) b h c j l ?_;unfold uF at hz;split at hz
 ·injection hz with hz
  subst hz;have n:(W.map b0.enc).set y.toNat (b0.enc q)=(W.set y.toNat q).map b0.enc:=by rw[UQ]
  have p:(W.set y.toNat q).length=W.length:=by simp
  unfold zJ at k;rw[p,<-n]at k;exact k
 ·cases hz
def St.app{C:Type}{E:Enc C}{t H e m c n:Nat}{a i2 j:TI}{s x:Operand}{A:Option Addr}{K:Value}{b:Nat}{p f q:List C}(hz:app b p f=some q)(R:Nat.blt i B=true)(S:ev I s=some (.slice A n c))(V:ev I x=some K)(W:Del F (.res (zJ E e A c p)) G)(g:n=p.length)(X:xG T.tt t=some a)(d:a.desc=.slice e)(Y:xG T.tt e=some j)(r:j.size=E.sz)(u:j.bytes=b)(v:Nat.beq (zc j.zero).length E.sz=true)(Z:m=f.length)(h:∀w,Sat F w->ZN P E.sz K m (f.map E.enc).flatten w)(y:xG T.tt H=some i2)(z:Lj i2.desc=true)(k:∀l o,St D B ((i,.slice l q.length o)::I) (.res (zJ E e l o q)::G) (wpList P L Q U)):St D B I F (wpList P L Q (⟨some i,.call {callee:=.builtin .append,args:=#[s,x],argTypes:=#[t,H]},J,N,M,none⟩::U)):=by
 obtain⟨rfl,h2,h3⟩:=F7 hz;subst g;subst Z;subst u;refine St.append (f.map E.enc) R S V W X d Y r v h O (by simp) (Qv E.len E.one f) (by simpa[maxLen]using h3) h2 y z λl o=>?_
 have:=k l o;unfold zJ at this;simpa using this
def lI{E:Enc H}(a:As.ro (FB E Y B W)∈F):∀w,Sat F w->ZN P E.sz (.slice Y W.length B) W.length (W.map E.enc).flatten w:=
 yBH (enc:=E.enc) (hlen:=E.len) (hone:=E.one) a
def jC(c:As.res (Box B i e)∈F)(a:(W.map b0.enc).flatten=e)(d:J=W.length):∀w,Sat F w->ZN P b0.sz (.slice (some ⟨B,0,none⟩) J V) J (W.map b0.enc).flatten w:=by subst a;subst d;have h:=Qv b0.len b0.one W;refine zTO c (by rw[uZ h];simp) ?_;rw[List.all_eq_true];intro u f;obtain⟨r,g,b⟩:=UA.1 f;exact(h r g).2 u b
def yCH(s:ByteArray):∀w,Sat F w->ZN P 1 (.string s) s.size ((iB s).map BQ.enc).flatten w:=by
 intro w a;have h:=yAn (P:=P) s w a
 have e:((iB s).map BQ.enc).flatten=Qq s:=by
  unfold iB Qq;generalize s.toList=l;induction l with
  |nil=>rfl|cons x r b=>simp only[GY,OQ,b];rfl
 rw[e];exact h
def Sat.GI(h:Sat F D)(E:Enc H)(e:Nat):Sat (.res (zJ E e none 0 [])::F) D:=h.Gv E.sz e
def Sat.KX{E:Enc H}{e:Nat}(a:List H)(b:(a.map E.enc).flatten=e6)(c:Nat.ble a.length 16777216=true)(h:Sat (.res (Box B e e6)::F) D):Sat (.res (zJ E e (some ⟨B,0,none⟩) a.length a)::F) D:=
 Sat.yg b (by simp) (Qv E.len E.one a) (by have:=EU c;simp only[maxLen];omega) h
def Sat.CZ(h:Sat (.res (zJ b0 B Y i W)::F) D):Sat (.ro (FB b0 Y i W)::F) D:=
 Sat.Gw (enc:=b0.enc) (hlen:=b0.len) (hone:=b0.one) h
def Sat.BR(h:Sat F D)(E:JL H):Sat (.ro (Sl E none 0 [])::F) D:=
 h.IW (Sl E none 0 []) ⟨by simp,by simp[maxLen],λ_=>O,λa h=>by cases h⟩
def zJ.sl{b:Type}{E:Enc b}{e c:Nat}{A:Option Addr}{a:List b}{w:World}(h:Sat F w)(d:As.res (zJ E e A c a)∈F):(FB E A c a).p (hp w):=
 fJ.sl (E:=DN E) (h.res d) a O (hp w) (λ_ _=>O) λj x f=>⟨E.enc x,by rw[IJ,f];rfl,O⟩
def St.iy{E:Enc H}{t:Nat}(z:H)(a:mkS f z y b9=some W)(j:Nat.blt i B=true)(l:ev I A=some (.int .i64 y))(hy:ev I x=some (.int .i64 b9))(n:xG T.tt t=some m)(b:m.desc=.slice V)(o:xG T.tt V=some r)(c:r.size=E.sz)(h:r.bytes=f)(hz:zc r.zero=E.enc z)(d:Nat.blt 0 r.size=true)(k:∀g,St D B ((i,.slice (some ⟨g,0,none⟩) W.length b9.toNat)::I) (.res (zJ E V (some ⟨g,0,none⟩) b9.toNat W)::F) (wpList P L Q U)):St D B I F (wpList P L Q (⟨some i,.makeSlice t A x,J,N,M,none⟩::U)):=by
 unfold mkS at a;split at a
 ·rename_i e
  injection a with a;subst a;subst h;refine St.makeSlice j l hy n b o (by rw[hz,E.len,c];simp) d ?_ e.1 e.2.1 e.2.2.1 e.2.2.2 λg=>?_
  ·rw[hz,List.all_eq_true];exact E.one z
  ·have:=k g
   unfold zJ at this;rw[hz,c];simpa using this
 ·cases a
def St.prune{Γ':Env}(a:iq Γ' I)(b:mA F G)(h:St D B Γ' G X):St D B I F X:=St.weak a (λ_ w=>b.sat w) h
def St.Lp{σ ε:Type}(c:σ->ε->Env)(d:σ->ε->List As)(b:σ->Prop)(g:St D B I F (d0.wp P (Exit.then (λa w=>∃s e,b s/\a.tmps.size=B/\a.defers=[]/\At a (c s e)/\Sat (d s e) w/\Same D w) Q)))(h:∀s e,b s->St D B (c s e) (d s e) X):St D B I F (d0.wp P (Exit.then X Q)):=
 λa w i j k l m=>wp_mono (g a w i j k l m) λe n o f=>by
  cases e with
  |normal=>
   obtain⟨s,e,p,q,r,t,u,v⟩:=f;exact h s e p n o q r t u v
  |_=>exact f
def St.EK{f:Env}{c:H->w->Env}{g:H->w->List As}{I:H->Prop}(s:H)(e:w)(h:I s)(d:iq (c s e) f)(i:∀b,Sat F b->Sat (g s e) b):St D B f F (λa b=>∃s e,I s/\a.tmps.size=B/\a.defers=[]/\At a (c s e)/\Sat (g s e) b/\Same D b):=
 λ_ b j k l m n=>⟨s,e,h,j,k,l.sub d,i b m,n⟩
end
def tO{a b:Type}(c:a->a->Bool):List (a×b)->a->Option b
 |[],_=>none|x::r,k=>bif c k x.1 then some x.2 else tO c r k
def iH{a b:Type}(c:a->a->Bool):List (a×b)->a->b->List (a×b)
 |[],k,v=>[(k,v)]|x::r,k,v=>bif c k x.1 then(k,v)::r else x::iH c r k v
structure kZ(α:Type) where
 v:α->Value
 eq:α->α->Bool
 td:TD
 same:∀(d:TypeDesc) (a b:α),TD.of d=td->Instr.sameNow d (v a) (v b)=some (eq a b)
 stay:∀a b,eq a b=true->Instr.sameBits 10000 (v b) (v a)=true
 plain:∀(P:Program) (t:Nat) (d:TypeDesc) (e:Bool) (a:α) (w:World),P.underlying t=some d->TD.of d=td->(Instr.checkKey e 10000 t (v a)).run P w=.ok () w
def zWC(n:Nat)(k:IntKind)(h:y=b9):Instr.sameBits (n+1) (.int k y) (.int k b9)=true:=by subst h;simp[Instr.sameBits]
def zVB(e:Bool)(n:Nat){t:Nat}{k:IntKind}(h:P.underlying t=some (.int k))(a:Int)(w:World):(Instr.checkKey e (n+1) t (.int k a)).run P w=.ok () w:=by simp[Instr.checkKey,CY h]
def cL{a:Array MapEntry}(b:D.heap[B]?=some (.map a i)):(getObj B).run P D=.ok (.map a i) D:=by simp[getObj,Sem.run,b]
def zKQ{a:Array MapEntry}(o:Obj)(b:D.heap[B]?=some (.map a i)):(setObj B o).run P D=.ok () {D with heap:=D.heap.setIfInBounds B o}:=by simp[setObj,Sem.run,b]
def zMY(t:TypeId)(w:World):(Instr.makeMap t none).run P w=.ok (.map (some w.heap.size)) (w.alloc (.map #[] 0)):=rfl
def yW(k:IntKind):kZ Int where
 v:=.int k
 eq a b:=a==b
 td:=.int k
 same d a b h:=by rw[TD.of_int h];simp[Instr.sameNow]
 stay a b h:=by exact zWC 9999 k (eq_of_beq h).symm
 plain P t d e a w h hd:=by have:=TD.of_int hd;subst this;exact zVB e 9999 h a w
def Bg(K:kZ H)(a:w->Value)(m:List (H×w)):List (Value×Value):=m.map λx=>(K.v x.1,a x.2)
def iU(K:kZ H)(vv:w->Value)(g:Nat)(m:List (H×w)):ah where
 gs:=[g]
 p h:=∃es clock,h g=some (.map es clock)/\es.toList.map (λe=>(e.key,e.val))=Bg K vv m
 loc _ _ h:=λ⟨es,cl,ho,hb⟩=>⟨es,cl,(h g (by simp)).symm.trans ho,hb⟩
def zIL{l r:Type}(K:kZ l)(f:r->Value){d:TypeDesc}(s:TD.of d=K.td)(k:l):∀(m:List (l×r)) (c:List MapEntry) (n:Nat),c.map (λe=>(e.key,e.val))=Bg K f m->
  (tO K.eq m k=none/\Instr.findNow d (K.v k) c n=some none/\∀v,iH K.eq m k v=m++[(k,v)])\/
  ∃i b,tO K.eq m k=some b/\Instr.findNow d (K.v k) c n=some (some (n+i,f b))/\(∃e,c[i]?=some e/\Instr.sameBits 10000 e.key (K.v k)=true)/\
   ∀v,(c.modify i λe=>{e with key:=K.v k,val:=f v}).map (λe=>(e.key,e.val))=Bg K f (iH K.eq m k v)
 |[],c,n,h=>by simp[Bg]at h;subst h;exact .inl ⟨O,O,λ_=>O⟩|x::m,[],n,h=>by simp[Bg]at h|x::m,e::c,n,h=>by
  simp only[Bg,GY,List.cons.injEq]at h;obtain⟨t,u⟩:=h;have g:e.key=K.v x.1:=congrArg Prod.fst t;have w:e.val=f x.2:=congrArg Prod.snd t;have j:=K.same d k x.1 s;cases a:K.eq k x.1
  ·rw[a]at j
   rcases zIL K f s k m c (n+1) u with⟨o,p,q⟩|⟨i,b,o,p,q,y⟩
   ·refine .inl ⟨by simp[tO,a,o],by simp[Instr.findNow,g,j,p],λv=>by simp[iH,a,q]⟩
   ·refine .inr ⟨i+1,b,by simp[tO,a,o],by simp[Instr.findNow,g,j,p];omega,by simpa using q,λv=>?_⟩
    have:=y v;simp only[Bg,iH,a,BB,GY,rq,g,w]at this⊢;rw[this]
  ·rw[a]at j
   refine .inr ⟨0,x.2,by simp[tO,a],by simp[Instr.findNow,g,j,w],⟨e,O,by rw[g];exact K.stay _ _ a⟩,λv=>?_⟩;simp only[Bg,iH,a,BD,GY,ru];exact congrArg _ u
section
variable[T:GZ P]
def St.makeMap{e f:Type}{K:kZ e}{vv:f->Value}{t:Nat}(h:Nat.blt i B=true)(k:∀g,St D B ((i,.map (some g))::I) (.res (iU K vv g [])::F) (wpList P L Q U)):St D B I F (wpList P L Q (⟨some i,.makeMap t none,J,N,M,none⟩::U)):=
 λa w c b j l m=>GN O λp n=>by
  unfold Oper.wp
  have o:(execOp a.eval ⟨some i,.makeMap t none,J,N,M,none⟩).run P w=.ok (.value (.map (some w.heap.size))) (w.alloc (.map #[] 0)):=by simp[execOp,zMY]
  rw[o];refine n _ _ (k _ _ _ (by simp[Act.put,c]) b (j.put (c▸EU h)) (l.KA (Ext.alloc w _) _ (by simp[iU]) (λk d=>by simp[iU]at d;subst d;simp) ⟨_,_,jH w _,O⟩) (m.trans (Ext.alloc w _).toSame))
def Va(b:H->Value)(z:H)(o:Option H)(a:Bool):Value:=if a then .tuple #[b (o.getD z),.bool o.isSome]else b (o.getD z)
def zEq{K:kZ H}{vv:w->Value}{t:Nat}{j l:TI}{m:List (H×w)}(z:w)(a:Bool)(E:xG T.tt t=some r)(c:r.desc=.map B i)(F:xG T.tt B=some j)(e:j.desc=K.td)(G:xG T.tt i=some l)(hz:l.zero=vv z)(k:H)(h:(iU K vv J m).p (hp D)):(Instr.lookup t (.map (some J)) (K.v k) a).run P D=.ok (Va vv z (tO K.eq m k) a) D:=by
 obtain⟨n,y,I,L⟩:=h;obtain⟨Q,f,o⟩:=T.ok.desc E;obtain⟨M,d,g⟩:=T.ok.desc F;have N:=TD.of_map (o.trans c);subst N;have A:=K.plain P B M n.isEmpty k D d (g.trans e);have q:D.heap[J]?=some (.map n y):=I;have s:=tY T.ok G D;have C:(getObj J).run P D=.ok (.map n y) D:=cL q;rcases zIL K vv (g.trans e) k m n.toList 0 L with⟨u,x,_⟩|⟨r,b,u,x,_⟩
 ·simp[Instr.lookup,CY f,C,A,Instr.findKey,CY d,x,u,s,hz,Va]
 ·simp[Instr.lookup,CY f,C,A,Instr.findKey,CY d,x,u,Va]
section
variable{X:List Oper->Act->World->Prop}
def St.lookup[W:Walk P L X]{h n:Type}{K:kZ h}{vv:n->Value}{t r e:Nat}{b j l:TI}{g:Nat}{m:List (h×n)}{x y:Operand}{d:Bool}{u:Value}(z:n)(k:h)(C:Nat.blt i B=true)(E:ev I x=some (.map (some g)))(hy:ev I y=some (K.v k))(G:As.res (iU K vv g m)∈F)(H:xG T.tt t=some b)(f:b.desc=.map r e)(Q:xG T.tt r=some j)(o:j.desc=K.td)(R:xG T.tt e=some l)(hz:l.zero=vv z)(S:Va vv z (tO K.eq m k) d=u)(c:St D B ((i,u)::I) F (X U)):St D B I F (X (⟨some i,.lookup t x y d,J,N,M,none⟩::U)):=
 λa w s p q A V=>by subst S;refine W.val _ _ _ _ _ (wK O _) (λZ Y=>?_) (c _ w (by simp[Act.put,s]) p (q.put (s▸EU C)) A V);have:=zEq (P:=P) z d H f Q o R hz k ((A.ext Y).res G);simp[execOp,q.eval E,q.eval hy,this]
end
def zLf{K:kZ H}{c:w->Value}{t:Nat}{j:TI}{m:List (H×w)}(M:xG T.tt t=some r)(f:r.desc=.map B i)(U:xG T.tt B=some j)(n:j.desc=K.td)(k:H)(v:w)(h:(iU K c J m).p (hp D)):∃a,(Instr.mapUpdate t (.map (some J)) (K.v k) (c v)).run P D=.ok () a/\oM [J] D a/\(iU K c J (iH K.eq m k v)).p (hp a):=by
 obtain⟨d,q,V,N⟩:=h;obtain⟨d1,s,z⟩:=T.ok.desc M;obtain⟨W,g,u⟩:=T.ok.desc U;have X:=TD.of_map (z.trans f);subst X;have Q:=K.plain P B W false k D g (u.trans n);have l:D.heap[J]?=some (.map d q):=V;have A:=(IX.1 l).1;have R:(getObj J).run P D=.ok (.map d q) D:=cL l
 have e:∀o:Obj,∃a,(setObj J o).run P D=.ok () a/\oM [J] D a/\hp a J=some o:=λo=>by
  refine⟨{D with heap:=D.heap.setIfInBounds J o},zKQ o l,⟨⟨O,O,O,by simp⟩,λr M S=>?_⟩,?_⟩
  ·simp only[FI]at S
   show(D.heap.setIfInBounds J o)[r]?=D.heap[r]?;rw[TQ (λh=>S h.symm)]
  ·show(D.heap.setIfInBounds J o)[J]?=some o
   simp[A]
 rcases zIL K c (u.trans n) k m d.toList 0 N with⟨Y,y,Z⟩|⟨r,b,Y,y,⟨e0,C,E⟩,g4⟩
 ·obtain⟨a,F,G,I⟩:=e (.map (d.push ⟨K.v k,c v,q⟩) (q+1))
  refine⟨a,?_,G,_,_,I,?_⟩
  ·simp[Instr.mapUpdate,CY s,R,Q,Instr.findKey,CY g,y,F]
  ·simp[N,Bg,Z v]
 ·have x:(d.modify r λi=>{i with key:=K.v k,val:=c v}).toList=d.toList.modify r λi=>{i with key:=K.v k,val:=c v}:=ve
  obtain⟨a,F,G,I⟩:=e (.map (d.modify r λi=>{i with key:=K.v k,val:=c v}) q);refine⟨a,?_,G,_,_,I,?_⟩
  ·have L:d[r]?=some e0:=by simpa using C
   simp only[KE]at y;simp[Instr.mapUpdate,CY s,R,Q,Instr.findKey,CY g,y,L,Instr.keyThatStays,E,F]
  ·rw[x];exact g4 v
def St.mapUpdate{n o:Type}{K:kZ n}{vv:o->Value}{t E e:Nat}{b j:TI}{g:Nat}{m:List (n×o)}{x y z:Operand}(k:n)(v:o)(J:ev I x=some (.map (some g)))(hy:ev I y=some (K.v k))(hz:ev I z=some (vv v))(q:Del F (.res (iU K vv g m)) G)(R:xG T.tt t=some b)(d:b.desc=.map E e)(S:xG T.tt E=some j)(r:j.desc=K.td)(c:St D B I (.res (iU K vv g (iH K.eq m k v))::G) (wpList P L Q U)):St D B I F (wpList P L Q (⟨none,.mapUpdate t x y z,i,N,M,none⟩::U)):=
 λa w V s l u W=>GN O λK' X=>by
  have A:=u.front q;have Y:(iU K vv g m).p (hp w):=u.res q.mem;obtain⟨Z,hr,f,hq⟩:=zLf (P:=P) R d S r k v Y;unfold Oper.wp
  have h:(execOp a.eval ⟨none,.mapUpdate t x y z,i,N,M,none⟩).run P w=.ok .skip Z:=by simp[execOp,l.eval J,l.eval hy,l.eval hz,hr]
  rw[h];have C:g<w.heap.size:=u.lt (cT.2 ⟨_,q.mem,by simp[As.gs,iU]⟩);refine X _ _ (c _ _ (by simpa[Act.put]using V) s (l.PV) (A.exchange f (by simp[iU]) (λk H=>?_) hq) (W.trans f.toSame));simp[iU]at H;subst H;exact⟨GV C f.size,.inl (by simp[iU])⟩
def zSy(c:Bf P c5)(d:Z.eval A=.func (.func c5) #[] e6.toArray)(a:c8.map Z.eval=e)(w:World)(b:Option Nat)(g:Option (Nat×Bool)):(execOp Z.eval ⟨b,.call {callee:=.value A,args:=c8.toArray,argTypes:=a0},B,N,M,g⟩).run P w=.ok (.enter c5 (e++e6).toArray) w:=by
 obtain⟨fn,f,h,i⟩:=GZ.he _ c;subst a
 have j:∀args:Array Value,(callFunc c5 args).run P w=.ok (.enter c5 args) w:=λargs=>by unfold callFunc;rw[EJ,UU];simp only[EO,f,h,i,MV,EI,FX]
 simp[execOp,resolve,d,Deferred.ofValue,invoke,j]
def St.ax{R:List As}{Post:Value->List As->Prop}{args us:List Value}{G:List As}(h:CW P c5 (args++us) G Post)(j:Bf P c5)(l:Nat.blt i B=true)(m:ev I A=some (.func (.func c5) #[] us.toArray))(c:evs I c8=some args)(n:∀w,Sat F w->Sat (G++R) w)(k:∀v b,Post v b->St D B ((i,v)::I) (b++R) (wpList P L Q U)):St D B I F (wpList P L Q (⟨some i,.call {callee:=.value A,args:=c8.toArray,argTypes:=a0},J,N,M,none⟩::U)):=
 λa w g d f o p=>GN O λK q=>by
  unfold Oper.wp;rw[zSy j (f.eval m) (f.QS c)];show Calls P c5 (args++us).toArray w _;refine(h w R (n w o)).mono λe x ⟨v,b,r,s,t,u⟩=>?_
  subst r;exact q _ _ (k v b s _ _ (by simp[Act.put,g]) d (f.put (g▸EU l)) t (p.trans u))
def St.rounds{c:Code}(n:Nat)(h:St D B I F (Code.rounds P c Q n)):St D B I F ((Code.loop c).wp P Q):=
 λa w b d e f g=>wp_loop_rounds n (h a w b d e f g)
def St.round(h:St D B I F (d0.wp P (Exit.then (Code.rounds P d0 Q i) Q))):St D B I F (Code.rounds P d0 Q (i+1)):=h
def wM(h:uF W y q=some d5):some (Value.slice Y W.length B)=some (Value.slice Y d5.length B):=by
 unfold uF at h;split at h
 ·injection h with h
  subst h;simp
 ·cases h
end
open Go Go.ChangeShapes Go.WideShapes Go.RowKit
def Tryz.own':ownKnob Tryz.prog.godebug=none:=by kernel_rfl
def Tryz.laid':laidOutB Tryz.prog=true:=by kernel_rfl
def zZi(h:Ext D a8)(a:MemPlace->Prop):D.keptBut a8 a:=by refine⟨h.os,h.output,λi b=>?_⟩;have:=(World.keptBut_refl D a).2.2 i b;rw[h.block i b];exact this
def zTR{w:World}:∀(a:List Ro),(∀r∈a,r.p (hp w))->Sat (a.map As.ro) w
 |[],_=>Sat.nil w|r::a,h=>by
  refine(zTR a λx b=>h x (EX _ b)).IW r ?_
  have c:yU (a.map As.ro)=[]:=eD λx b=>by obtain⟨y,_,rfl⟩:=FM.1 b;rfl
  rw[c];have:KO [] w=hp w:=by funext k;simp[KO,hp]
  rw[this];exact h r (DZ ..)
section
def zZq(h:Ext D a8){p:MemPlace}(hp:p.block<D.heap.size):D.sameAt a8 p:=by
 cases p with
 |cell b a=>exact World.cell?_of_block (h.block b hp)|map b=>exact h.block b hp
section
variable{enc:TypeId×Value->H}
def zFN(j:laidOutB P=true){W k:World}{a:Nat->Bool}:∀{b:List TypeId} {e:List Value} {f:List (DataW H)} {c:List MemPlace},(∀t∈b,P.readableRec t=true/\t<P.types.size)->
  DataW.TrodAll enc P W 0 (λ_=>true) true b e f c->(∀p∈c,W.sameAt k p)->(∀p∈c,a p.block=true)->DataW.TrodAll enc P k 0 a true b e f c
 |[],_,_,_,_,h,_,_=>by obtain⟨rfl,rfl,rfl⟩:=trodAll_nil h;rfl
 |t::b,_,_,_,l,h,m,n=>by
  obtain⟨v,e,d,f,p,q,rfl,rfl,rfl,o,r⟩:=trodAll_cons h;have g:=l t (DZ ..)
  exact⟨p,q,WideElems.Trod_stays j g.1 g.2 o (λp hp=>m p (IY _ hp)) (λp hp=>n p (IY _ hp)),
   zFN j (λt i=>l t (EX _ i)) r (λp hp=>m p (JP _ hp)) (λp hp=>n p (JP _ hp)),O⟩
end
def zXT{enc:TypeId×Value->H}(o:laidOutB P=true){f:Func}{s:ChangeSpec}{c b:Bool}{args:Array Value}{e:List (DataW H)}{a:List MemPlace}{k:TypeId}(l:s.vars=[])(r:f.resultTypes=#[k])(u:P.underlying k=some .bool)(hp:(f.params.toList.all λt=>P.readableRec t&&decide (t<P.types.size))=true)(g:s.fn H (e++[])={results:=[.lit (.bool true)],args:=e})(i:DataW.Whole enc P f.params.toList s.vars b8 D args.toList e [] a)(m:Ext D a8):s.post enc P f b8 c b false D args (.bool true) a8:=by
 have d:∀p∈a,p.block<D.heap.size:=λp hp=>i.lt p hp
 refine⟨e,[],a,[],a,[],i,?_,?_,?_,zZi m _,λh=>by cases h⟩
 ·rw[r,g]
  exact trodAll_mk1 ⟨1,by simp[DataW.trod,Value.cells,u]⟩
 ·obtain⟨p,q,v,n,rfl,_,_⟩:=i
  rw[l]at n;obtain⟨_,rfl⟩:=trodVars_none n;rw[g];simp only[MB]at d⊢;refine zFN o (λt w=>?_) v (λx j=>zZq m (d x j)) (λx j=>by simpa using d x j);have:=List.all_eq_true.1 hp t w;simpa using this
 ·rw[g,l]
  rfl
end
inductive Tg where
 |fl|fx|qc|ef
 deriving DecidableEq
structure cA where
 t:Tg
 i:Nat
 o:Oper
def Vb:Exit->Act->World->Prop:=λ_ _ _=>False
variable{e7:Act->World->Prop}{e5:Array Bool}
section
def mJ(P:Program)(ops:Array Oper)(C:World->Prop)(z:cA)(a:Act)(w:World)(K:Act->World->Prop):Prop:=
 if Region.wanted z.o (yielded ops a.tmps)=true then
  match z.t with
  |.fl=>∃v,(∀b,C b->(execOp a.eval z.o).run P b=.ok (.value v) b)/\K (a.put z.o.dst v) w|.fx=>∃v,(∀b,Ext w b->(execOp a.eval z.o).run P b=.ok (.value v) b)/\K (a.put z.o.dst v) w|.qc=>∃v f args,(∀b,C b->(execOp a.eval z.o).run P b=.ok (.enter f args) b)/\(∀b,C b->Calls P f args b λe c=>e=.returned v/\Ext b c)/\K (a.put z.o.dst v) w|.ef=>∀b,Ext w b->z.o.wp P a b (λd c=>C c/\K d c) Vb
 else K (a.put z.o.dst undef) w
inductive Tr where
 |nil
 |st (z:cA) (t:Tr)
 |alt (t u:Tr)
def KP(P:Program)(ops:Array Oper)(C:World->Prop)(Q:Act->World->Prop):Tr->Act->World->Prop
 |.nil,a,w=>∀b,Ext w b->Q a b|.st z t,a,w=>mJ P ops C z a w (KP P ops C Q t)|.alt t u,a,w=>KP P ops C Q t a w/\KP P ops C Q u a w
def Lr:∀{r:Tr} {a:Act} {w e:World},KP P L C X r a w->Ext w e->KP P L C X r a e
 |.nil,a,w,e,h,b=>λc d=>h c (b.trans d)|.alt t u,a,w,e,h,b=>⟨Lr h.1 b,Lr h.2 b⟩|.st z l,a,w,e,h,b=>by
  unfold KP mJ at h⊢;split
  ·rename_i k
   rw[AQ k]at h;cases j:z.t with
   |fl=>
    rw[j]at h;obtain⟨v,g,d⟩:=h;exact⟨v,g,Lr d b⟩
   |fx=>
    rw[j]at h;obtain⟨v,g,d⟩:=h;exact⟨v,λc i=>g c (b.trans i),Lr d b⟩
   |qc=>
    rw[j]at h;obtain⟨v,f,args,g,d,i⟩:=h;exact⟨v,f,args,g,d,Lr i b⟩
   |ef=>
    rw[j]at h;exactλc i=>h c (b.trans i)
  ·rename_i k
   rw[AP k]at h;exact Lr h b
def zXF(h:∀Z D,X Z D->e7 Z D)(a:c0.wp P Z D X Vb):c0.wp P Z D e7 Q:=by
 unfold Oper.wp at*;generalize (execOp Z.eval c0).run P D=r at*;cases r with
 |ok n g=>
  cases n<;>simp only[Oper.upon]at a⊢
  case value v=>exact h _ _ a
  case skip=>exact h _ _ a
  case defer d=>exact h _ _ a
  case enter f args=>
   refine a.mono λe b c=>?_
   cases e with
   |returned v=>exact h _ _ c|panicked k=>exact c.elim|outgrown=>obtain⟨_,_,i⟩:=c;exact i.elim
  case row r args=>exact a.mono λv b j=>h _ _ j
 |halt x g=>
  cases x<;>simp only[Oper.upon]at a⊢
  exact a.elim
def zSq{z:cA}(h:∀Z D,X Z D->e7 Z D)(a:mJ P L C z Z D X):mJ P L C z Z D e7:=by
 unfold mJ at a⊢;split
 ·rename_i e
  rw[AQ e]at a;cases d:z.t with
  |fl=>
   rw[d]at a;obtain⟨v,b,c⟩:=a;exact⟨v,b,h _ _ c⟩
  |fx=>
   rw[d]at a;obtain⟨v,b,c⟩:=a;exact⟨v,b,h _ _ c⟩
  |qc=>
   rw[d]at a;obtain⟨v,f,args,b,c,j⟩:=a;exact⟨v,f,args,b,c,h _ _ j⟩
  |ef=>
   rw[d]at a;exactλk g=>zXF (λZ D i=>⟨i.1,h Z D i.2⟩) (a k g)
 ·rename_i e
  rw[AP e]at a;exact h _ _ a
def pre:List cA->Tr->Tr
 |[],t=>t|x::a,t=>.st x (pre a t)
def F9:∀(a b:List cA) (t:Tr),pre (a++b) t=pre a (pre b t)
 |[],_,_=>rfl|x::a,b,t=>by simp[pre,F9 a b t]
def zQK{t d:Tr}(h:∀a w,KP P L C X t a w->KP P L C X d a w):∀(b:List cA) (a:Act) (w:World),KP P L C X (pre b t) a w->KP P L C X (pre b d) a w
 |[],a,w,c=>h a w c|_::b,_,_,c=>zSq (λa w=>zQK h b a w) c
def zVv{ops:Array Oper}{d:Option Tmp}(j:∀k b,c0.op≠.select k b)(l:∀t,d=some t->t∉c0.looksAt ops)(h:∀(b:Act) u c,b.tmps=Z.tmps->X ((b.put d S).put c0.dst u) c->e7 (b.put c0.dst u) c)(a:c0.wp P (Z.put d S) D X Vb):c0.wp P Z D e7 Vb:=by
 unfold Oper.wp at*;rw[SQ (ops:=ops) c0 j Z d S l]at a;generalize (execOp Z.eval c0).run P D=r at*;cases r with
 |ok n c=>
  cases n<;>simp only[Oper.upon]at a⊢
  case value u=>exact h Z u c rfl a
  case skip=>exact h Z undef c rfl a
  case defer df=>
   refine h {Z with defers:=df::Z.defers} undef c O ?_;rw[Act.put_defers]at a;exact a
  case enter f args=>
   refine a.mono λe g i=>?_
   cases e with
   |returned u=>exact h Z u g O i|panicked p=>exact i.elim|outgrown=>obtain⟨_,_,m⟩:=i;exact m.elim
  case row r args=>exact a.mono λu g o=>h Z u g rfl o
 |halt x c=>
  cases x<;>simp only[Oper.upon]at a⊢
  exact a.elim
def zVV{b:Act}(h:b.tmps=Z.tmps):b.eval=Z.eval:=by funext x;cases x<;>simp[Act.eval,h]
structure Dw(ops:Array Oper)(x z:cA):Prop where
 apart:x.o.apart ops z.o=true
 Vd:x.t≠.ef
 fl:z.t=.ef->x.t≠.fx
def zOJ{x z:cA}{b:Act}{w:World}{u:Value}(j:∀r b,x.o.op≠.select r b)(s:Dw L x z)(p:b.tmps=Z.tmps)(v:Region.wanted x.o (yielded L Z.tmps)=true)(a:(x.t=.fl/\(∀D,C D->(execOp Z.eval x.o).run P D=.ok (.value S) D))\/(x.t=.fx/\D=w/\(∀D,Ext w D->(execOp Z.eval x.o).run P D=.ok (.value S) D))\/(x.t=.qc/\∃f args,(∀D,C D->(execOp Z.eval x.o).run P D=.ok (.enter f args) D)/\(∀D,C D->Calls P f args D λe k=>e=.returned S/\Ext D k)))(i:X ((b.put x.o.dst S).put z.o.dst u) D):mJ P L C x (b.put z.o.dst u) D X:=by
 obtain⟨A,y,q⟩:=YC s.apart
 have l:execOp (b.put z.o.dst u).eval x.o=execOp Z.eval x.o:=by rw[SQ (ops:=L) x.o j b z.o.dst u q,zVV p]
 have m:Region.wanted x.o (yielded L (b.put z.o.dst u).tmps)=true:=by rw[wanted_put (ops:=L) x.o b z.o.dst u q,p];exact v
 have c:(b.put x.o.dst S).put z.o.dst u=(b.put z.o.dst u).put x.o.dst S:=Act.put_comm b S u y;rw[c]at i;unfold mJ;rw[AQ m];rcases a with⟨d,g⟩|⟨d,rfl,g⟩|⟨d,f,args,g,h⟩
 ·rw[d]
  exact⟨S,λD h=>by rw[l];exact g D h,i⟩
 ·rw[d]
  exact⟨S,λD h=>by rw[l];exact g D h,i⟩
 ·rw[d]
  exact⟨S,f,args,λD n=>by rw[l];exact g D n,h,i⟩
def zQf{x z:cA}{b:Act}{u:Value}(e:Dw L x z)(f:b.tmps=Z.tmps)(g:¬Region.wanted x.o (yielded L Z.tmps)=true)(d:X ((b.put x.o.dst undef).put z.o.dst u) D):mJ P L C x (b.put z.o.dst u) D X:=by
 obtain⟨j,h,i⟩:=YC e.apart
 have c:¬Region.wanted x.o (yielded L (b.put z.o.dst u).tmps)=true:=by rw[wanted_put (ops:=L) x.o b z.o.dst u i,f];exact g
 have a:(b.put x.o.dst undef).put z.o.dst u=(b.put z.o.dst u).put x.o.dst undef:=Act.put_comm b undef u h;rw[a]at d;unfold mJ;rw[AP c];exact d
def yBf{z:cA}{t:Tr}(m:∀E b,z.o.op≠.select E b):∀(n:List cA) (a:Act) (w:World),(∀x∈n,Dw L x z/\∀E b,x.o.op≠.select E b)->KP P L C X (pre n (.st z t)) a w->
  mJ P L C z a w (KP P L C X (pre n t))
 |[],a,w,_,h=>h|x::n,a,w,N,h=>by
  obtain⟨s,A⟩:=N x (DZ ..);obtain⟨F,R,S⟩:=YC s.apart;have I:∀y∈n,Dw L y z/\∀E b,y.o.op≠.select E b:=λy hy=>N y (EX _ hy)
  have i:∀(v:Value),KP P L C X (pre n (.st z t)) (a.put x.o.dst v) w->
    (∀(b:Act) (u:Value) (e:World),b.tmps=a.tmps->(e=w\/z.t=.ef)->KP P L C X (pre n t) ((b.put x.o.dst v).put z.o.dst u) e->mJ P L C x (b.put z.o.dst u) e (KP P L C X (pre n t)))->
    mJ P L C z a w (KP P L C X (pre (x::n) t)):=by
   intro v B c;have k:=yBf m n (a.put x.o.dst v) w I B;unfold mJ at k⊢;rw[wanted_put (ops:=L) z.o a x.o.dst v F]at k;split
   ·rename_i D
    rw[AQ D]at k;cases p:z.t with
    |fl=>
     rw[p]at k;obtain⟨u,G,j⟩:=k;exact⟨u,λe H=>by rw[<-SQ (ops:=L) z.o m a x.o.dst v F];exact G e H,c a u w O (.inl O) j⟩
    |fx=>
     rw[p]at k;obtain⟨u,G,j⟩:=k;exact⟨u,λe H=>by rw[<-SQ (ops:=L) z.o m a x.o.dst v F];exact G e H,c a u w O (.inl O) j⟩
    |qc=>
     rw[p]at k;obtain⟨u,f,args,G,J,j⟩:=k;exact⟨u,f,args,λe H=>by rw[<-SQ (ops:=L) z.o m a x.o.dst v F];exact G e H,J,c a u w O (.inl O) j⟩
    |ef=>
     rw[p]at k;exactλQ K=>zVv (ops:=L) m F (λb u e r j=>⟨j.1,c b u e r (.inr p) j.2⟩) (k Q K)
   ·rename_i D
    rw[AP D]at k;exact c a undef w O (.inl O) k
  have q:mJ P L C x a w (KP P L C X (pre n (.st z t))):=h;unfold mJ at q;by_cases l:Region.wanted x.o (yielded L a.tmps)=true
  ·rw[AQ l]at q
   cases d:x.t with
   |fl=>
    rw[d]at q;obtain⟨v,B,j⟩:=q;exact i v j λb u e r _ g=>zOJ (w:=w) A s r l (.inl ⟨d,B⟩) g
   |fx=>
    rw[d]at q;obtain⟨v,B,j⟩:=q;refine i v j λb u e r M g=>zOJ (w:=w) A s r l (.inr (.inl ⟨d,?_,B⟩)) g
    rcases M with h|h
    ·exact h
    ·exact absurd d (s.fl h)
   |qc=>
    rw[d]at q;obtain⟨v,f,args,B,J,j⟩:=q;exact i v j λb u e r _ g=>zOJ (w:=w) A s r l (.inr (.inr ⟨d,f,args,B,J⟩)) g
   |ef=>exact absurd d s.Vd
  ·rw[AP l]at q
   exact i undef q λb u e r _ g=>zQf s r l g
inductive fQ(ops:Array Oper):Nat->Nat->Prop
 |edge {i:Nat} {o:Oper} {e:Edge} (ho:ops[i]?=some o) (he:e∈o.after) (hb:Region.binds .any e=true):fQ ops i e.on
 |trans {i j k:Nat} (h:fQ ops i j) (h2:fQ ops j k):fQ ops i k
def Ve(ops:Array Oper)(listed:Array Bool):Prop:=∀i,listed.getD i false=true->∀o,ops[i]?=some o->∀e∈o.after,Region.binds .any e=true->listed.getD e.on false=true
def fQ.listed{listed:Array Bool}(a:Ve L listed):∀{i j:Nat},fQ L i j->listed.getD i false=true->listed.getD j false=true
 |_,_,.edge ho he c,b=>a _ b _ ho _ he c|_,_,.trans h d,b=>fQ.listed a d (fQ.listed a h b)
def fQ.ready{listed:Array Bool}(c:Ve L listed){z:Nat}{o:Oper}(d:L[z]?=some o)(f:∀e∈o.after,Region.binds .any e=true->listed.getD e.on false=true):∀{i j:Nat},fQ L i j->i=z->listed.getD j false=true
 |_,_,.edge a he g,b=>by subst b;rw[d]at a;injection a with a;subst a;exact f _ he g
 |_,_,.trans h k,b=>fQ.listed c k (fQ.ready c d f h b)
structure zWH(ops:Array Oper)(p q:cA):Prop where
 ne:p.i≠q.i
 Dx:∀e∈p.o.after,Region.binds .any e=true->e.on≠q.i
 rel:fQ ops q.i p.i\/Dw ops p q
structure G5(ops:Array Oper)(p:cA):Prop where
 at_:ops[p.i]?=some p.o
 WO:∀cs b,p.o.op≠.select cs b
 jm:∀e∈p.o.after,Region.binds .any e=true->e.on≠p.i/\e.on<ops.size
def jG:Tr->List (cA×Tr)
 |.nil=>[]|.st z t=>[(z,t)]|.alt t u=>jG t++jG u
def sZ:Tr->List cA
 |.nil=>[]|.st z t=>z::sZ t|.alt t u=>sZ t++sZ u
def Ac:Tr->List Nat
 |.nil=>[]|.st z _=>[z.i]|.alt t u=>Ac t++Ac u
def Fj:Tr->Nat->Prop
 |.nil,_=>False|.st z t,i=>z.i=i\/Fj t i|.alt t u,i=>Fj t i/\Fj u i
def Fp:Tr->Nat->Prop
 |.nil,n=>n=0|.st _ _,0=>False|.st _ t,n+1=>Fp t n|.alt t u,n=>Fp t n/\Fp u n
def yAU(t:Tr):Prop:=∀p∈jG t,p.1.t=.ef
def Ls(ops:Array Oper):List Nat->Tr->Prop
 |_,.nil=>True|H,.st z t=>(∀q∈sZ t,z.i≠q.i/\(∀e∈z.o.after,Region.binds .any e=true->e.on≠q.i)/\(fQ ops q.i z.i\/(z.t=.ef/\∃h∈H,h=q.i\/fQ ops q.i h)\/Dw ops z q))/\Ls ops (Ac t) t|H,.alt t u=>yAU (.alt t u)/\Ls ops H t/\Ls ops H u
def G6:∀{t:Tr} {i:Nat},i∈Ac t↔∃p∈jG t,p.1.i=i
 |.nil,i=>by simp[Ac,jG]|.st z t,i=>by simp[Ac,jG,eq_comm]|.alt t u,i=>by simp only[Ac,jG,DW,G6 (t:=t),G6 (t:=u)];exact⟨λh=>h.elim (λ⟨p,b,a⟩=>⟨p,.inl b,a⟩) λ⟨p,b,a⟩=>⟨p,.inr b,a⟩,λ⟨p,b,a⟩=>b.elim (λh=>.inl ⟨p,h,a⟩) λh=>.inr ⟨p,h,a⟩⟩
def eJ:∀{t:Tr} {z:cA} {b:Tr},(z,b)∈jG t->z∈sZ t/\∀q∈sZ b,q∈sZ t
 |.nil,_,_,h=>by cases h|.st z t,_,_,h=>by simp only[jG,FI,KD]at h;obtain⟨rfl,rfl⟩:=h;exact⟨DZ ..,λq a=>EX _ a⟩
 |.alt t u,z,b,h=>by
  rcases DW.1 h with h|h
  ·exact⟨IY _ (eJ h).1,λq a=>IY _ ((eJ h).2 q a)⟩
  ·exact⟨JP _ (eJ h).1,λq a=>JP _ ((eJ h).2 q a)⟩
def zON:∀{t:Tr} {z:cA} {b:Tr},(z,b)∈jG t->∀{a:Act} {w:World},KP P L C X t a w->KP P L C X (.st z b) a w
 |.nil,_,_,h,_,_=>by cases h|.st z t,_,_,h,_,_=>by simp only[jG,FI,KD]at h;obtain⟨rfl,rfl⟩:=h;exactλh=>h
 |.alt t u,z,b,h,a,w=>by
  intro c;rcases DW.1 h with h|h
  ·exact zON h c.1
  ·exact zON h c.2
def Vf:∀{t:Tr} {z:cA} {b:Tr} {i:Nat},(z,b)∈jG t->Fj t i->z.i=i\/Fj b i
 |.nil,_,_,_,h,_=>by cases h|.st z t,_,_,_,h,a=>by simp only[jG,FI,KD]at h;obtain⟨rfl,rfl⟩:=h;exact a
 |.alt t u,z,b,i,h,a=>by
  rcases DW.1 h with h|h
  ·exact Vf h a.1
  ·exact Vf h a.2
def zKm:∀{t:Tr} {z:cA} {b:Tr} {n:Nat},(z,b)∈jG t->Fp t n->∃m,n=m+1/\Fp b m
 |.nil,_,_,_,h,_=>by cases h|.st z t,_,_,n,h,a=>by
  simp only[jG,FI,KD]at h;obtain⟨rfl,rfl⟩:=h;cases n with
  |zero=>exact a.elim|succ n=>exact⟨n,O,a⟩
 |.alt t u,z,b,n,h,a=>by
  rcases DW.1 h with h|h
  ·exact zKm h a.1
  ·exact zKm h a.2
def Vg:∀{t:Tr} {z:cA} {a:Tr} {H:List Nat},(z,a)∈jG t->Ls L H t->(∀q∈sZ a,z.i≠q.i/\(∀e∈z.o.after,Region.binds .any e=true->e.on≠q.i)/\(fQ L q.i z.i\/(z.t=.ef/\∃h∈H,h=q.i\/fQ L q.i h)\/Dw L z q))/\Ls L (Ac a) a
 |.nil,_,_,_,h,_=>by cases h|.st z t,_,_,_,h,b=>by simp only[jG,FI,KD]at h;obtain⟨rfl,rfl⟩:=h;exact b
 |.alt t u,z,a,_,h,b=>by
  rcases DW.1 h with h|h
  ·exact Vg h b.2.1
  ·exact Vg h b.2.2
def Vh:∀{t:Tr} {i:Nat},Fj t i->∃q∈sZ t,q.i=i
 |.nil,_,h=>h.elim|.st z t,i,h=>by
  rcases h with h|h
  ·exact⟨z,DZ ..,h⟩
  ·obtain⟨q,a,b⟩:=Vh h
   exact⟨q,EX _ a,b⟩
 |.alt t u,i,h=>by obtain⟨q,a,b⟩:=Vh h.1;exact⟨q,IY _ a,b⟩
def zKp:∀{t:Tr},Fp t 0->∀i,¬Fj t i
 |.nil,_,_,h=>h|.st z t,h,_,_=>h.elim|.alt t u,h,i,a=>zKp h.1 i a.1
def zUs:∀{t:Tr},Fp t 0->∀{a:Act} {w c:World},KP P L C X t a w->Ext w c->X a c
 |.nil,_,_,_,_,h,b=>h _ b|.st z t,h,_,_,_,_,_=>h.elim|.alt t u,h,_,_,_,d,b=>zUs h.1 d.1 b
def zKo:∀{t:Tr} {n:Nat},Fp t (n+1)->∃p,p∈jG t
 |.nil,n,h=>by cases h|.st z t,n,_=>⟨(z,t),by simp[jG]⟩|.alt t u,n,h=>by obtain⟨p,hp⟩:=zKo h.1;exact⟨p,IY _ hp⟩
structure yCx(ops:Array Oper)(xs:List cA)(t:Tr)(n:Nat)(listed:Array Bool):Prop where
 len:∃m,Fp t m/\xs.length+m=n
 pw:xs.Pairwise (zWH ops)
 fr:∀x∈xs,∀q∈sZ t,zWH ops x q
 ok:Ls ops (Ac t) t
 ent:∀p∈xs++sZ t,G5 ops p
 sz:listed.size=ops.size
 all:∀i,i<ops.size->listed.getD i false=true\/(∃p∈xs,p.i=i)\/Fj t i
 no:∀p∈xs++sZ t,listed.getD p.i true=false
 cl:Ve ops listed
def zIq(c:B<e5.size)(a:e5.getD B false=true)(b:e5.getD B true=false):False:=by simp only[RI]at a b;rw[WS c]at a b;simp at a b;rw[b]at a;cases a
def zJb(d:Ve L e5)(h:L[B]?=some c0)(i:∀e∈c0.after,Region.binds .any e=true->e5.getD e.on false=true):Ve L (e5.setIfInBounds B true):=λj f k a e b g=>by
 by_cases c:B=j
 ·subst c
  rw[h]at a;injection a with a;subst a;exact getD_set_true (i e b g)
 ·rw[SN _ c]at f
  exact getD_set_true (d j f k a e b g)
def zQZ(m:∀D c,C D->Ext D c->C c){z:cA}{o:Oper}{t:Tr}(n:L[z.i]?=some z.o)(h:C D)(a:mJ P L C z Z D (KP P L C X t))(next:∀l c,C c->KP P L C X t l c->wpAny P .any L Q B (e5.setIfInBounds z.i true) l c):wpOp P L Q z.i (wpAny P .any L Q B (e5.setIfInBounds z.i true)) Z D:=by
 unfold wpOp;rw[n];unfold mJ at a;simp only;split
 ·rename_i j
  rw[AQ j]at a;left;cases b:z.t with
  |fl=>
   rw[b]at a;obtain⟨v,k,d⟩:=a;unfold Oper.wp;rw[k D h];exact next _ _ h d
  |fx=>
   rw[b]at a;obtain⟨v,k,d⟩:=a;unfold Oper.wp;rw[k D (Ext.refl D)];exact next _ _ h d
  |qc=>
   rw[b]at a;obtain⟨v,f,args,k,p,d⟩:=a;unfold Oper.wp;rw[k D h]
   exact(p D h).mono λe q r=>by obtain⟨rfl,g⟩:=r;exact next _ _ (m _ _ h g) (Lr d g)
  |ef=>
   rw[b]at a;exact zXF (λl c d=>next l c d.1 d.2) (a D (Ext.refl D))
 ·rename_i j
  rw[AP j]at a;exact next _ _ h a
section
variable{Q:Act->World->Prop}
def G7{Q':Exit->Act->World->Prop}(Gx:∀w w',C w->Ext w w'->C w')(hQ:∀a w,Q a w->Q' .normal a w):∀(n:Nat) (t:Tr) (f:List cA) (listed:Array Bool) (a:Act) (w:World),yCx L f t n listed->C w->KP P L C Q (pre f t) a w->wpAny P .any L Q' n listed a w
 |0,t,f,listed,a,w,c,hc,h=>by
  obtain⟨m,F,hlen⟩:=c.len;have d:f=[]:=KQ (by omega);have hm0:m=0:=by omega
  subst d;subst hm0;have h1:=zKp F;refine⟨?_,hQ _ _ (zUs F h (Ext.refl w))⟩;rw[oq];intro i hi;obtain⟨g1,o,ho,_⟩:=SS.1 hi;have I:=(IX.1 ho).1;rcases c.all i I with v|⟨p,hp,_⟩|v
  ·exact zIq (by rw[c.sz];exact I) v g1
  ·cases hp
  ·exact h1 i v
 |n+1,t,f,listed,a,w,c,hc,h=>by
  by_cases B:∃z G,t=.st z G/\z.t≠.ef
  ·obtain⟨z,G,rfl,hz⟩:=B
   have hok:=c.ok
   have hfz:∀q∈sZ G,zWH L z q:=λq B=>by
    obtain⟨g1,g2,A⟩:=hok.1 q B;refine⟨g1,g2,?_⟩;rcases A with A|A|A
    ·exact .inl A
    ·exact absurd A.1 hz
    ·exact .inr A
   have Y:∀p,p∈(f++[z])++sZ G->p∈f++sZ (.st z G):=λp hp=>by
    simp only[DW,FI]at hp;simp only[sZ,DW,EC];rcases hp with(hp|hp)|hp
    ·exact .inl hp
    ·exact .inr (.inl hp)
    ·exact .inr (.inr hp)
   refine G7 Gx hQ (n+1) G (f++[z]) listed a w ⟨?_,?_,?_,hok.2,λp hp=>c.ent p (Y p hp),c.sz,λi hi=>?_,λp hp=>c.no p (Y p hp),c.cl⟩ hc (by rw[F9];exact h)
   ·obtain⟨m,F,hl⟩:=c.len
    cases m with
    |zero=>exact F.elim|succ m=>exact⟨m,F,by simp;omega⟩
   ·refine XE.2 ⟨c.pw,WW _ _,λx d y hy=>?_⟩
    simp only[FI]at hy;subst hy;exact c.fr x d _ (DZ ..)
   ·intro x d q B
    rcases DW.1 d with d|d
    ·exact c.fr x d q (EX _ B)
    ·simp only[FI]at d
     subst d;exact hfz q B
   ·rcases c.all i hi with g|⟨p,hp,g⟩|g
    ·exact .inl g
    ·exact .inr (.inl ⟨p,IY _ hp,g⟩)
    ·rcases g with g|g
     ·exact .inr (.inl ⟨z,by simp,g⟩)
     ·exact .inr (.inr g)
  ·
   have hef:∀p∈jG t,p.1.t=.ef:=by
    cases t with
    |nil=>intro p hp;cases hp
    |st z G=>
     intro p hp;simp only[jG,FI]at hp;subst hp;by_cases hz:z.t=.ef
     ·exact hz
     ·exact absurd ⟨z,G,O,hz⟩ B
    |alt t u=>exact c.ok.1
   have jo:∀p∈f,G5 L p:=λp hp=>c.ent p (IY _ hp)
   have Lu:∀p,G5 L p->p.i<L.size:=λp hp=>(IX.1 hp.at_).1
   have first:∃i,i∈Region.ready .any L listed:=by
    have mk:∀z:cA,z∈f++sZ t->(∀e∈z.o.after,Region.binds .any e=true->∀q,q∈f->e.on≠q.i)->(∀e∈z.o.after,Region.binds .any e=true->¬Fj t e.on)->z.i∈Region.ready .any L listed:=λz hz h1 T=>by
     have hz0:=c.ent z hz;refine SS.2 ⟨c.no z hz,z.o,hz0.at_,λe hem H=>?_⟩;obtain⟨hn1,hn2⟩:=hz0.jm e hem H;rcases c.all e.on hn2 with v|⟨p,hp,U⟩|v
     ·exact v
     ·exact absurd U.symm (h1 e hem H p hp)
     ·exact absurd v (T e hem H)
    cases f with
    |cons x0 r0=>
     refine⟨x0.i,mk x0 (by simp) (λe Z H q B=>?_) (λe Z H hcv=>?_)⟩
     ·rcases EC.1 B with rfl|B
      ·exact((c.ent q (by simp)).jm e Z H).1
      ·exact((NJ.1 c.pw).1 q B).Dx e Z H
     ·obtain⟨q,J,D⟩:=Vh hcv
      exact(c.fr x0 (by simp) q J).Dx e Z H D.symm
    |nil=>
     obtain⟨m,F,hl⟩:=c.len;simp at hl;subst hl;obtain⟨⟨z,G⟩,V⟩:=zKo F;have hz:=eJ V;refine⟨z.i,mk z (by simpa using hz.1) (λe Z H q B=>by cases B) (λe Z H hcv=>?_)⟩;rcases Vf V hcv with h4|h4
     ·exact((c.ent z (by simpa using hz.1)).jm e Z H).1 h4.symm
     ·obtain⟨q,J,D⟩:=Vh h4
      exact((Vg V c.ok).1 q J).2.1 e Z H D.symm
   obtain⟨i0,hi0⟩:=first;refine⟨(λhn=>by rw[hn]at hi0;cases hi0),λi hi=>?_⟩;obtain⟨h1,o,ho,hr⟩:=SS.1 hi;have I:=(IX.1 ho).1
   have UX:∀p∈f++sZ t,¬fQ L i p.i:=λp hp VK=>by have h5:=fQ.ready c.cl ho hr VK O;exact zIq (by rw[c.sz];exact Lu p (c.ent p hp)) h5 (c.no p hp)
   rcases c.all i I with T|⟨z,hz,W⟩|T
   ·exact(zIq (by rw[c.sz];exact I) T h1).elim
   ·
    subst W;obtain⟨l,r,hs⟩:=List.append_of_mem hz;subst hs;have hpw:=XE.1 c.pw;have X:=jo z hz
    have hov:∀x∈l,Dw L x z/\∀cs b,x.o.op≠.select cs b:=λx d=>by
     refine⟨?_,(jo x (IY _ d)).WO⟩;rcases(hpw.2.2 x d z (DZ ..)).rel with hp|hp
     ·exact absurd hp (UX x (by simp[d]))
     ·exact hp
    have hpre:pre (l++z::r) t=pre l (.st z (pre r t)):=F9 l (z::r) t;rw[hpre]at h;have s:=yBf X.WO l a w hov h;rw[<-F9]at s;have K:(l++r).Sublist (l++z::r):=List.Sublist.append_left (List.sublist_cons_self _ _) _
    have hne:∀p∈(l++r)++sZ t,p.i≠z.i:=λp M=>by
     rcases DW.1 M with M|M
     ·rcases DW.1 M with T|T
      ·exact(hpw.2.2 p T z (DZ ..)).ne
      ·exactλe=>((NJ.1 hpw.2.1).1 p T).ne e.symm
     ·exactλe=>(c.fr z hz p M).ne e.symm
    have N:∀p∈(l++r)++sZ t,p∈(l++z::r)++sZ t:=λp hp=>by
     rcases DW.1 hp with hp|hp
     ·exact IY _ (K.subset hp)
     ·exact JP _ hp
    refine zQZ (o:=z.o) Gx X.at_ hc s λa' w' hc' hk=>G7 Gx hQ n t (l++r) _ a' w' ⟨?_,c.pw.sublist K,λx d=>c.fr x (K.subset d),c.ok,λp hp=>c.ent p (N p hp),by simpa using c.sz,λj hj=>?_,λp hp=>?_,zJb c.cl X.at_ (by
     have hoo:o=z.o:=by have:=X.at_;rw[ho]at this;injection this
     subst hoo;exact hr)⟩ hc' hk
    ·obtain⟨m,F,hl⟩:=c.len
     exact⟨m,F,by simp at hl⊢;omega⟩
    ·by_cases E:z.i=j
     ·left
      subst E;simp[RI,c.sz,hj]
     ·rcases c.all j hj with g|⟨p,hp,g⟩|g
      ·left;rw[SN _ E];exact g
      ·right;left
       refine⟨p,?_,g⟩;rcases DW.1 hp with v|v
       ·exact IY _ v
       ·rcases EC.1 v with rfl|v
        ·exact absurd g E
        ·exact JP _ v
      ·exact .inr (.inr g)
    ·rw[SN _ (λe=>hne p hp e.symm)]
     exact c.no p (N p hp)
   ·
    have hhead:∃p∈jG t,p.1.i=i:=by
     obtain⟨m,F,hl⟩:=c.len
     have hm1:∃k,m=k+1:=by
      cases m with
      |zero=>exact absurd T (zKp F i)|succ k=>exact⟨k,O⟩
     obtain⟨k,rfl⟩:=hm1;obtain⟨⟨z1,t1⟩,R⟩:=zKo F;rcases Vf R T with v|v
     ·exact⟨_,R,v⟩
     ·obtain⟨q,J,D⟩:=Vh v
      obtain⟨_,_,A⟩:=(Vg R c.ok).1 q J;rcases A with A|A|A
      ·rw[D]at A
       exact absurd A (UX z1 (JP _ (eJ R).1))
      ·obtain⟨h,hh,h4|h4⟩:=A.2
       ·rw[<-D,<-h4]
        exact G6.1 hh
       ·obtain⟨⟨zz,tt⟩,hp,U⟩:=G6.1 hh
        simp only at U;rw[D,<-U]at h4;exact absurd h4 (UX zz (JP _ (eJ hp).1))
      ·exact absurd (hef _ R) A.Vd
    obtain⟨⟨z,G⟩,V,W⟩:=hhead;simp only at W;subst W;have S:=eJ V;have X:=c.ent z (JP _ S.1)
    have hov:∀x∈f,Dw L x z/\∀cs b,x.o.op≠.select cs b:=λx d=>by
     refine⟨?_,(jo x d).WO⟩;rcases(c.fr x d z S.1).rel with hp|hp
     ·exact absurd hp (UX x (IY _ d))
     ·exact hp
    have s:=yBf X.WO f a w hov (zQK (λa w hk=>zON V hk) f a w h);have hzc:=Vg V c.ok
    have hne:∀p∈f++sZ G,p.i≠z.i:=λp hp=>by
     rcases DW.1 hp with hp|hp
     ·exact(c.fr p hp z S.1).ne
     ·exactλe=>(hzc.1 p hp).1 e.symm
    have N:∀p∈f++sZ G,p∈f++sZ t:=λp hp=>by
     rcases DW.1 hp with hp|hp
     ·exact IY _ hp
     ·exact JP _ (S.2 p hp)
    refine zQZ (o:=z.o) Gx X.at_ hc s λa' w' hc' hk=>G7 Gx hQ n G f _ a' w' ⟨?_,c.pw,λx d q B=>c.fr x d q (S.2 q B),hzc.2,λp hp=>c.ent p (N p hp),by simpa using c.sz,λj hj=>?_,λp hp=>?_,zJb c.cl X.at_ (by
     have hoo:o=z.o:=by have:=X.at_;rw[ho]at this;injection this
     subst hoo;exact hr)⟩ hc' hk
    ·obtain⟨m,F,hl⟩:=c.len
     obtain⟨k,rfl,hk⟩:=zKm V F;exact⟨k,hk,by omega⟩
    ·by_cases E:z.i=j
     ·left
      subst E;simp[RI,c.sz,hj]
     ·rcases c.all j hj with g|g|g
      ·left;rw[SN _ E];exact g
      ·exact .inr (.inl g)
      ·rcases Vf V g with g|g
       ·exact absurd g E
       ·exact .inr (.inr g)
    ·rw[SN _ (λe=>hne p hp e.symm)]
     exact c.no p (N p hp)
 termination_by n t=>(n,SizeOf.sizeOf t)
end
end
def Vj:List (Nat×Nat)->Nat->Nat
 |[],_=>0|x::r,i=>bif Nat.beq x.1 i then x.2 else Vj r i
def Gy(a:List (Nat×Nat)):List Nat->Nat
 |[]=>0|e::r=>(2^e|||Vj a e)|||Gy a r
def zST:Tg->Tg->Bool
 |.ef,_=>false|.fx,.ef=>false|_,_=>true
def Vk:Tg->Bool
 |.ef=>true|_=>false
def Vl(m i:Nat):List Nat->Bool
 |[]=>false|h::r=>bif Nat.beq h i then true else bif m.testBit h then true else Vl m i r
def zNx{m i:Nat}:∀{l:List Nat},Vl m i l=true->∃h∈l,h=i\/m.testBit h=true
 |[],h=>by simp[Vl]at h|x::r,h=>by
  simp only[Vl]at h;cases a:Nat.beq x i
  ·simp only[a,BB]at h
   cases b:m.testBit x
   ·simp only[b,BB]at h
    obtain⟨y,hy,c⟩:=zNx h;exact⟨y,EX _ hy,c⟩
   ·exact⟨x,DZ ..,.inr b⟩
  ·exact⟨x,DZ ..,.inl (Nat.eq_of_beq_eq_true a)⟩
def zSv(ops:Array Oper)(m:Nat)(p:cA×List Nat)(z:cA):Bool:=bif m.testBit p.1.i then true else bif Vk p.1.t then Vl m z.i p.2 else bif p.1.o.apart ops z.o then zST p.1.t z.t else false
def Jf{a:Type}(f:a->Bool):List a->Bool
 |[]=>true|x::r=>bif f x then Jf f r else false
def G8{c:Type}{f:c->Bool}:∀{l:List c},Jf f l=true->∀x∈l,f x=true
 |[],_,_,h=>by cases h|y::r,h,x,a=>by
  simp only[Jf]at h;cases b:f y
  ·simp[b]at h
  ·simp only[b,BD]at h
   cases a with
   |head=>exact b|tail _ a=>exact G8 h x a
def Jg:Tr->Bool
 |.nil=>true|.st z _=>Vk z.t|.alt t u=>bif Jg t then Jg u else false
theorem zDq:∀{t:Tr},Jg t=true->yAU t
 |.nil,_=>λp hp=>by cases hp|.st z t,h=>λp hp=>by simp only[jG,FI]at hp;subst hp;simp only[Jg]at h;cases hz:z.t<;>simp_all[Vk]|.alt t u,h=>λp hp=>by
  simp only[Jg]at h;cases a:Jg t<;>simp only[a,BD,BB]at h<;>try cases h
  rcases DW.1 hp with hp|hp
  ·exact zDq a p hp
  ·exact zDq h p hp
def Fq(ops:Array Oper):Tr->List Nat->List (cA×List Nat)->List (Nat×Nat)->Nat->Nat->Bool
 |.nil,_,_,_,done,k=>bif Nat.beq k ops.size then Jf (λi=>done.testBit i) (List.range ops.size)else false|.st z r,H,a,b,done,k=>
  bif Jf (λe=>done.testBit e) (oQ z.o)then bif done.testBit z.i then false else bif D8 z.o.op then
   bif Jf (λp=>zSv ops (Gy b (oQ z.o)) p z) a then Fq ops r (Ac r) ((z,H)::a) ((z.i,Gy b (oQ z.o))::b) (done|||2^z.i) (k+1)else false else false else false
 |.alt t u,H,a,b,done,k=>bif Jg (.alt t u)then bif Fq ops t H a b done k then Fq ops u H a b done k else false else false
def zLa{ops:Array Oper}:∀{b:List (Nat×Nat)},(∀x∈b,∀j,x.2.testBit j=true->fQ ops x.1 j)->∀i j,(Vj b i).testBit j=true->fQ ops i j
 |[],_,i,j,h=>by simp[Vj]at h|x::r,c,i,j,h=>by
  simp only[Vj]at h;cases a:Nat.beq x.1 i
  ·simp only[a,BB]at h
   exact zLa (λy hy=>c y (EX _ hy)) i j h
  ·simp only[a,BD]at h
   have:=Nat.eq_of_beq_eq_true a;rw[<-this];exact c x (DZ ..) j h
def zIX{ops:Array Oper}{b:List (Nat×Nat)}(c:∀x∈b,∀j,x.2.testBit j=true->fQ ops x.1 j){i:Nat}:∀(d:List Nat),(∀e∈d,fQ ops i e)->∀j,(Gy b d).testBit j=true->fQ ops i j
 |[],_,j,h=>by simp[Gy]at h|e::r,a,j,h=>by
  simp only[Gy,UK,KZ]at h;rcases h with(h|h)|h
  ·rw[vg]at h
   simp only[FP]at h;subst h;exact a _ (DZ ..)
  ·exact(a e (DZ ..)).trans (zLa c e j h)
  ·exact zIX c r (λx f=>a x (EX _ f)) j h
theorem zSk{p z:Tg}(h:zST p z=true):p≠.ef/\(z=.ef->p≠.fx):=by cases p<;>cases z<;>simp_all[zST]
theorem G9{ops:Array Oper}:∀(r:Tr) (H:List Nat) (a:List (cA×List Nat)) (l:List (Nat×Nat)) (done k:Nat),(∀z∈sZ r,ops[z.i]?=some z.o)->(∀z∈a,ops[z.1.i]?=some z.1.o)->(∀x∈l,∀j,x.2.testBit j=true->fQ ops x.1 j)->(∀j,done.testBit j=true↔∃p∈a,p.1.i=j)->
  Fq ops r H a l done k=true->Ls ops H r/\(∀p∈a,∀q∈sZ r,p.1.i≠q.i/\(fQ ops q.i p.1.i\/(p.1.t=.ef/\∃h∈p.2,h=q.i\/fQ ops q.i h)\/Dw ops p.1 q))/\(∀p∈sZ r,G5 ops p)/\(∀i,i<ops.size->(∃p∈a,p.1.i=i)\/Fj r i)/\∃m,Fp r m/\k+m=ops.size
 |.nil,H,a,l,done,k,D,hp,w,v,h=>by
  simp only[Fq]at h;cases Y:Nat.beq k ops.size<;>simp only[Y,BD,BB]at h<;>try cases h
  refine⟨trivial,(λ_ _ _ h=>by cases h),(λ_ h=>by cases h),λi E=>?_,0,rfl,Nat.eq_of_beq_eq_true Y⟩;exact .inl ((v i).1 (G8 h i (JS.2 E)))
 |.alt t u,H,a,l,done,k,D,hp,w,v,h=>by
  simp only[Fq]at h;cases G:Jg (.alt t u)<;>simp only[G,BD,BB]at h<;>try cases h
  cases I:Fq ops t H a l done k<;>simp only[I,BD,BB]at h<;>try cases h
  obtain⟨a1,a2,a3,a4,Z,a5,a6⟩:=G9 t H a l done k (λz hz=>D z (IY _ hz)) hp w v I;obtain⟨b1,b2,b3,b4,m2,b5,b6⟩:=G9 u H a l done k (λz hz=>D z (JP _ hz)) hp w v h;have P:Z=m2:=by omega
  subst P;refine⟨⟨zDq G,a1,b1⟩,λp c q g=>?_,λp c=>?_,λi E=>?_,Z,⟨a5,b5⟩,a6⟩
  ·rcases DW.1 g with g|g
   ·exact a2 p c q g
   ·exact b2 p c q g
  ·rcases DW.1 c with c|c
   ·exact a3 p c
   ·exact b3 p c
  ·rcases a4 i E with A|A
   ·exact .inl A
   ·rcases b4 i E with F|F
    ·exact .inl F
    ·exact .inr ⟨A,F⟩
 |.st z r,H,a,l,done,k,D,hp,w,v,h=>by
  simp only[Fq]at h;cases G:Jf (λe=>done.testBit e) (oQ z.o)<;>simp only[G,BD,BB]at h<;>try cases h
  cases I:done.testBit z.i<;>simp only[I,BD,BB]at h<;>try cases h
  cases A:D8 z.o.op<;>simp only[A,BD,BB]at h<;>try cases h
  cases F:Jf (λp=>zSv ops (Gy l (oQ z.o)) p z) a<;>simp only[F,BD,BB]at h<;>try cases h
  have B:=D z (DZ ..)
  have d:∀j,(Gy l (oQ z.o)).testBit j=true->fQ ops z.i j:=zIX w _ λe n=>by obtain⟨e',Q,C,rfl⟩:=E5.1 n;exact .edge B Q C
  have Jh:∀e∈z.o.after,Region.binds .any e=true->∃p∈a,p.1.i=e.on:=λe n C=>(v _).1 (G8 G _ (E5.2 ⟨e,n,C,O⟩))
  have J:¬∃p∈a,p.1.i=z.i:=λK=>by have:=(v _).2 K;rw[I]at this;cases this
  obtain⟨g1,R,g3,g4,m,g5,g6⟩:=G9 r (Ac r) ((z,H)::a) _ _ _ (λy hy=>D y (EX _ hy)) (λy hy=>by
   rcases EC.1 hy with rfl|hy
   ·exact B
   ·exact hp y hy) (λx S j hj=>by
   rcases EC.1 S with rfl|S
   ·exact d j hj
   ·exact w x S j hj) (λj=>by
   simp only[UK,KZ,v,vg,FP,EC,exists_eq_or_imp];exact⟨λL=>L.elim (λh=>.inr h) λh=>.inl h,λL=>L.elim (λh=>.inr h) λh=>.inl h⟩) h
  have T:∀p∈a,p.1.i≠z.i/\(fQ ops z.i p.1.i\/(p.1.t=.ef/\∃h∈p.2,h=z.i\/fQ ops z.i h)\/Dw ops p.1 z):=λp c=>by
   refine⟨λe=>J ⟨p,c,e⟩,?_⟩;have f:=G8 F p c;unfold zSv at f;cases P:(Gy l (oQ z.o)).testBit p.1.i
   ·simp only[P,BB]at f
    cases n:Vk p.1.t
    ·simp only[n,BB]at f
     cases U:p.1.o.apart ops z.o
     ·simp[U]at f
     ·simp only[U,BD]at f
      have:=zSk f;exact .inr (.inr ⟨U,this.1,this.2⟩)
    ·simp only[n,BD]at f
     have V:∃h∈p.2,h=z.i\/fQ ops z.i h:=by obtain⟨h,L,W⟩:=zNx f;exact⟨h,L,W.elim .inl λW=>.inr (d _ W)⟩
     refine .inr (.inl ⟨?_,V⟩);cases w:p.1.t<;>simp_all[Vk]
   ·exact .inl (d _ P)
  refine⟨⟨λq g=>?_,g1⟩,λp c q g=>?_,λp c=>?_,λi E=>?_,m+1,g5,by omega⟩
  ·have f:=R (z,H) (DZ ..) q g
   refine⟨f.1,λe n C K=>?_,f.2⟩;obtain⟨p,c,s⟩:=Jh e n C;exact(R p (EX _ c) q g).1 (s.trans K)
  ·rcases EC.1 g with rfl|g
   ·exact T p c
   ·exact R p (EX _ c) q g
  ·rcases EC.1 c with rfl|c
   ·refine⟨B,(λcs b X=>by rw[X]at A;cases A),λe n C=>?_⟩
    obtain⟨q,M,N⟩:=Jh e n C;refine⟨λK=>J ⟨q,M,N.trans K⟩,?_⟩;rw[<-N];exact(IX.1 (hp q M)).1
   ·exact g3 p c
  ·rcases g4 i E with⟨p,c,s⟩|f
   ·rcases EC.1 c with rfl|c
    ·exact .inr (.inl s)
    ·exact .inl ⟨p,c,s⟩
   ·exact .inr (.inr f)
inductive Fv where
 |nil
 |st (t:Tg) (i:Nat) (r:Fv)
 |alt (t u:Fv)
def iL:List (Tg×Nat)->Fv->Fv
 |[],t=>t|x::r,t=>.st x.1 x.2 (iL r t)
def yh(l:List Oper):Fv->Tr
 |.nil=>.nil|.st g i r=>match l[i]?with
  |some o=>.st ⟨g,i,o⟩ (yh l r)|none=>yh l r
 |.alt t u=>.alt (yh l t) (yh l u)
def Qw(l:List Oper):∀(a:Fv),∀z∈sZ (yh l a),l.toArray[z.i]?=some z.o
 |.nil,z,h=>by cases h|.st g i r,z,h=>by
  simp only[yh]at h;split at h
  ·rename_i o b
   rcases EC.1 h with rfl|h
   ·simpa using b
   ·exact Qw l r z h
  ·exact Qw l r z h
 |.alt t u,z,h=>by
  rcases DW.1 h with h|h
  ·exact Qw l t z h
  ·exact Qw l u z h
def zRZ(a:Fv)(d:P.follows .mixedOrders=true)(e:Fq U.toArray (yh U a) (Ac (yh U a)) [] [] 0 0=true)(f:∀D c,C D->Ext D c->C c)(g:C {D with drawn:=D.drawn+1})(h:KP P U.toArray C (Q .normal) (yh U a) Z {D with drawn:=D.drawn+1}):(Code.region B U.toArray true).wp P Q Z D:=by
 obtain⟨k,_,l,n,m,o,q⟩:=G9 (yh U a) _ [] [] 0 0 (Qw U a) (λ_ h=>by cases h) (λ_ h=>by cases h) (λj=>by simp) e;refine wp_region_any d ?_;refine G7 (P:=P) (C:=C) (Q:=Q .normal) (Q':=Q) f (λ_ _ h=>h) U.toArray.size (yh U a) [] (Array.replicate U.toArray.size false) Z {D with drawn:=D.drawn+1} ⟨⟨m,o,by simpa using q⟩,XR,(λ_ h=>by cases h),k,(λp hp=>l p (by simpa using hp)),(by simp),(λi b=>.inr ?_),(λp hp=>?_),(λi b=>?_)⟩ g h
 ·rcases n i b with⟨p,hp,_⟩|r
  ·cases hp
  ·exact .inr r
 ·have:=(IX.1 (Qw U a p (by simpa using hp))).1
  simp only[NM]at this;simp[RI,this]
 ·simp only[RI]at b
  by_cases h:i<U.length
  ·simp[h]at b
  ·simp[h]at b
variable{c6:Tr}
section
variable[T:GZ P]
def St.BU(c:Fv)(b:List As)(e:P.follows .mixedOrders=true)(f:Fq U.toArray (yh U c) (Ac (yh U c)) [] [] 0 0=true)(g:∀w,Sat F w->Sat b w)(h:St D B I F (KP P U.toArray (Sat b) (Q .normal) (yh U c))):St D B I F ((Code.region i U.toArray true).wp P Q):=
 λa w j k l d m=>zRZ c e f (λ_ _ h n=>h.ext n) ((g w d).ext (Ext.drew w)) (h a w.drew j k l (d.ext (Ext.drew w)) (m.trans (Ext.drew w).toSame))
def Rd(P:Program)(F:List As)(b:Env)(c:Op)(v:Value):Prop:=∀(a:Act) (w:World) (B:Option Nat) (i:Nat) (N:String) (M:Array Edge) (g:Option (Nat×Bool)),At a b->Sat F w->(execOp a.eval ⟨B,c,i,N,M,g⟩).run P w=.ok (.value v) w
def St.OB{F₁:List As}(g:∀w,C w->Sat F₁ w)(h:Rd P F₁ I b7 S)(j:Nat.blt i B=true)(k:St D B ((i,S)::I) F (KP P L C X c6)):St D B I F (KP P L C X (.st ⟨.fl,J,⟨some i,b7,V,N,M,none⟩⟩ c6)):=
 λa w d b e l m=>by show mJ P L C _ a _ _;unfold mJ;rw[AQ (wK O _)];exact⟨S,λf c=>h a f _ _ _ _ _ e (g f c),k _ w (by simp[Act.put,d]) b (e.put (d▸EU j)) l m⟩
def St.JF(f:Rd P F I b7 S)(g:Nat.blt i B=true)(k:St D B ((i,S)::I) F (KP P L C X c6)):St D B I F (KP P L C X (.st ⟨.fx,J,⟨some i,b7,V,N,M,none⟩⟩ c6)):=
 λa w c b d e h=>by show mJ P L C _ a _ _;unfold mJ;rw[AQ (wK O _)];exact⟨S,λj l=>f a j _ _ _ _ _ d (e.ext l),k _ w (by simp[Act.put,c]) b (d.put (c▸EU g)) e h⟩
def yBv{w0':World}(h:c0.guard=none)(a:wpList P L (λe Z D=>e=.normal/\C D/\KP P L C X c6 Z D) [c0] Z D):c0.wp P Z D (λd b=>C b/\KP P L C X c6 d b) Vb:=by
 unfold wpList at a;rw[AQ (wK h _)]at a;rcases a with a|⟨_,d,g,i,_⟩
 ·unfold Oper.wp at*
  generalize (execOp Z.eval c0).run P D=r at*;cases r with
  |ok n g=>
   cases n<;>simp only[Oper.upon,wpList]at a⊢
   case value v=>exact a.2
   case skip=>exact a.2
   case defer B=>exact a.2
   case enter f args=>
    refine a.mono λe b c=>?_
    cases e with
    |returned v=>exact c.2|panicked l=>exact(by cases c.1)|outgrown=>obtain⟨_,_,j,_⟩:=c;cases j
   case row r args=>exact a.mono λv b k=>k.2
  |halt x g=>
   cases x<;>simp only[Oper.upon]at a⊢
   cases a.1
 ·cases i
def St.CU(h:St D B I F (wpList P L (λe a w=>e=.normal/\C w/\KP P L C X c6 a w) [⟨d6,b7,J,N,M,none⟩])):St D B I F (KP P L C X (.st ⟨.ef,i,⟨d6,b7,J,N,M,none⟩⟩ c6)):=
 λa b f d g j k=>by show mJ P L C _ a _ _;unfold mJ;rw[AQ (wK O _)];intro w c;exact yBv (w0':=b) O (h a w f d g (j.ext c) (k.trans c.toSame))
def St.xk(d:∀w,Sat F w->C w)(k:St D B I F (KP P L C X c6)):St D B I F (wpList P L (λe a w=>e=.normal/\C w/\KP P L C X c6 a w) []):=
 St.done λa w f b g c h=>⟨O,d w c,k a w f b g c h⟩
def St.DF(k:St D B I F X):St D B I F (KP P L C X .nil):=λa w d b e f g h c=>k a h d b e (f.ext c) (g.trans c.toSame)
def St.Bh{args:List Value}(m:∀w,C w->Sat G w)(h:CW P c5 args R (Val S))(n:Bf P c5)(o:Nat.blt i B=true)(p:ev I A=some (.func (.func c5) #[] #[]))(c:evs I c8=some args)(d:jD R=true)(e:gD R G)(k:St D B ((i,S)::I) F (KP P L C X c6)):St D B I F (KP P L C X (.st ⟨.qc,J,⟨some i,.call {callee:=.value A,args:=c8.toArray,argTypes:=a0},V,N,M,none⟩⟩ c6)):=
 λa w l f g q r=>by show mJ P L C _ a _ _;unfold mJ;rw[AQ (wK O _)];exact⟨S,c5,args.toArray,λj b=>Uu n (g.eval p) (g.QS c) j _ _,λj b=>h.quiet d e (m j b),k _ w (by simp[Act.put,l]) f (g.put (l▸EU o)) q r⟩
def Rd.p(b:ZM T.tt I b7=some S):Rd P F I b7 S:=λa w B i N M g c _=>zTF T.ok c (o:=⟨B,b7,i,N,M,g⟩) b w
def Rd.NS{t:Nat}(c:Nat)(d:ev I A=some (.pointer (some ⟨V,o,none⟩)))(g:As.res (Box V f e)∈F)(hp:o=c)(h:kA T.tt t e c=some S):Rd P F I (.load t A) S:=
 λa w B J N M m j k=>by
  exact lD (P:=P) (a:=a) (x:=A) (b:=V) (o:=0) (off:=c) T.ok (by rw[j.eval d,hp,KE]) h (w:=w) (λi u l=>by rw[KE];exact Box.cell (k.res g) l) _ _
def Rd.load{t:Nat}{x:Operand}{b p:Nat}(o:Nat)(c:Nat){d:List Value}{v:Value}(e:ev I x=some (.pointer (some ⟨b,p,none⟩)))(f:As.ro (gN b o d)∈F)(hp:p=o+c)(g:kA T.tt t d c=some v):Rd P F I (.load t x) v:=
 λa w B J N M l h j=>lD (P:=P) (a:=a) (x:=x) T.ok (by rw[h.eval e,hp]) g (w:=w) (λi u k=>by have:=j.TK f i u k;rw[Ut]at this;exact this) _ _
def St.PD(l:As.ro (FB b0 Y i W)∈F)(hy:CO W y=some q)(k:∀b o,(∃f,Y=some ⟨b,f,none⟩/\o=f+y.toNat*b0.sz)->St D B I F X):St D B I F X:=
 λa w m e n g p=>by
  obtain⟨r,t,h⟩:=rC hy;have d:=g.TK l;cases Y with
  |none=>
   have:=d.2.2.1 O;subst this;simp at h
  |some j=>
   obtain⟨c,_⟩:=d.2.2.2 j rfl _ _ h;obtain⟨b,o,s⟩:=j;simp only at c;subst c;exact k b _ ⟨o,O,O⟩ a w m e n g p
def Sat.PI(d:∃b,Y=some ⟨i,b,none⟩/\J=b+y.toNat*b0.sz)(e:As.ro (FB b0 Y B W)∈F)(hy:CO W y=some q)(c:Sat F D):Sat (.ro (gN i J (b0.enc q))::F) D:=by obtain⟨b,rfl,rfl⟩:=d;obtain⟨j,k,f⟩:=rC hy;refine c.IW _ ?_;obtain⟨_,g,a,h⟩:=(c.ro e).2.2.2 _ rfl _ _ f;have:g=b0.enc q:=a;subst this;exact h
def Rd.Dv{E:Enc H}{t:Nat}{j:IntKind}(k:∃c,Y=some ⟨o,c,none⟩/\a7=c+y.toNat*E.sz)(hy:CO W y=some q)(l:ev I A=some (.slice Y V f))(n:ev I x=some (.int j y))(d:V=W.length)(p:xG T.tt t=some m)(b:m.desc=.slice J)(s:xG T.tt J=some r)(u:r.size=E.sz):Rd P F I (.indexAddr t A x) (.pointer (some ⟨o,a7,none⟩)):=
 λa w B i N M D h G=>by
  obtain⟨c,rfl,rfl⟩:=k;obtain⟨v,z,K⟩:=rC hy;subst d;obtain⟨L,C,g⟩:=T.ok.desc p
  have e:(⟨o,c,none⟩:Addr).add (y.toNat*E.sz)=⟨o,c+y.toNat*E.sz,none⟩:=by
   unfold Addr.add;split
   ·rename_i hz;rw[hz];rfl
   ·rfl
  simp[execOp,Instr.indexAt,h.eval l,h.eval n,asIntOf,CY C,TD.of_slice (g.trans b),xC T.ok s,u,v,z,e]
def Rd.au{E:Enc H}{t:Nat}{h:IntKind}(hy:CO W y=some q)(j:ev I A=some (.slice (some ⟨o,0,none⟩) V f))(k:ev I x=some (.int h y))(c:V=W.length)(l:xG T.tt t=some m)(b:m.desc=.slice J)(n:xG T.tt J=some r)(p:r.size=E.sz):Rd P F I (.indexAddr t A x) (.pointer (some ⟨o,y.toNat*E.sz,none⟩)):=
 λa w B i N M z g C=>by obtain⟨s,u,D⟩:=rC hy;subst c;obtain⟨G,v,e⟩:=T.ok.desc l;have d:(⟨o,0,none⟩:Addr).add (y.toNat*E.sz)=⟨o,y.toNat*E.sz,none⟩:=pL o _;simp[execOp,Instr.indexAt,g.eval j,g.eval k,asIntOf,CY v,TD.of_slice (e.trans b),xC T.ok n,p,s,u,d]
def Rd.QT{t:Nat}(c:Nat)(hy:CO W y=some q)(e:ev I A=some (.pointer (some ⟨o,a7,none⟩)))(g:As.res (zJ b0 V (some ⟨o,0,none⟩) f W)∈F)(d:a7=y.toNat*b0.sz+c)(h:kA T.tt t (b0.enc q) c=some S):Rd P F I (.load t A) S:=
 λa w B J N M m j k=>lD (P:=P) (a:=a) (x:=A) (b:=o) (o:=y.toNat*b0.sz) (off:=c) T.ok (by rw[j.eval e,d]) h (w:=w) (λi u l=>zBS (k.res g) (zKl hy) i u l) _ _
def St.TM(e:As.res (zJ b0 J Y i W)∈F)(hy:CO W y=some q)(k:∀g,Y=some ⟨g,0,none⟩->St D B I F X):St D B I F X:=
 λa w f c j d l=>by
  obtain⟨o,p,r⟩:=rC hy;have b:fJ b0.sz J Y W.length i (W.map b0.enc) (hp w):=d.res e;rcases b.2.2 with⟨h,_⟩|⟨g,m,fr,_,n,_⟩
  ·omega
  ·exact k g n a w f c j d l
end
end Go.Proofs.YtjconpohbhlcmaaGreatDoor
end
