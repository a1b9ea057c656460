/-
  Texts of this seat, put together: rules, walks, plain laws.
  Conditions: none.
-/
import Derived.WalkKit
import Derived.Deep.Quiet
import Derived.Laws.StructEq
import Derived.Laws.BytesArg
import Derived.LoopN
import Derived.ProofKit
import Derived.Deep.Slices
import Derived.WideKeyArgs
import Derived.OpenShut
import Derived.DataShut
import Derived.Lib.Bytealg
import Derived.WideKeyElems2
import Derived.LaidHandle
import Derived.LaidMore
import Derived.KernelRfl
import Derived.Shelf.Spec.SlicesGrow
import Derived.Shelf.SlMaps.Clone
import Derived.Shelf.Sort.Plain
import Derived.Maps.RangeRun
import Derived.RangeFuncSeq
import Derived.RangeFuncIn
import Derived.RangeFuncRecord
import Derived.RangeFuncLeaves
import Derived.LaidLaws
import Derived.Deep.DeepLaidRun
import Derived.SevenTiedAt
import Derived.Test.YtplchdlgdjcojaaGreatDoorRows
import Derived.Test.YtplchdlgdjcojaaGreatDoorProg
import Derived.Test.YtplchdlgdjcojaaGreatDoorTie
import Derived.Test.YtplchdlgdjcojaaGreatDoorCards
section
namespace Go.Proofs.YtplchdlgdjcojaaGreatDoor
open Go
abbrev Env:=List (Nat × Value)
def get:Env→Nat→Option Value
 | [],_=>none
 | (k,v)::r,i=>bif Nat.beq k i then some v else get r i
def At (a:Act) (Γ:Env):Prop:=∀ i v,get Γ i=some v→a.tmps[i]? =some v
theorem zFX (k:Nat) (v:Value) (r:Env) (i:Nat):get ((k,v)::r) i=if k=i then some v else get r i:=by
 simp only [get]
 by_cases h:k=i
 ·subst h; simp
 ·have:Nat.beq k i=false:=by
   cases hb:Nat.beq k i
   ·rfl
   ·exact absurd (Nat.eq_of_beq_eq_true hb) h
  simp [this,h]
theorem At.nil (a:Act):At a []:=fun _ _ h=>by simp [get] at h
theorem At.cons {a:Act} {Γ:Env} {d:Nat} {v:Value} (hd:a.tmps[d]? =some v) (h:At a Γ):At a ((d,v)::Γ):=by
 intro i u hu
 rw [zFX] at hu
 split at hu
 ·rename_i e; subst e; injection hu with hu; subst hu; exact hd
 ·exact h i u hu
theorem At.put {a:Act} {Γ:Env} {d:Nat} {v:Value} (h:At a Γ) (hd:d<a.tmps.size):At (a.put (some d) v) ((d,v)::Γ):=by
 intro i u hu
 rw [zFX] at hu
 split at hu
 ·rename_i e; subst e; injection hu with hu; subst hu
  simp [Act.put,hd]
 ·rename_i e
  have:=h i u hu
  simp only [Act.put]
  rw [Array.getElem?_setIfInBounds_ne e]
  exact this
theorem At.put_none {a:Act} {Γ:Env} {v:Value} (h:At a Γ):At (a.put none v) Γ:=h
def zAU:Env→Env→Prop
 | [],_=>True
 | (k,v)::r,Γ=>get Γ k=some v∧zAU r Γ
theorem zAU.get {Γ:Env}:∀ {Γ':Env},zAU Γ' Γ→∀ i v,get Γ' i=some v→get Γ i=some v
 | [],_,i,v,h=>by simp [Go.Proofs.YtplchdlgdjcojaaGreatDoor.get] at h
 | (k,u)::r,hs,i,v,h=>by
  rw [zFX] at h
  split at h
  ·rename_i e; subst e; injection h with h; subst h; exact hs.1
  ·exact hs.2.get i v h
theorem At.sub {a:Act} {Γ Γ':Env} (h:At a Γ) (hs:zAU Γ' Γ):At a Γ':=fun i v hv=>h i v (hs.get i v hv)
def ev (Γ:Env):Operand→Option Value
 | .tmp t=>get Γ t
 | .const v=>some v
 | .func f=>some (.func (.func f) #[] #[])
 | .global g=>some (.pointer (some ⟨g,0,none⟩))
theorem At.eval {a:Act} {Γ:Env} (h:At a Γ) {x:Operand} {v:Value} (hx:ev Γ x=some v):a.eval x=v:=by
 cases x with
 | tmp t=>
  have:=h t v hx
  simp [Act.eval,this]
 | const u=>simpa [ev,Act.eval] using hx
 | func f=>simpa [ev,Act.eval] using hx
 | global g=>simpa [ev,Act.eval] using hx
def evs (Γ:Env):List Operand→Option (List Value)
 | []=>some []
 | x::r=>match ev Γ x,evs Γ r with
  | some v,some vs=>some (v::vs)
  | _,_=>none
theorem At.evals {a:Act} {Γ:Env} (h:At a Γ):∀ {xs:List Operand} {vs:List Value},evs Γ xs=some vs→xs.map a.eval=vs
 | [],vs,hx=>by simpa [evs] using hx
 | x::r,vs,hx=>by
  simp only [evs] at hx
  split at hx
  ·rename_i v us h1 h2
   injection hx with hx
   subst hx
   simp [h.eval h1,h.evals h2]
  ·cases hx
abbrev Hp:=Nat→Option Obj
def hp (w:World):Hp:=fun k=>w.heap[k]?
def Hp.le (m m':Hp):Prop:=∀ k o,m k=some o→m' k=some o
theorem Hp.le.refl (m:Hp):Hp.le m m:=fun _ _ h=>h
theorem Hp.le.trans {a b c:Hp} (h:Hp.le a b) (k:Hp.le b c):Hp.le a c:=fun i o ho=>k i o (h i o ho)
structure Ro where
 p:Hp→Prop
 mono:∀ m m',Hp.le m m'→p m→p m'
structure Res where
 gs:List Nat
 p:Hp→Prop
 loc:∀ m m',(∀ k,k∈gs→m k=m' k)→p m→p m'
 /-- what is said of them and of memory that stays -/
 q:Hp→Hp→Prop:=fun _ _=>True
 qloc:∀ m m' z z',(∀ k,k∈gs→m k=m' k)→Hp.le z z'→q m z→q m' z':=by intros; exact True.intro
inductive As where
 | ro (r:Ro)
 | res (r:Res)
def As.gs:As→List Nat
 | .ro _=> []
 | .res r=>r.gs
def zW:List As→List Nat
 | []=> []
 | x::r=>x.gs++zW r
def frz (U:List Nat) (w:World):Hp:=fun k=>if k∈U then none else w.heap[k]?
def As.holds (U:List Nat) (w:World):As→Prop
 | .ro r=>r.p (frz U w)
 | .res r=>(∀ k,k∈r.gs→k<w.heap.size)∧r.p (hp w)∧r.q (hp w) (frz U w)
structure Sat (F:List As) (w:World):Prop where
 nodup:(zW F).Nodup
 all:∀ x∈F,x.holds (zW F) w
theorem kX {F:List As} {k:Nat}:k∈zW F↔∃ x∈F,k∈x.gs:=by
 induction F with
 | nil=>simp [zW]
 | cons y r ih=>simp [zW,ih]
theorem sI (F G:List As):zW (F++G)=zW F++zW G:=by
 induction F with
 | nil=>rfl
 | cons x r ih=>simp [zW,ih]
theorem Sat.lt {F:List As} {w:World} (h:Sat F w) {k:Nat} (hk:k∈zW F):k<w.heap.size:=by
 obtain ⟨x,hx,hkx⟩:=kX.1 hk
 have:=h.all x hx
 cases x with
 | ro r=>cases hkx
 | res r=>exact this.1 k hkx
theorem cA {U U':List Nat} (w:World) (h:∀ k,k∈U'→k∈U):Hp.le (frz U w) (frz U' w):=by
 intro k o hk
 unfold frz at*
 split at hk
 ·cases hk
 ·rename_i hn
  rw [if_neg (fun hh=>hn (h k hh))]
  exact hk
theorem zVG (U:List Nat) (w:World):Hp.le (frz U w) (hp w):=by
 intro k o hk
 unfold frz at hk
 split at hk
 ·cases hk
 ·exact hk
theorem As.holds_mono {U U':List Nat} {w:World} (hU:∀ k,k∈U'→k∈U) {x:As} (h:x.holds U w):x.holds U' w:=by
 cases x with
 | ro r=>exact r.mono _ _ (cA w hU) h
 | res r=>exact ⟨h.1,h.2.1,r.qloc _ _ _ _ (fun _ _=>rfl) (cA w hU) h.2.2⟩
theorem Sat.of_mem {F F':List As} {w:World} (hn:(zW F').Nodup) (hm:∀ x∈F',x∈F) (h:Sat F w):Sat F' w:=by
 refine ⟨hn,fun x hx=>As.holds_mono (fun k hk=>?_) (h.all x (hm x hx))⟩
 obtain ⟨y,hy,hky⟩:=kX.1 hk
 exact kX.2 ⟨y,hm y hy,hky⟩
theorem Sat.nil (w:World):Sat [] w:=⟨by simp [zW],by simp⟩
theorem Sat.tail {x:As} {F:List As} {w:World} (h:Sat (x::F) w):Sat F w:=
 h.of_mem (List.nodup_append.1 h.nodup).2.1 fun _ hy=>List.mem_cons_of_mem _ hy
theorem Sat.add_ro {F:List As} {w:World} (h:Sat F w) (r:Ro) (hr:r.p (frz (zW F) w)):Sat (.ro r::F) w:=by
 refine ⟨by simpa [zW,As.gs] using h.nodup,fun x hx=>?_⟩
 have e:zW (.ro r::F)=zW F:=by simp [zW,As.gs]
 rw [e]
 cases hx with
 | head=>exact hr
 | tail _ hx=>exact h.all x hx
theorem Sat.ro {F:List As} {w:World} (h:Sat F w) {r:Ro} (hr:As.ro r∈F):r.p (frz (zW F) w):=h.all _ hr
theorem Sat.ro_hp {F:List As} {w:World} (h:Sat F w) {r:Ro} (hr:As.ro r∈F):r.p (hp w):=r.mono _ _ (zVG _ _) (h.ro hr)
theorem Sat.res {F:List As} {w:World} (h:Sat F w) {r:Res} (hr:As.res r∈F):r.p (hp w):=(h.all _ hr).2.1
theorem Sat.resq {F:List As} {w:World} (h:Sat F w) {r:Res} (hr:As.res r∈F):r.q (hp w) (frz (zW F) w):=(h.all _ hr).2.2
structure Same (w w':World):Prop where
 os:w'.os=w.os
 tape:w'.tape=w.tape
 output:w'.output=w.output
 size:w.heap.size≤w'.heap.size
theorem Same.refl (w:World):Same w w:=⟨rfl,rfl,rfl,Nat.le_refl _⟩
theorem Same.trans {a b c:World} (h:Same a b) (k:Same b c):Same a c:=
 ⟨k.os.trans h.os,k.tape.trans h.tape,k.output.trans h.output,Nat.le_trans h.size k.size⟩
structure Ext (w w':World):Prop extends Same w w' where
 block:∀ k,k<w.heap.size→w'.heap[k]? =w.heap[k]?
theorem Ext.refl (w:World):Ext w w:=⟨Same.refl w,fun _ _=>rfl⟩
theorem Ext.trans {a b c:World} (h:Ext a b) (k:Ext b c):Ext a c:=
 ⟨h.toSame.trans k.toSame,fun i hi=>(k.block i (Nat.lt_of_lt_of_le hi h.size)).trans (h.block i hi)⟩
theorem Ext.drew (w:World):Ext w w.drew:=⟨⟨rfl,rfl,rfl,Nat.le_refl _⟩,fun _ _=>rfl⟩
theorem Ext.alloc (w:World) (o:Obj):Ext w (w.alloc o):=⟨⟨rfl,rfl,rfl,by simp⟩,fun _ hk=>heap_alloc_old w o hk⟩
theorem Ext.cell {w w':World} (h:Ext w w') {p:Addr} {v:Value} (hc:w.cell? p=some v):w'.cell? p=some v:=
 (World.cell?_of_block (w:=w) (h.block p.block (World.block_lt_of_cell? w p hc))).trans hc
theorem zOl {U:List Nat} {w w':World} (h:Ext w w'):Hp.le (frz U w) (frz U w'):=by
 intro k o hk
 unfold frz at*
 split at hk
 ·cases hk
 ·rename_i hn
  rw [if_neg hn,h.block k (Array.getElem?_eq_some_iff.1 hk).1]
  exact hk
theorem Sat.ext {F:List As} {w w':World} (h:Sat F w) (he:Ext w w'):Sat F w':=by
 refine ⟨h.nodup,fun x hx=>?_⟩
 have hh:=h.all x hx
 cases x with
 | ro r=>exact r.mono _ _ (zOl he) hh
 | res r=>
  have hb:∀ k,k∈r.gs→hp w k=hp w' k:=fun k hk=>(he.block k (hh.1 k hk)).symm
  exact ⟨fun k hk=>Nat.lt_of_lt_of_le (hh.1 k hk) he.size,r.loc _ _ hb hh.2.1,r.qloc _ _ _ _ hb (zOl he) hh.2.2⟩
theorem Sat.add_res {F:List As} {w w':World} (h:Sat F w) (he:Ext w w') (r:Res) (hn:r.gs.Nodup) (hg:∀ k,k∈r.gs→w.heap.size≤k∧k<w'.heap.size) (hr:r.p (hp w')) (hq:r.q (hp w') (frz (r.gs++zW F) w'):=by exact True.intro):Sat (.res r::F) w':=by
 have h':=h.ext he
 have hle:Hp.le (frz (zW F) w) (frz (r.gs++zW F) w'):=by
  intro k o hk
  unfold frz at*
  split at hk
  ·cases hk
  ·rename_i hn
   have hlt:=(Array.getElem?_eq_some_iff.1 hk).1
   rw [if_neg,he.block k hlt]
   ·exact hk
   ·intro hm
    simp only [List.mem_append] at hm
    rcases hm with hm | hm
    ·have:=(hg k hm).1; omega
    ·exact hn hm
 refine ⟨?_,fun x hx=>?_⟩
 ·simp only [zW,As.gs]
  refine List.nodup_append.2 ⟨hn,h.nodup,fun a ha b hb e=>?_⟩
  have:=h.lt hb
  have:=(hg a ha).1
  omega
 ·cases hx with
  | head=>exact ⟨fun k hk=>(hg k hk).2,hr,hq⟩
  | tail _ hx=>
   have hh:=h.all x hx
   cases x with
   | res r'=>
    have h2:=h'.all _ hx
    exact ⟨h2.1,h2.2.1,r'.qloc _ _ _ _ (fun k hk=>(he.block k (hh.1 k hk)).symm) hle hh.2.2⟩
   | ro r'=>exact r'.mono _ _ hle hh
structure sT (gs:List Nat) (w w':World):Prop extends Same w w' where
 block:∀ k,k<w.heap.size→k∉gs→w'.heap[k]? =w.heap[k]?
theorem sT.of_ext {gs:List Nat} {w w':World} (h:Ext w w'):sT gs w w':=⟨h.toSame,fun k hk _=>h.block k hk⟩
theorem sT.trans {gs:List Nat} {a b c:World} (h:sT gs a b) (k:sT gs b c):sT gs a c:=
 ⟨h.toSame.trans k.toSame,fun i hi hn=>(k.block i (Nat.lt_of_lt_of_le hi h.size) hn).trans (h.block i hi hn)⟩
theorem sT.setCell (w:World) (p:Addr) (v:Value):sT [p.block] w (w.setCell p v):=
 ⟨⟨rfl,rfl,rfl,by simp⟩,fun k _ hn=>heap_setCell_other w p k v (by simpa using hn)⟩
theorem Sat.exchange {F:List As} {w w':World} {r r':Res} (h:Sat (.res r::F) w) (hw:sT r.gs w w') (hn:r'.gs.Nodup) (hg:∀ k,k∈r'.gs→k<w'.heap.size∧(k∈r.gs∨w.heap.size≤k))
  (hr:r'.p (hp w')) (hq:r'.q (hp w') (frz (r'.gs++zW F) w'):=by exact True.intro):Sat (.res r'::F) w':=by
 have hnd:=List.nodup_append.1 h.nodup
 have hle:Hp.le (frz (zW (.res r::F)) w) (frz (r'.gs++zW F) w'):=by
  intro k o hk
  unfold frz at*
  split at hk
  ·cases hk
  ·rename_i hnn
   have hlt:=(Array.getElem?_eq_some_iff.1 hk).1
   simp only [zW,As.gs,List.mem_append,not_or] at hnn
   rw [if_neg,hw.block k hlt hnn.1]
   ·exact hk
   ·simp only [List.mem_append,not_or]
    refine ⟨fun hm=>?_,hnn.2⟩
    rcases (hg k hm).2 with h1 | h1
    ·exact hnn.1 h1
    ·omega
 have hdis:∀ k,k∈r'.gs→k∉zW F:=by
  intro k hk hb
  rcases (hg k hk).2 with h1 | h1
  ·exact hnd.2.2 k h1 k hb rfl
  ·have:=h.lt (k:=k) (by simp only [zW,As.gs,List.mem_append]; exact .inr hb)
   omega
 refine ⟨?_,fun x hx=>?_⟩
 ·simp only [zW,As.gs]
  exact List.nodup_append.2 ⟨hn,hnd.2.1,fun a ha b hb e=>hdis a ha (e▸hb)⟩
 ·cases hx with
  | head=>exact ⟨fun k hk=>(hg k hk).1,hr,hq⟩
  | tail _ hx=>
   have hh:=h.all x (List.mem_cons_of_mem _ hx)
   cases x with
   | res r''=>
    have hb:∀ k,k∈r''.gs→hp w k=hp w' k:=fun k hk=>(hw.block k (hh.1 k hk) (fun hm=>hnd.2.2 k hm k (kX.2 ⟨_,hx,hk⟩) rfl)).symm
    exact ⟨fun k hk=>Nat.lt_of_lt_of_le (hh.1 k hk) hw.size,r''.loc _ _ hb hh.2.1,r''.qloc _ _ _ _ hb hle hh.2.2⟩
   | ro r''=>exact r''.mono _ _ hle hh
inductive Upd:List As→As→List As→As→Prop
 | z {x x':As} {F:List As}:Upd (x::F) x (x'::F) x'
 | s {x x' y:As} {F F':List As} (h:Upd F x F' x'):Upd (y::F) x (y::F') x'
inductive Del:List As→As→List As→Prop
 | z {x:As} {F:List As}:Del (x::F) x F
 | s {x y:As} {F F':List As} (h:Del F x F'):Del (y::F) x (y::F')
theorem Upd.del {F F':List As} {x x':As} (h:Upd F x F' x'):∃ G,Del F x G∧Del F' x' G:=by
 induction h with
 | z=>exact ⟨_, .z, .z⟩
 | s _ ih=>obtain ⟨G,h1,h2⟩:=ih; exact ⟨_, .s h1, .s h2⟩
theorem Del.perm {F G:List As} {x:As} (h:Del F x G):F.Perm (x::G):=by
 induction h with
 | z=>exact List.Perm.refl _
 | s _ ih=>exact (ih.cons _).trans (List.Perm.swap ..)
theorem Del.mem {F G:List As} {x:As} (h:Del F x G):x∈F:=h.perm.mem_iff.2 (List.mem_cons_self ..)
theorem Upd.mem {F F':List As} {x x':As} (h:Upd F x F' x'):x∈F:=by
 obtain ⟨G,h1,_⟩:=h.del
 exact h1.mem
theorem zDO {F G:List As} (h:F.Perm G):(zW F).Perm (zW G):=by
 induction h with
 | nil=>exact List.Perm.refl _
 | cons x _ ih=>exact ih.append_left _
 | swap x y l=>
  simp only [zW,←List.append_assoc]
  exact (List.perm_append_comm).append_right _
 | trans _ _ ih1 ih2=>exact ih1.trans ih2
theorem Sat.perm {F G:List As} {w:World} (h:Sat F w) (p:F.Perm G):Sat G w:=
 h.of_mem ((zDO p).nodup_iff.1 h.nodup) fun _ hx=>p.mem_iff.2 hx
theorem Sat.front {F G:List As} {x:As} {w:World} (h:Sat F w) (d:Del F x G):Sat (x::G) w:=h.perm d.perm
def St (w0:World) (nt:Nat) (Γ:Env) (F:List As) (X:Act→World→Prop):Prop:=
 ∀ a w,a.tmps.size=nt→a.defers= []→At a Γ→Sat F w→Same w0 w→X a w
section
variable {P:Program} {w0:World} {nt:Nat} {Γ Γ':Env} {F F':List As} {X:Act→World→Prop} {Q:Exit→Act→World→Prop}
theorem St.weak (hΓ:zAU Γ' Γ) (hF:∀ w,Sat F w→Sat F' w) (h:St w0 nt Γ' F' X):St w0 nt Γ F X:=
 fun a w hs hd ha hf hw=>h a w hs hd (ha.sub hΓ) (hF w hf) hw
theorem St.slots (hΓ:zAU Γ' Γ) (h:St w0 nt Γ' F X):St w0 nt Γ F X:=St.weak hΓ (fun _ h=>h) h
theorem St.asrt (hF:∀ w,Sat F w→Sat F' w) (h:St w0 nt Γ F' X):St w0 nt Γ F X:=
 fun a w hs hd ha hf hw=>h a w hs hd ha (hF w hf) hw
theorem St.seq {x y:Code} (h:St w0 nt Γ F (x.wp P (Exit.then (y.wp P Q) Q))):St w0 nt Γ F ((Code.seq x y).wp P Q):=
 fun a w hs hd ha hf hw=>wp_seq (h a w hs hd ha hf hw)
theorem St.block {id:Nat} {c:Code} (h:St w0 nt Γ F (c.wp P (Exit.inBlock id Q))):St w0 nt Γ F ((Code.block id c).wp P Q):=
 fun a w hs hd ha hf hw=>wp_block (h a w hs hd ha hf hw)
theorem St.skip (h:St w0 nt Γ F (Q .normal)):St w0 nt Γ F (Code.skip.wp P Q):=fun a w hs hd ha hf hw=>wp_skip (h a w hs hd ha hf hw)
theorem St.ret (h:St w0 nt Γ F (Q .ret)):St w0 nt Γ F (Code.ret.wp P Q):=fun a w hs hd ha hf hw=>wp_ret (h a w hs hd ha hf hw)
theorem St.exit {id:Nat} (h:St w0 nt Γ F (Q (.exit id))):St w0 nt Γ F ((Code.exit id).wp P Q):=fun a w hs hd ha hf hw=>wp_exit (h a w hs hd ha hf hw)
theorem St.cond {c:Operand} {x y:Code} (b:Bool) (hc:ev Γ c=some (.bool b)) (ht:b=true→St w0 nt Γ F (x.wp P Q)) (hf:b=false→St w0 nt Γ F (y.wp P Q)):
  St w0 nt Γ F ((Code.cond c x y).wp P Q):=
 fun a w hs hd ha hff hw=>wp_cond_split (ha.eval hc) (fun e=>ht e a w hs hd ha hff hw) (fun e=>hf e a w hs hd ha hff hw)
theorem St.condT {c:Operand} {x y:Code} (hc:ev Γ c=some (.bool true)) (ht:St w0 nt Γ F (x.wp P Q)):St w0 nt Γ F ((Code.cond c x y).wp P Q):=
 St.cond true hc (fun _=>ht) (fun e=>by cases e)
theorem St.condF {c:Operand} {x y:Code} (hc:ev Γ c=some (.bool false)) (ht:St w0 nt Γ F (y.wp P Q)):St w0 nt Γ F ((Code.cond c x y).wp P Q):=
 St.cond false hc (fun e=>by cases e) (fun _=>ht)
theorem St.thenN {n:Act→World→Prop} (h:St w0 nt Γ F n):St w0 nt Γ F (Exit.then n Q .normal):=h
theorem St.thenR {n:Act→World→Prop} (h:St w0 nt Γ F (Q .ret)):St w0 nt Γ F (Exit.then n Q .ret):=h
theorem St.thenX {n:Act→World→Prop} {i:Nat} (h:St w0 nt Γ F (Q (.exit i))):St w0 nt Γ F (Exit.then n Q (.exit i)):=h
theorem St.blkN {id:Nat} (h:St w0 nt Γ F (Q .normal)):St w0 nt Γ F (Exit.inBlock id Q .normal):=h
theorem St.blkR {id:Nat} (h:St w0 nt Γ F (Q .ret)):St w0 nt Γ F (Exit.inBlock id Q .ret):=h
theorem St.blkHit {id:Nat} (h:St w0 nt Γ F (Q .normal)):St w0 nt Γ F (Exit.inBlock id Q (.exit id)):=
 fun a w hs hd ha hf hw=>by simpa [Exit.inBlock] using h a w hs hd ha hf hw
theorem St.blkMiss {id i:Nat} (hi:Nat.beq i id=false) (h:St w0 nt Γ F (Q (.exit i))):St w0 nt Γ F (Exit.inBlock id Q (.exit i)):=
 fun a w hs hd ha hf hw=>by
  have:i≠id:=fun e=>by subst e; simp at hi
  simpa [Exit.inBlock,this] using h a w hs hd ha hf hw
theorem St.cut {c:Code} {n:Act→World→Prop} (Γ':Env) (F':List As) (h1:St w0 nt Γ F (c.wp P (Exit.then (fun a w=>a.tmps.size=nt∧a.defers= []∧At a Γ'∧Sat F' w∧Same w0 w) Q)))
  (h2:St w0 nt Γ' F' n):St w0 nt Γ F (c.wp P (Exit.then n Q)):=
 fun a w hs hd ha hf hw=>wp_mono (h1 a w hs hd ha hf hw) fun e a' w' hq=>by
  cases e with
  | normal=>exact h2 a' w' hq.1 hq.2.1 hq.2.2.1 hq.2.2.2.1 hq.2.2.2.2
  | _=>exact hq
class Walk (P:outParam Program) (ops:outParam (Array Oper)) (X:List Oper→Act→World→Prop):Prop where
 val:∀ (o:Oper) (rest:List Oper) (a:Act) (w:World) (v:Value),Region.wanted o (yielded ops a.tmps)=true→
  (∀ w',Ext w w'→(execOp a.eval o).run P w'= .ok (.value v) w')→X rest (a.put o.dst v) w→X (o::rest) a w
 pass:∀ (o:Oper) (rest:List Oper) (a:Act) (w:World),Region.wanted o (yielded ops a.tmps)=false→X rest (a.put o.dst undef) w→X (o::rest) a w
 bare:∀ (o o':Oper) (rest:List Oper) (a:Act) (w:World),Region.wanted o (yielded ops a.tmps)=true→Region.wanted o' (yielded ops a.tmps)=true→o'.dst=o.dst→o'.op=o.op→o'.type=o.type→X (o'::rest) a w→X (o::rest) a w
 call:∀ (o:Oper) (rest:List Oper) (a:Act) (w:World) (f:FuncId) (args:Array Value) (v:Value),Region.wanted o (yielded ops a.tmps)=true→
  (∀ w',Ext w w'→(execOp a.eval o).run P w'= .ok (.enter f args) w')→(∀ w',Ext w w'→Calls P f args w' fun e w''=>e= .returned v∧Ext w' w'')→
  (∀ w',Ext w w'→X rest (a.put o.dst v) w')→X (o::rest) a w

instance (P:Program) (ops:Array Oper) (Q:Exit→Act→World→Prop):Walk P ops (wpList P ops Q) where
 val o rest a w v hw hr hx:=by
  refine wpList_step fun K hK=>?_
  rw [if_pos hw]
  unfold Oper.wp
  rw [hr w (Ext.refl w)]
  exact hK _ _ hx
 pass o rest a w hw hx:=by
  refine wpList_step fun K hK=>?_
  rw [if_neg (by simp [hw])]
  exact hK _ _ hx
 bare o o' rest a w hw hw' h1 h2 h3 hx:=by
  obtain ⟨d,op,t,p,af,g⟩:=o
  obtain ⟨d',op',t',p',af',g'⟩:=o'
  simp only at h1 h2 h3
  subst h1; subst h2; subst h3
  unfold wpList at hx ⊢
  rw [if_pos hw'] at hx
  rw [if_pos hw]
  exact hx
 call o rest a w f args v hw hr hc hx:=by
  refine wpList_step fun K hK=>?_
  rw [if_pos hw]
  unfold Oper.wp
  rw [hr w (Ext.refl w)]
  show Calls P f args w _
  exact (hc w (Ext.refl w)).mono fun e w' ⟨he,h2⟩=>by subst he; exact hK _ _ (hx w' h2)
def wpQ (P:Program) (ops:Array Oper) (Q:Exit→Act→World→Prop) (rest:List Oper) (a:Act) (w:World):Prop:=
 wpQuiet P ops (Ext w) (fun a'=>∀ w',Ext w w'→Q .normal a' w') rest a
instance (P:Program) (ops:Array Oper) (Q:Exit→Act→World→Prop):Walk P ops (wpQ P ops Q) where
 val o rest a w v hw hr hx:=by
  refine wpQuiet_step fun K hK=>?_
  rw [if_pos hw]
  refine ⟨v,fun w' he=>?_,hK _ hx⟩
  unfold Oper.quietAt
  rw [hr w' he]
  exact ⟨rfl,rfl⟩
 pass o rest a w hw hx:=by
  refine wpQuiet_step fun K hK=>?_
  rw [if_neg (by simp [hw])]
  exact hK _ hx
 bare o o' rest a w hw hw' h1 h2 h3 hx:=by
  obtain ⟨d,op,t,p,af,g⟩:=o
  obtain ⟨d',op',t',p',af',g'⟩:=o'
  simp only at h1 h2 h3
  subst h1; subst h2; subst h3
  unfold wpQ wpQuiet at hx ⊢
  rw [if_pos hw'] at hx
  rw [if_pos hw]
  exact hx
 call o rest a w f args v hw hr hc hx:=by
  refine wpQuiet_step fun K hK=>?_
  rw [if_pos hw]
  refine ⟨v,fun w' he=>?_,hK _ (hx _ (Ext.refl _))⟩
  unfold Oper.quietAt
  rw [hr w' he]
  exact ⟨rfl,(hc w' he).mono fun e w'' ⟨h1,h2⟩=>⟨h1,he.trans h2⟩⟩
theorem St.region {id:Nat} {l:List Oper} (h:St w0 nt Γ F (wpList P l.toArray Q l)):St w0 nt Γ F ((Code.region id l.toArray false).wp P Q):=
 fun a w hs hd ha hf hw=>wp_region_lit (h a w hs hd ha hf hw)
theorem St.done {ops:Array Oper} (h:St w0 nt Γ F (Q .normal)):St w0 nt Γ F (wpList P ops Q []):=fun a w hs hd ha hf hw=>wpList_nil (h a w hs hd ha hf hw)
theorem St.doneQ {ops:Array Oper} (h:St w0 nt Γ F (Q .normal)):St w0 nt Γ F (wpQ P ops Q []):=
 fun a _ hs hd ha hf hw=>wpQuiet_nil fun w' he=>h a w' hs hd ha (hf.ext he) (hw.trans he.toSame)
end
end Go.Proofs.YtplchdlgdjcojaaGreatDoor
end
section
namespace Go.Proofs.YtplchdlgdjcojaaGreatDoor
open Go
inductive TD where
 | bool | int (k:IntKind) | string | pointer (e:Nat) | slice (e:Nat) | array (n:Nat) (e:Nat) | map (k e:Nat)
 | struct (fs:List (Nat × Nat × Bool))
 | other
def qF (f:Field):Nat × Nat × Bool:=(f.type,f.offset,f.name== "_")
def TD.of:TypeDesc→TD
 | .bool=>.bool
 | .int k=>.int k
 | .string=>.string
 | .pointer e=>.pointer e
 | .slice e=>.slice e
 | .array n e=>.array n e
 | .map k e=>.map k e
 | .struct fs=>.struct (fs.toList.map qF)
 | _=>.other
theorem TD.of_bool {d:TypeDesc} (h:TD.of d= .bool):d= .bool:=by cases d <;> simp [TD.of] at h ⊢
theorem TD.of_int {d:TypeDesc} {k:IntKind} (h:TD.of d= .int k):d= .int k:=by cases d <;> simp [TD.of] at h ⊢; exact h
theorem TD.of_string {d:TypeDesc} (h:TD.of d= .string):d= .string:=by cases d <;> simp [TD.of] at h ⊢
theorem TD.of_slice {d:TypeDesc} {e:Nat} (h:TD.of d= .slice e):d= .slice e:=by cases d <;> simp [TD.of] at h ⊢; exact h
theorem TD.of_pointer {d:TypeDesc} {e:Nat} (h:TD.of d= .pointer e):d= .pointer e:=by cases d <;> simp [TD.of] at h ⊢; exact h
theorem TD.of_array {d:TypeDesc} {n e:Nat} (h:TD.of d= .array n e):d= .array n e:=by cases d <;> simp [TD.of] at h ⊢; exact h
theorem TD.of_map {d:TypeDesc} {k e:Nat} (h:TD.of d= .map k e):d= .map k e:=by cases d <;> simp [TD.of] at h ⊢; exact h
theorem TD.of_struct {d:TypeDesc} {l:List (Nat × Nat × Bool)} (h:TD.of d= .struct l):∃ fs:Array Field,d= .struct fs∧fs.toList.map qF=l:=by cases d <;> simp [TD.of] at h ⊢; exact h
structure TI where
 desc:TD
 size:Nat
 bytes:Nat
 zero:Value
 cmp:Bool
abbrev TT:=List (Nat × TI)
def yK:TT→Nat→Option TI
 | [],_=>none
 | (k,v)::r,i=>bif Nat.beq k i then some v else yK r i
def TI.ok (P:Program) (t:Nat) (i:TI):Prop:=
 (P.underlying t).map TD.of=some i.desc∧(P.info? t).map (fun j=>(j.size,j.bytes,j.zero))=some (i.size,i.bytes,some i.zero)∧
  (i.cmp=true→P.stoodInHeld t=false∧P.eqGuardType P.depth t=false)
def mS (P:Program):TT→Prop
 | []=>True
 | (t,i)::r=>TI.ok P t i∧mS P r
theorem mS.get {P:Program}:∀ {tt:TT},mS P tt→∀ {t:Nat} {i:TI},yK tt t=some i→TI.ok P t i
 | [],_,_,_,h=>by simp [yK] at h
 | (k,j)::r,hk,t,i,h=>by
  simp only [yK] at h
  cases hb:Nat.beq k t
  ·simp only [hb,cond_false] at h; exact mS.get hk.2 h
  ·simp only [hb,cond_true] at h
   injection h with h
   have:=Nat.eq_of_beq_eq_true hb
   subst this; subst h
   exact hk.1

class HasTT (P:Program) where
 tt:TT
 ok:mS P tt
def nth {α:Type}:List α→Nat→Option α
 | [],_=>none
 | x::_,0=>some x
 | _::r,n+1=>nth r n
theorem zBk {α:Type}:∀ (l:List α) (n:Nat),nth l n=l[n]?
 | [],_=>by simp [nth]
 | _::_,0=>by simp [nth]
 | _::r,n+1=>by simp [nth,zBk r n]
def rK (k:IntKind) (x y:Int):Int:=k.wrap (BitVec.ofInt k.bits x&&&BitVec.ofInt k.bits y).toNat
def iOr (k:IntKind) (x y:Int):Int:=k.wrap (BitVec.ofInt k.bits x|||BitVec.ofInt k.bits y).toNat
def fN (k:IntKind) (x y:Int):Int:=k.wrap (BitVec.ofInt k.bits x ^^^ BitVec.ofInt k.bits y).toNat
def zTD (k:IntKind) (x y:Int):Int:=k.wrap (BitVec.ofInt k.bits x&&& ~~~BitVec.ofInt k.bits y).toNat
def kY (k:IntKind) (x y:Int):Int:=k.wrap (x*2 ^ (min y.toNat k.bits))
def uD (k:IntKind) (x y:Int):Int:=x.fdiv (2 ^ (min y.toNat k.bits))
def zNg (op:BinOp) (k:IntKind) (x y:Int):Option Value:=
 match op with
 | .add=>some (.int k (k.wrap (x+y)))
 | .sub=>some (.int k (k.wrap (x - y)))
 | .mul=>some (.int k (k.wrap (x*y)))
 | .quo=>match decide (y=0) with | true=>none | false=>some (.int k (k.wrap (x.tdiv y)))
 | .rem=>match decide (y=0) with | true=>none | false=>some (.int k (x.tmod y))
 | .and=>some (.int k (rK k x y))
 | .or=>some (.int k (iOr k x y))
 | .xor=>some (.int k (fN k x y))
 | .andNot=>some (.int k (zTD k x y))
 | .eql=>some (.bool (x==y))
 | .neq=>some (.bool (x != y))
 | .lss=>some (.bool (decide (x<y)))
 | .leq=>some (.bool (decide (x≤y)))
 | .gtr=>some (.bool (decide (x>y)))
 | .geq=>some (.bool (decide (x≥y)))
 | _=>none
def zAe (op:BinOp) (k:IntKind) (x y:Int):Option Value:=
 match decide (y<0) with
 | true=>none
 | false=>match op with
  | .shl=>some (.int k (kY k x y))
  | .shr=>some (.int k (uD k x y))
  | _=>none
def zVx (op:BinOp) (x y:ByteArray):Option Value:=
 match op with
 | .eql=>some (.bool (x.toList==y.toList))
 | .neq=>some (.bool (!(x.toList==y.toList)))
 | .lss=>some (.bool (Op.bytesLess x.toList y.toList))
 | .leq=>some (.bool (Op.bytesLess x.toList y.toList||x.toList==y.toList))
 | .gtr=>some (.bool (!(Op.bytesLess x.toList y.toList||x.toList==y.toList)))
 | .geq=>some (.bool (!(Op.bytesLess x.toList y.toList)))
 | _=>none
def zRu:TD→Bool
 | .struct _ | .array _ _=>true
 | _=>false
def zLK {β:Type}:List Value→Nat→(List Value→Option β)→Option β
 | _,0,k=>k []
 | [],_+1,_=>none
 | v::r,n+1,k=>zLK r n fun vs=>k (v::vs)
theorem zFE {β:Type}:∀ (l:List Value) (n:Nat) (k:List Value→Option β) (b:β),zLK l n k=some b→n≤l.length∧k (l.take n)=some b
 | _,0,k,b,h=>by simpa [zLK] using h
 | [],_+1,_,_,h=>by simp [zLK] at h
 | v::r,n+1,k,b,h=>by
  have:=zFE r n _ b h
  exact ⟨by simp; omega,by simpa using this.2⟩
def pP (tt:TT) (t:Nat) (cs:List Value) (off:Nat):Option Value:=
 match yK tt t with
 | some i=>match zRu i.desc with
  | true=>zLK (cs.drop off) i.size fun vs=>some (.agg vs.toArray)
  | false=>nth cs off
 | none=>none

mutual
def veq (tt:TT):Nat→Nat→Value→Value→Option Bool
 | 0,_,_,_=>none
 | n+1,t,x,y=>match yK tt t with
  | none=>none
  | some i=>match i.desc,x,y with
   | .bool, .bool a, .bool b=>some (a==b)
   | .int _, .int k a, .int k' b=>match decide (k=k') with | true=>some (a==b) | false=>none
   | .string, .string a, .string b=>some (a.toList==b.toList)
   | .struct fs, .agg xs, .agg ys=>match i.cmp with | true=>zHl tt n fs xs.toList ys.toList | false=>none
   | .array m e, .agg xs, .agg ys=>match yK tt e with
    | some j=>zHR tt n e j.size m 0 xs.toList ys.toList
    | none=>none
   | _,_,_=>none
def zHl (tt:TT):Nat→List (Nat × Nat × Bool)→List Value→List Value→Option Bool
 | _, [],_,_=>some true
 | 0,_::_,_,_=>none
 | n+1,f::fs,xs,ys=>match f.2.2 with
  | true=>none
  | false=>match pP tt f.1 xs f.2.1,pP tt f.1 ys f.2.1 with
   | some a,some b=>match veq tt n f.1 a b,zHl tt n fs xs ys with
    | some p,some q=>some (p&&q)
    | _,_=>none
   | _,_=>none
def zHR (tt:TT):Nat→Nat→Nat→Nat→Nat→List Value→List Value→Option Bool
 | _,_,_,0,_,_,_=>some true
 | 0,_,_,_+1,_,_,_=>none
 | n+1,e,sz,m+1,i,xs,ys=>match pP tt e xs (i*sz),pP tt e ys (i*sz) with
  | some a,some b=>match veq tt n e a b,zHR tt n e sz m (i+1) xs ys with
   | some p,some q=>some (p&&q)
   | _,_=>none
  | _,_=>none
end
def zCJ {β:Type} (A B:Option β):Option Bool:=match A,B with
 | none,b=>some b.isNone
 | some _,none=>some false
 | _,_=>none
def zMl (op:BinOp) (r:Option Bool):Option Value:=match op,r with
 | .eql,some b=>some (.bool b)
 | .neq,some b=>some (.bool (!b))
 | _,_=>none
def zFY (tt:TT) (op:BinOp) (t:Nat) (a b:Value):Option Value:=
 match a,b with
 | .int k x, .int k' y=>match op with
  | .shl=>zAe .shl k x y
  | .shr=>zAe .shr k x y
  | op=>match decide (k=k') with | true=>zNg op k x y | false=>none
 | .string s, .string u=>zVx op s u
 | .bool p, .bool q=>match yK tt t with
  | some i=>match i.desc,op with
   | .bool, .eql=>some (.bool (p==q))
   | .bool, .neq=>some (.bool (!(p==q)))
   | _,_=>none
  | none=>none
 | .agg xs, .agg ys=>match yK tt t with
  | some i=>match i.cmp,op with
   | true, .eql=>match veq tt 60 t (.agg xs) (.agg ys) with | some r=>some (.bool r) | none=>none
   | true, .neq=>match veq tt 60 t (.agg xs) (.agg ys) with | some r=>some (.bool (!r)) | none=>none
   | _,_=>none
  | none=>none
 | .slice A _ _, .slice B _ _=>match yK tt t with
  | some i=>match i.desc with | .slice _=>zMl op (zCJ A B) | _=>none
  | none=>none
 | .pointer A, .pointer B=>match yK tt t with
  | some i=>match i.desc with | .pointer _=>zMl op (zCJ A B) | _=>none
  | none=>none
 | .map A, .map B=>match yK tt t with
  | some i=>match i.desc with | .map _ _=>zMl op (zCJ A B) | _=>none
  | none=>none
 | _,_=>none
def pun (op:UnOp) (v:Value):Option Value:=
 match op,v with
 | .not, .bool b=>some (.bool (!b))
 | .neg, .int k n=>some (.int k (k.wrap (0 - n)))
 | .xor, .int k n=>some (.int k (fN k (if k.signed then -1 else k.max) n))
 | _,_=>none
def zRz (tt:TT) (s d:Nat) (v:Value):Option Value:=
 match yK tt s,yK tt d with
 | some _,some j=>match j.desc,v with
  | .int k, .int _ n=>some (.int k (k.wrap n))
  | .string, .string b=>some (.string b)
  | _,_=>none
 | _,_=>none
def zWO (a:Addr) (n:Nat):Addr:=match n with | 0=>a | n+1=>⟨a.block,a.off+(n+1),none⟩
theorem zOK (a:Addr) (n:Nat):zWO a n=a.add n:=by cases n <;> rfl
def zBw (tt:TT) (s:Nat) (v:Value) (f:Nat):Option Value:=
 match yK tt s,v with
 | some i, .pointer (some a)=>match i.desc with
  | .struct fs=>match nth fs f with
   | some fd=>match yK tt fd.1 with
    | some j=>match j.size with
     | 0=>none
     | _+1=>some (.pointer (some (zWO a fd.2.1)))
    | none=>none
   | none=>none
  | _=>none
 | _,_=>none
def zMI (tt:TT) (s:Nat) (v:Value) (f:Nat):Option Value:=
 match yK tt s,v with
 | some i, .agg cs=>match i.desc with
  | .struct fs=>match nth fs f with
   | some fd=>pP tt fd.1 cs.toList fd.2.1
   | none=>none
  | _=>none
 | _,_=>none
def zMB (tt:TT) (s:Nat) (v ix:Value):Option Value:=
 match yK tt s,v,ix with
 | some i, .agg cs, .int _ n=>match i.desc with
  | .array len e=>match yK tt e,decide (0≤n),decide (n<(len:Int)) with
   | some j,true,true=>pP tt e cs.toList (n.toNat*j.size)
   | _,_,_=>none
  | _=>none
 | _,_,_=>none
def zBB (tt:TT) (s:Nat) (v ix:Value):Option Value:=
 match yK tt s,v,ix with
 | some i, .pointer (some a), .int _ n=>match i.desc with
  | .array len e=>match yK tt e,decide (0≤n),decide (n<(len:Int)) with
   | some j,true,true=>some (.pointer (some (zWO a (n.toNat*j.size))))
   | _,_,_=>none
  | _=>none
 | _,_,_=>none
def zWz (tt:TT) (ts:List Nat) (v:Value):Option Value:=
 match ts with
 | [t]=>match yK tt t with
  | some i=>match i.desc,v with
   | .string, .string s=>some (.int .i64 s.size)
   | .slice _, .slice _ n _=>some (.int .i64 n)
   | .array n _,_=>some (.int .i64 n)
   | _,_=>none
  | none=>none
 | _=>none
def zWW (a b:Value):Option Value:=
 match a,b with
 | .int k x, .int k' y=>match decide (k=k') with | true=>some (.int k (min x y)) | false=>none
 | _,_=>none
def zVO (a b:Value):Option Value:=
 match a,b with
 | .int k x, .int k' y=>match decide (k=k') with | true=>some (.int k (max x y)) | false=>none
 | _,_=>none
def zSL (tt:TT) (Γ:Env) (c:Call):Option Value:=
 match c.callee,c.args.toList with
 | .builtin .len, [x]=>match ev Γ x with | some v=>zWz tt c.argTypes.toList v | none=>none
 | .builtin .min, [x,y]=>match ev Γ x,ev Γ y with | some v,some u=>zWW v u | _,_=>none
 | .builtin .max, [x,y]=>match ev Γ x,ev Γ y with | some v,some u=>zVO v u | _,_=>none
 | _,_=>none
def zc:Value→List Value
 | .agg cs=>cs.toList
 | v=> [v]
theorem iX (v:Value):(zc v).toArray=v.cells:=by cases v <;> simp [zc,Value.cells]
def uE:List Value→Nat→List Value→(List Value→Option (List Value))→Option (List Value)
 | cs,0, [],k=>k cs
 | [],0,_::_,_=>none
 | _::r,0,v::vs,k=>uE r 0 vs fun l=>k (v::l)
 | [],_+1,_,_=>none
 | c::r,n+1,vs,k=>uE r n vs fun l=>k (c::l)
theorem jF:∀ (cs:List Value) (n:Nat) (vs:List Value) (k:List Value→Option (List Value)) (r:List Value),uE cs n vs k=some r→
  n+vs.length≤cs.length∧k (cs.take n++vs++cs.drop (n+vs.length))=some r
 | cs,0, [],k,r,h=>by simpa [uE] using h
 | [],0,_::_,_,_,h=>by simp [uE] at h
 | c::cs,0,v::vs,k,r,h=>by
  simp only [uE] at h
  have:=jF cs 0 vs _ r h
  exact ⟨by have:=this.1; simp at*; omega,by simpa using this.2⟩
 | [],_+1,_,_,_,h=>by simp [uE] at h
 | c::cs,n+1,vs,k,r,h=>by
  simp only [uE] at h
  have:=jF cs n vs _ r h
  refine ⟨by have:=this.1; simp at*; omega,?_⟩
  have e:n+1+vs.length=(n+vs.length)+1:=by omega
  rw [e]
  simpa using this.2
def zBW (Γ:Env) (pl:Nat→Option (Nat × Nat)):List Value→List (Nat × Operand)→Option (List Value)
  | cs, []=>some cs
  | cs,(i,x)::r=>match pl i,ev Γ x with
    | some (off,sz),some v=>match Nat.beq (zc v).length sz with
      | true=>match uE cs off (zc v) some with
        | some cs'=>zBW Γ pl cs' r
        | none=>none
      | false=>none
    | _,_=>none
def gR (tt:TT):List (Nat × Nat × Bool)→Bool
 | []=>true
 | f::r=>match yK tt f.1 with | some _=>gR tt r | none=>false
def zEV (tt:TT) (fs:List (Nat × Nat × Bool)) (i:Nat):Option (Nat × Nat):=
 match nth fs i with
 | some f=>match yK tt f.1 with
  | some j=>some (f.2.1,j.size)
  | none=>none
 | none=>none
def zMj (tt:TT) (Γ:Env) (t:Nat) (ps:List (Nat × Operand)):Option Value:=
 match yK tt t with
 | some i=>match i.desc with
  | .struct fs=>match gR tt fs with
   | true=>match zBW Γ (zEV tt fs) (zc i.zero) ps with
    | some cs=>some (.agg cs.toArray)
    | none=>none
   | false=>none
  | .array _ e=>match yK tt e with
   | some j=>match zBW Γ (fun i=>some (i*j.size,j.size)) (zc i.zero) ps with
    | some cs=>some (.agg cs.toArray)
    | none=>none
   | none=>none
  | _=>none
 | none=>none
def pev (tt:TT) (Γ:Env):Op→Option Value
 | .build t ps=>zMj tt Γ t ps.toList
 | .move x=>ev Γ x
 | .assign x=>ev Γ x
 | .pick c a b=>match ev Γ c with
  | some (.bool true)=>ev Γ a
  | some (.bool false)=>ev Γ b
  | _=>none
 | .binOp op t x y _=>match ev Γ x,ev Γ y with
  | some a,some b=>zFY tt op t a b
  | _,_=>none
 | .unOp op _ x=>match ev Γ x with | some v=>pun op v | none=>none
 | .extract t i=>match ev Γ t with | some (.tuple vs)=>nth vs.toList i | _=>none
 | .convert s d x=>match ev Γ x with | some v=>zRz tt s d v | none=>none
 | .fieldAddr s x f=>match ev Γ x with | some v=>zBw tt s v f | none=>none
 | .field s x f=>match ev Γ x with | some v=>zMI tt s v f | none=>none
 | .index s x ix=>match ev Γ x,ev Γ ix with | some v,some n=>zMB tt s v n | _,_=>none
 | .indexAddr s x ix=>match ev Γ x,ev Γ ix with | some v,some n=>zBB tt s v n | _,_=>none
 | .nilCheck x=>match ev Γ x with | some (.pointer (some a))=>some (.pointer (some a)) | _=>none
 | .makeFunc fn first captured=>match evs Γ first.toList,evs Γ captured.toList with
  | some vs,some us=>some (.func fn vs.toArray us.toArray)
  | _,_=>none
 | .call c=>zSL tt Γ c
 | _=>none
section
variable {P:Program} {tt:TT}
theorem yJ (hk:mS P tt) {t:Nat} {i:TI} (h:yK tt t=some i) (w:World):(sizeOf t).run P w= .ok i.size w:=by
 have:=(hk.get h).2.1
 cases hi:P.info? t with
 | none=>simp [hi] at this
 | some j=>simp [hi] at this; simp [sizeOf,typeInfo,hi,this.1]
theorem vU (hk:mS P tt) {t:Nat} {i:TI} (h:yK tt t=some i) (w:World):(zeroValue t).run P w= .ok i.zero w:=by
 have:=(hk.get h).2.1
 cases hi:P.info? t with
 | none=>simp [hi] at this
 | some j=>simp [hi] at this; simp [zeroValue,typeInfo,hi,this.2.2]
theorem mS.desc (hk:mS P tt) {t:Nat} {i:TI} (h:yK tt t=some i):∃ d,P.underlying t=some d∧TD.of d=i.desc:=by
 have:=(hk.get h).1
 cases hu:P.underlying t with
 | none=>simp [hu] at this
 | some d=>rw [hu] at this; exact ⟨d,rfl,by simpa using this⟩
theorem zCA (hk:mS P tt) {t:Nat} {i:TI} (h:yK tt t=some i) (w:World):(isAgg t).run P w= .ok (zRu i.desc) w:=by
 obtain ⟨d,hu,hd⟩:=hk.desc h
 unfold isAgg
 rw [Sem.run_bind,run_underlying hu,←hd]
 cases d <;> rfl
theorem dX (hk:mS P tt) {t:Nat} {cs:Array Value} {off:Nat} {v:Value} (h:pP tt t cs.toList off=some v) (w:World):(part t cs off).run P w= .ok v w:=by
 unfold pP at h
 split at h
 ·rename_i i hi
  unfold part
  rw [Sem.run_bind,zCA hk hi]
  split at h
  ·rename_i ha
   have h:=(zFE _ _ _ _ h).2
   injection h with h
   subst h
   simp only [Result.andThen_ok,ha,if_true,Sem.run_bind,yJ hk hi,Sem.run_pure]
   congr 2
   apply Array.ext'
   simp [Array.toList_extract,List.extract,Nat.add_sub_cancel_left]
  ·rename_i ha
   rw [zBk] at h
   simp only [Result.andThen_ok,ha,Bool.false_eq_true,if_false]
   have:cs[off]? =some v:=by simpa using h
   simp [this]
 ·cases h
theorem zRD {op:BinOp} {k:IntKind} {x y:Int} {v:Value} (h:zNg op k x y=some v) (hs:op≠.shl∧op≠.shr) (t:TypeId) (w:World):(binOp op t (.int k x) (.int k y)).run P w= .ok v w:=by
 cases op <;> simp only [zNg] at h <;> simp only [binOp,ne_eq,not_true_eq_false,if_false]
 case quo=>
  split at h
  ·cases h
  ·rename_i hy; injection h with h; subst h; simp at hy; simp [Op.intDiv,hy]
 case rem=>
  split at h
  ·cases h
  ·rename_i hy; injection h with h; subst h; simp at hy; simp [Op.intDiv,hy]
 case shl=>cases h
 case shr=>cases h
 all_goals (injection h with h; subst h; rfl)
theorem zGf {op:BinOp} {k k':IntKind} {x y:Int} {v:Value} (h:zAe op k x y=some v) (t:TypeId) (w:World):(binOp op t (.int k x) (.int k' y)).run P w= .ok v w:=by
 unfold zAe at h
 split at h
 ·cases h
 ·rename_i hy
  cases op <;> simp only [reduceCtorEq] at h <;> injection h with h <;> subst h <;> simp at hy <;> simp [binOp,Op.shift,Int.not_lt.2 hy,kY,uD]
theorem zRd {op:BinOp} {x y:ByteArray} {v:Value} (h:zVx op x y=some v) (t:TypeId) (w:World):(binOp op t (.string x) (.string y)).run P w= .ok v w:=by
 cases op <;> simp only [zVx,reduceCtorEq] at h <;> injection h with h <;> subst h <;> rfl
def zGB (d e n:Nat) (xs ys:Array Value):List Nat→Sem Bool
 | []=>pure true
 | i::r=>do
  let a←part e xs (i*n)
  let b←part e ys (i*n)
  let q←Op.equalIn d e a b
  if (!q)=true then pure false else zGB d e n xs ys r
theorem zBN (hk:mS P tt) (d t m e:Nat) {j:TI} (hj:yK tt e=some j) (xs ys:Array Value) (ht:P.underlying t=some (.array m e)) (w:World):
  (Op.equalIn (d+1) t (.agg xs) (.agg ys)).run P w=(zGB d e j.size xs ys (List.range' 0 m)).run P w:=by
 simp only [Op.equalIn,Sem.run_bind,run_underlying ht,Result.andThen_ok,yJ hk hj]
 rw [Std.Legacy.Range.forIn_eq_forIn_range']
 simp only [Std.Legacy.Range.size,Nat.sub_zero,Nat.add_sub_cancel,Nat.div_one]
 generalize List.range' 0 m=l
 clear ht
 induction l generalizing w with
 | nil=>simp [zGB]
 | cons i l ih=>
  simp only [List.forIn_cons,zGB,Sem.run_bind]
  generalize (part e xs (i*j.size)).run P w=r1
  cases r1 with
  | ok a w1=>
   simp only [Result.andThen_ok]
   generalize (part e ys (i*j.size)).run P w1=r2
   cases r2 with
   | ok b w2=>
    simp only [Result.andThen_ok]
    generalize (Op.equalIn d e a b).run P w2=r3
    cases r3 with
    | ok r w3=>
     cases r
     ·simp only [Result.andThen_ok,Bool.not_false,if_true,Sem.run_pure]
     ·simp only [Result.andThen_ok,Bool.not_true,Bool.false_eq_true,if_false,Sem.run_pure]
      exact ih w3
    | halt x w3=>simp [Result.andThen]
   | halt x w2=>simp [Result.andThen]
  | halt x w1=>simp [Result.andThen]

mutual
theorem zEI (hk:mS P tt):∀ (n:Nat) (t:Nat) (x y:Value) (r:Bool),veq tt n t x y=some r→∀ (d:Nat) (w:World),n≤d→(Op.equalIn d t x y).run P w= .ok r w
 | 0,_,_,_,_,h,_,_,_=>by simp [veq] at h
 | n+1,t,x,y,r,h,d,w,hd=>by
  obtain ⟨d,rfl⟩:∃ e,d=e+1:=⟨d - 1,by omega⟩
  unfold veq at h
  split at h
  ·cases h
  ·rename_i i hi
   obtain ⟨dd,hu,hdd⟩:=hk.desc hi
   split at h
   ·rename_i hdesc
    injection h with h; subst h
    simp [Op.equalIn,run_underlying hu,TD.of_bool (hdd.trans hdesc)]
   ·rename_i hdesc
    split at h
    ·rename_i hkk
     injection h with h; subst h
     simp at hkk
     simp [Op.equalIn,run_underlying hu,TD.of_int (hdd.trans hdesc),hkk]
    ·cases h
   ·rename_i hdesc
    injection h with h; subst h
    rw [TD.of_string (hdd.trans hdesc)] at hu
    exact run_equalIn_string w d t _ _ hu
   ·rename_i fs0 xs ys hdesc
    split at h
    ·rename_i hc
     obtain ⟨fs,rfl,rfl⟩:=TD.of_struct (hdd.trans hdesc)
     have hf:P.fieldsOf t=fs:=by unfold Program.fieldsOf; rw [hu]
     have hu':P.underlying t=some (.struct (P.fieldsOf t)):=by rw [hf,hu]
     rw [run_equalIn_struct w d t xs ys hu' ((hk.get hi).2.2 hc).1,hf]
     exact zHL hk n fs.toList xs ys r h d w (by omega)
    ·cases h
   ·rename_i m e xs ys hdesc
    split at h
    ·rename_i j hj
     rw [zBN hk d t m e hj xs ys (TD.of_array (hdd.trans hdesc)▸hu)]
     exact zHQ hk n e j.size m 0 xs ys r h d w (by omega)
    ·cases h
   ·cases h
theorem zHL (hk:mS P tt):∀ (n:Nat) (fs:List Field) (xs ys:Array Value) (r:Bool),zHl tt n (fs.map qF) xs.toList ys.toList=some r→∀ (d:Nat) (w:World),n≤d→(Op.eqFields d xs ys fs).run P w= .ok r w
 | _, [],_,_,_,h,_,_,_=>by
  simp only [List.map_nil,zHl] at h
  injection h with h; subst h
  simp [Op.eqFields]
 | 0,_::_,_,_,_,h,_,_,_=>by simp [zHl] at h
 | n+1,f::fs,xs,ys,r,h,d,w,hd=>by
  rw [List.map_cons] at h
  unfold zHl at h
  split at h
  ·cases h
  ·rename_i hn
   have hn':f.name≠ "_" :=by simpa [qF] using hn
   simp only [qF] at h
   split at h
   ·rename_i a b h1 h2
    split at h
    ·rename_i p q h3 h4
     injection h with h; subst h
     simp only [Op.eqFields,if_pos hn',Sem.run_bind,dX hk h1,dX hk h2,Result.andThen_ok,zEI hk n f.type a b p h3 d w (by omega)]
     cases p
     ·simp
     ·simpa using zHL hk n fs xs ys q h4 d w (by omega)
    ·cases h
   ·cases h
theorem zHQ (hk:mS P tt):∀ (n e sz m i:Nat) (xs ys:Array Value) (r:Bool),zHR tt n e sz m i xs.toList ys.toList=some r→∀ (d:Nat) (w:World),n≤d→
  (zGB d e sz xs ys (List.range' i m)).run P w= .ok r w
 | _,_,_,0,_,_,_,_,h,_,_,_=>by
  simp only [zHR] at h
  injection h with h; subst h
  simp [zGB]
 | 0,_,_,_+1,_,_,_,_,h,_,_,_=>by simp [zHR] at h
 | n+1,e,sz,m+1,i,xs,ys,r,h,d,w,hd=>by
  unfold zHR at h
  split at h
  ·rename_i a b h1 h2
   split at h
   ·rename_i p q h3 h4
    injection h with h; subst h
    simp only [List.range'_succ,zGB,Sem.run_bind,dX hk h1,dX hk h2,Result.andThen_ok,zEI hk n e a b p h3 d w (by omega)]
    cases p
    ·simp
    ·simpa using zHQ hk n e sz m (i+1) xs ys q h4 d w (by omega)
   ·cases h
  ·cases h
end
theorem zJC (t:Nat) (p q:Bool) (h:P.underlying t=some .bool) (w:World):(binOp .eql t (.bool p) (.bool q)).run P w= .ok (.bool (p==q)) w:=by
 have he:(Op.equalIn (9999+1) t (.bool p) (.bool q)).run P w= .ok (p==q) w:=run_equalIn_bool w 9999 t p q h
 have hb:binOp .eql t (.bool p) (.bool q)=(do pure (.bool (←Op.equal t (.bool p) (.bool q)))):=by simp only [binOp]
 rw [hb,Sem.run_bind]
 show ((Op.equalIn (9999+1) t (.bool p) (.bool q)).run P w).andThen _=_
 rw [he]
 rfl
theorem zJB (t:Nat) (p q:Bool) (h:P.underlying t=some .bool) (w:World):(binOp .neq t (.bool p) (.bool q)).run P w= .ok (.bool (!(p==q))) w:=by
 have he:(Op.equalIn (9999+1) t (.bool p) (.bool q)).run P w= .ok (p==q) w:=run_equalIn_bool w 9999 t p q h
 have hb:binOp .neq t (.bool p) (.bool q)=(do pure (.bool (!(←Op.equal t (.bool p) (.bool q))))):=by simp only [binOp]
 rw [hb,Sem.run_bind]
 show ((Op.equalIn (9999+1) t (.bool p) (.bool q)).run P w).andThen _=_
 rw [he]
 rfl
theorem zJh {t:Nat} {a b:Value} {r:Bool} (he:∀ w,(Op.equalIn (9999+1) t a b).run P w= .ok r w) {op:BinOp} {v:Value} (hv:zMl op (some r)=some v) (hb1:∀ w,(binOp .eql t a b).run P w=(do pure (.bool (←Op.equal t a b)):Sem Value).run P w)
  (hb2:∀ w,(binOp .neq t a b).run P w=(do pure (.bool (!(←Op.equal t a b))):Sem Value).run P w) (w:World):(binOp op t a b).run P w= .ok v w:=by
 unfold zMl at hv
 split at hv
 ·rename_i b hb
  injection hb with hb; injection hv with hv; subst hb; subst hv
  rw [hb1,Sem.run_bind]
  show ((Op.equalIn (9999+1) t _ _).run P w).andThen _=_
  rw [he]
  rfl
 ·rename_i b hb
  injection hb with hb; injection hv with hv; subst hb; subst hv
  rw [hb2,Sem.run_bind]
  show ((Op.equalIn (9999+1) t _ _).run P w).andThen _=_
  rw [he]
  rfl
 ·cases hv
theorem zRx {t e d n c n' c':Nat} {A B:Option Addr} {r:Bool} (hu:P.underlying t=some (.slice e)) (hr:zCJ A B=some r) (w:World):(Op.equalIn (d+1) t (.slice A n c) (.slice B n' c')).run P w= .ok r w:=by
 unfold Op.equalIn
 rw [Sem.run_bind,run_underlying hu,Result.andThen_ok]
 cases A <;> cases B <;> simp [zCJ] at hr <;> subst hr <;> rfl
theorem zRf {t e d:Nat} {A B:Option Addr} {r:Bool} (hu:P.underlying t=some (.pointer e)) (hr:zCJ A B=some r) (w:World):(Op.equalIn (d+1) t (.pointer A) (.pointer B)).run P w= .ok r w:=by
 unfold Op.equalIn
 rw [Sem.run_bind,run_underlying hu,Result.andThen_ok]
 cases A <;> cases B <;> simp [zCJ] at hr <;> subst hr <;> rfl
theorem zSf {t k e d:Nat} {A B:Option Nat} {r:Bool} (hu:P.underlying t=some (.map k e)) (hr:zCJ A B=some r) (w:World):(Op.equalIn (d+1) t (.map A) (.map B)).run P w= .ok r w:=by
 unfold Op.equalIn
 rw [Sem.run_bind,run_underlying hu,Result.andThen_ok]
 cases A <;> cases B <;> simp [zCJ] at hr <;> subst hr <;> rfl
theorem zCY {op:BinOp} {o:Option Bool} {v:Value} (h:zMl op o=some v):∃ r,o=some r:=by
 unfold zMl at h
 split at h
 ·exact ⟨_,rfl⟩
 ·exact ⟨_,rfl⟩
 ·cases h
theorem zQp (hk:mS P tt) {op:BinOp} {t:Nat} {a b v:Value} (h:zFY tt op t a b=some v) (x y:Operand) (w:World):
  (do eqGuard op t x y a b; binOp op t a b:Sem Value).run P w= .ok v w:=by
 unfold zFY at h
 split at h
 ·rename_i k i k' i'
  have hg:(eqGuard op t x y (.int k i) (.int k' i')).run P w= .ok () w:=by cases op <;> rfl
  rw [Sem.run_bind,hg,Result.andThen_ok]
  split at h
  ·exact zGf h t w
  ·exact zGf h t w
  ·rename_i h1 h2
   split at h
   ·rename_i hkk
    simp at hkk
    subst hkk
    exact zRD h ⟨h1,h2⟩ t w
   ·cases h
 ·rename_i b b'
  have hg:(eqGuard op t x y (.string b) (.string b')).run P w= .ok () w:=by cases op <;> rfl
  rw [Sem.run_bind,hg,Result.andThen_ok]
  exact zRd h t w
 ·rename_i b b'
  have hg:(eqGuard op t x y (.bool b) (.bool b')).run P w= .ok () w:=by cases op <;> rfl
  rw [Sem.run_bind,hg,Result.andThen_ok]
  split at h
  ·rename_i i hi
   obtain ⟨dd,hu,hdd⟩:=hk.desc hi
   split at h
   ·rename_i hd
    injection h with h; subst h
    exact zJC t b b' (TD.of_bool (hdd.trans hd)▸hu) w
   ·rename_i hd
    injection h with h; subst h
    exact zJB t b b' (TD.of_bool (hdd.trans hd)▸hu) w
   ·cases h
  ·cases h
 ·split at h
  ·rename_i xs ys _ i hi
   split at h
   ·rename_i hc
    split at h
    ·rename_i r hr
     injection h with h; subst h
     rw [Sem.run_bind,run_eqGuard_agg w .eql t x y xs ys ((hk.get hi).2.2 hc).2,Result.andThen_ok,run_eql_struct,zEI hk 60 t _ _ r hr 10000 w (by omega)]
     rfl
    ·cases h
   ·rename_i hc
    split at h
    ·rename_i r hr
     injection h with h; subst h
     rw [Sem.run_bind,run_eqGuard_agg w .neq t x y xs ys ((hk.get hi).2.2 hc).2,Result.andThen_ok,run_neq_struct,zEI hk 60 t _ _ r hr 10000 w (by omega)]
     rfl
    ·cases h
   ·cases h
  ·cases h
 ·rename_i A n c B n' c'
  have hg:(eqGuard op t x y (.slice A n c) (.slice B n' c')).run P w= .ok () w:=by cases op <;> rfl
  rw [Sem.run_bind,hg,Result.andThen_ok]
  split at h
  ·rename_i i hi
   obtain ⟨dd,hu,hdd⟩:=hk.desc hi
   split at h
   ·rename_i e hd
    obtain ⟨r,hr⟩:=zCY h
    rw [hr] at h
    have hu':=TD.of_slice (hdd.trans hd)▸hu
    exact zJh (P:=P) (r:=r) (fun w=>zRx hu' hr w) h (fun _=>rfl) (fun _=>rfl) w
   ·cases h
  ·cases h
 ·rename_i A B
  have hg:(eqGuard op t x y (.pointer A) (.pointer B)).run P w= .ok () w:=by cases op <;> rfl
  rw [Sem.run_bind,hg,Result.andThen_ok]
  split at h
  ·rename_i i hi
   obtain ⟨dd,hu,hdd⟩:=hk.desc hi
   split at h
   ·rename_i e hd
    obtain ⟨r,hr⟩:=zCY h
    rw [hr] at h
    have hu':=TD.of_pointer (hdd.trans hd)▸hu
    exact zJh (P:=P) (r:=r) (fun w=>zRf hu' hr w) h (fun _=>rfl) (fun _=>rfl) w
   ·cases h
  ·cases h
 ·rename_i A B
  have hg:(eqGuard op t x y (.map A) (.map B)).run P w= .ok () w:=by cases op <;> rfl
  rw [Sem.run_bind,hg,Result.andThen_ok]
  split at h
  ·rename_i i hi
   obtain ⟨dd,hu,hdd⟩:=hk.desc hi
   split at h
   ·rename_i k e hd
    obtain ⟨r,hr⟩:=zCY h
    rw [hr] at h
    have hu':=TD.of_map (hdd.trans hd)▸hu
    exact zJh (P:=P) (r:=r) (fun w=>zSf hu' hr w) h (fun _=>rfl) (fun _=>rfl) w
   ·cases h
  ·cases h
 ·cases h
theorem zUo {op:UnOp} {a v:Value} (h:pun op a=some v) (w:World):(Op.unary op a).run P w= .ok v w:=by
 unfold pun at h
 split at h <;> first | (injection h with h; subst h; rfl) | cases h
theorem zPo (hk:mS P tt) {s d:Nat} {a v:Value} (h:zRz tt s d a=some v) (w:World):(convert s d a).run P w= .ok v w:=by
 unfold zRz at h
 split at h
 ·rename_i i j hi hj
  obtain ⟨d1,h1,_⟩:=hk.desc hi
  obtain ⟨d2,h2,hd2⟩:=hk.desc hj
  split at h
  ·rename_i hd
   injection h with h; subst h
   simp [convert,run_underlying h1,run_underlying h2,TD.of_int (hd2.trans hd),Conv.intToInt]
  ·rename_i hd
   injection h with h; subst h
   simp [convert,run_underlying h1,run_underlying h2,TD.of_string (hd2.trans hd)]
  ·cases h
 ·cases h
theorem zFt (hk:mS P tt) {s f:Nat} {a v:Value} (h:zBw tt s a f=some v) (w:World):(Instr.fieldAt s a f).run P w= .ok v w:=by
 unfold zBw at h
 split at h
 ·rename_i i ad hi
  obtain ⟨dd,hu,hdd⟩:=hk.desc hi
  split at h
  ·rename_i fs0 hd
   obtain ⟨fs,rfl,rfl⟩:=TD.of_struct (hdd.trans hd)
   rw [zBk] at h
   split at h
   ·rename_i fd0 hf
    split at h
    ·rename_i j hj
     split at h
     ·cases h
     ·rename_i n hn
      injection h with h; subst h
      simp only [List.getElem?_map,Option.map_eq_some_iff] at hf
      obtain ⟨fd,hf,rfl⟩:=hf
      have hf':fs[f]? =some fd:=by simpa using hf
      simp only [qF] at hj
      simp [Instr.fieldAt,run_underlying hu,qF,hf',Instr.sureAddr,fieldPlace,yJ hk hj,hn,zOK]
    ·cases h
   ·cases h
  ·cases h
 ·cases h
theorem zMZ (hk:mS P tt) {s f:Nat} {a v:Value} (h:zMI tt s a f=some v) (w:World):(Instr.field s a f).run P w= .ok v w:=by
 unfold zMI at h
 split at h
 ·rename_i i cs hi
  obtain ⟨dd,hu,hdd⟩:=hk.desc hi
  split at h
  ·rename_i fs0 hd
   obtain ⟨fs,rfl,rfl⟩:=TD.of_struct (hdd.trans hd)
   rw [zBk] at h
   split at h
   ·rename_i fd0 hf
    simp only [List.getElem?_map,Option.map_eq_some_iff] at hf
    obtain ⟨fd,hf,rfl⟩:=hf
    have hf':fs[f]? =some fd:=by simpa using hf
    simp only [qF] at h
    simp [Instr.field,run_underlying hu,hf',asAgg,dX hk h]
   ·cases h
  ·cases h
 ·cases h
theorem zNv (hk:mS P tt) {s:Nat} {a ix v:Value} (h:zMB tt s a ix=some v) (w:World):(Instr.index s a ix).run P w= .ok v w:=by
 unfold zMB at h
 split at h
 ·rename_i i cs k n hi
  obtain ⟨dd,hu,hdd⟩:=hk.desc hi
  split at h
  ·rename_i len e hd
   split at h
   ·rename_i j hj h0 h1
    simp at h0 h1
    simp [Instr.index,asIntOf,run_underlying hu,TD.of_array (hdd.trans hd),h0,h1,yJ hk hj,dX hk h]
   ·cases h
  ·cases h
 ·cases h
theorem zGG (hk:mS P tt) {s:Nat} {a ix v:Value} (h:zBB tt s a ix=some v) (w:World):(Instr.indexAt s a ix).run P w= .ok v w:=by
 unfold zBB at h
 split at h
 ·rename_i i ad k n hi
  obtain ⟨dd,hu,hdd⟩:=hk.desc hi
  split at h
  ·rename_i len e hd
   split at h
   ·rename_i j hj h0 h1
    injection h with h; subst h
    simp at h0 h1
    simp [Instr.indexAt,asIntOf,run_underlying hu,TD.of_array (hdd.trans hd),h0,h1,Instr.sureAddr,yJ hk hj,zOK]
   ·cases h
  ·cases h
 ·cases h
theorem zQT (hk:mS P tt) {ts:Array Nat} {ty:Nat} {a v:Value} (h:zWz tt ts.toList a=some v) (w:World):(Builtin.len_ ts ty #[a]).run P w= .ok v w:=by
 unfold zWz at h
 split at h
 ·rename_i t ht
  have:ts= #[t]:=by cases ts; simp_all
  subst this
  split at h
  ·rename_i i hi
   obtain ⟨dd,hu,hdd⟩:=hk.desc hi
   split at h
   ·rename_i hd; injection h with h; subst h; simp [Builtin.len_,run_underlying hu,TD.of_string (hdd.trans hd),goInt]
   ·rename_i hd; injection h with h; subst h; simp [Builtin.len_,run_underlying hu,TD.of_slice (hdd.trans hd),goInt]
   ·rename_i hd; injection h with h; subst h; simp [Builtin.len_,run_underlying hu,TD.of_array (hdd.trans hd),goInt]
   ·cases h
  ·cases h
 ·cases h
theorem zSp {a b v:Value} {ts:Array Nat} {ty:Nat} (h:zWW a b=some v) (w:World):(Builtin.min_ ts ty #[a,b]).run P w= .ok v w:=by
 unfold zWW at h
 split at h
 ·split at h
  ·rename_i k x k' y hkk
   injection h with h; subst h
   simp at hkk
   simp only [Builtin.min_,List.foldlM_cons,List.foldlM_nil,Builtin.min2,bind_pure,Sem.run_pure]
   congr 2
   simp only [Int.min_def]
   split <;> split <;> omega
  ·cases h
 ·cases h
theorem zRe {a b v:Value} {ts:Array Nat} {ty:Nat} (h:zVO a b=some v) (w:World):(Builtin.max_ ts ty #[a,b]).run P w= .ok v w:=by
 unfold zVO at h
 split at h
 ·split at h
  ·rename_i k x k' y hkk
   injection h with h; subst h
   simp at hkk
   simp only [Builtin.max_,List.foldlM_cons,List.foldlM_nil,Builtin.max2,bind_pure,Sem.run_pure]
   congr 2
   simp only [Int.max_def]
   split <;> split <;> omega
  ·cases h
 ·cases h
theorem zPa (hk:mS P tt) {a:Act} {Γ:Env} (ha:At a Γ) {c:Call} {v:Value} (h:zSL tt Γ c=some v) (ty:Nat) (w:World):
  (do let d←resolve a.eval c ty; invoke d.target d.args:Sem Next).run P w= .ok (.value v) w:=by
 obtain ⟨callee,args,ts⟩:=c
 unfold zSL at h
 split at h
 ·rename_i x hc hx
  have:args= #[x]:=by cases args; simp_all
  subst this
  simp only at hc
  subst hc
  split at h
  ·rename_i u hu
   simp [resolve,invoke,builtin,ha.eval hu,zQT hk h]
  ·cases h
 ·rename_i x y hc hx
  have:args= #[x,y]:=by cases args; simp_all
  subst this
  simp only at hc
  subst hc
  split at h
  ·rename_i u u' hu hu'
   simp [resolve,invoke,builtin,ha.eval hu,ha.eval hu',zSp h]
  ·cases h
 ·rename_i x y hc hx
  have:args= #[x,y]:=by cases args; simp_all
  subst this
  simp only at hc
  subst hc
  split at h
  ·rename_i u u' hu hu'
   simp [resolve,invoke,builtin,ha.eval hu,ha.eval hu',zRe h]
  ·cases h
 ·cases h
theorem zIt (off:Nat):∀ (vs:List Value) (k:Nat) (arr:Array Value),off+k+vs.length≤arr.size→
  (vs.zipIdx k).foldl (fun (cs:Array Value) (x:Value × Nat)=>cs.setIfInBounds (off+x.2) x.1) arr=(arr.toList.take (off+k)++vs++arr.toList.drop (off+k+vs.length)).toArray
 | [],k,arr,_=>by simp
 | v::vs,k,arr,h=>by
  simp only [List.length_cons] at h
  simp only [List.zipIdx_cons,List.foldl_cons]
  rw [zIt off vs (k+1) _ (by simp; omega)]
  congr 1
  simp only [Array.toList_setIfInBounds,List.length_cons]
  apply List.ext_getElem?
  intro i
  rw [List.getElem?_append,List.getElem?_append,List.getElem?_append,List.getElem?_append]
  simp only [List.length_append,List.length_take,List.length_set,List.length_cons,List.getElem?_take,List.getElem?_drop,List.getElem?_set,Array.length_toList]
  have m1:min (off+(k+1)) arr.size=off+k+1:=by omega
  have m2:min (off+k) arr.size=off+k:=by omega
  rw [m1,m2]
  by_cases c1:i<off+k
  ·simp only [show i<off+k+1+vs.length by omega,show i<off+k+1 by omega,show i<off+(k+1) by omega,show i<off+k+(vs.length+1) by omega,c1,if_true]
   rw [if_neg (by omega)]
  ·by_cases c2:i=off+k
   ·subst c2
    simp only [show off+k<off+k+1+vs.length by omega,show off+k<off+k+1 by omega,show off+k<off+(k+1) by omega,show off+k<off+k+(vs.length+1) by omega,Nat.lt_irrefl,if_true,if_false,Nat.sub_self]
    simp
    omega
   ·by_cases c3:i<off+k+1+vs.length
    ·simp only [c3,if_true,show ¬ i<off+k+1 by omega,show i<off+k+(vs.length+1) by omega,if_false,c1]
     rw [show i - (off+k)=(i - (off+k+1))+1 by omega,List.getElem?_cons_succ]
    ·simp only [c3,if_false,show ¬ i<off+k+(vs.length+1) by omega]
     rw [if_neg (by omega)]
     congr 1
     omega
theorem dQ {a:Act} {Γ:Env} (ha:At a Γ) {pl:Nat→Option (Nat × Nat)}:∀ (ps:List (Nat × Operand)) (cs r:List Value),zBW Γ pl cs ps=some r→
    Instr.fill pl cs.toArray (ps.map fun x=>(x.1,a.eval x.2))=some r.toArray
  | [],cs,r,h=>by simp only [zBW] at h; injection h with h; subst h; rfl
  | (i,x)::ps,cs,r,h=>by
    simp only [zBW] at h
    split at h
    · rename_i off sz v hp hx
      split at h
      · rename_i hb
        split at h
        · rename_i cs' hs
          obtain ⟨hl,he⟩:=jF _ _ _ _ _ hs
          injection he with he
          have hsz:v.cells.size=sz:=by rw [←iX]; simpa using Nat.eq_of_beq_eq_true hb
          have hzl:(zc v).length=sz:=Nat.eq_of_beq_eq_true hb
          simp only [List.map_cons,Instr.fill,hp,ha.eval hx,hsz,List.size_toArray,ne_eq,not_true_eq_false]
          have hno:¬ (off+sz>cs.length):=by omega
          simp only [decide_false,hno,Bool.or_false,if_false,Bool.false_eq_true]
          have hf:=zIt off (zc v) 0 cs.toArray (by simp; omega)
          have e2:v.cells.zipIdx.foldl (fun (cs:Array Value) (x:Value × Nat)=>cs.setIfInBounds (off+x.2) x.1) cs.toArray=cs'.toArray:=by
            rw [←Array.foldl_toList,Array.toList_zipIdx,←iX]
            simp only [Nat.add_zero] at hf ⊢
            rw [hf,he]
          rw [e2]
          exact dQ ha ps cs' r h
        · cases h
      · cases h
    · cases h
theorem dB (tt:TT):∀ (fs:List (Nat × Nat × Bool)),gR tt fs=true→∀ f∈fs,∃ j,yK tt f.1=some j
 | [],_,f,hf=>by cases hf
 | g::r,h,f,hf=>by
  simp only [gR] at h
  split at h
  ·rename_i j hj
   cases hf with
   | head=>exact ⟨j,hj⟩
   | tail _ hf=>exact dB tt r h f hf
  ·cases h
def zBV (tt:TT) (f:Field):Nat × Nat:=(f.offset,match yK tt f.type with | some j=>j.size | none=>0)
theorem zFu (hk:mS P tt) (w:World):∀ (fs:List Field),gR tt (fs.map qF)=true→(fs.mapM (fun f=>do pure (f.offset,←sizeOf f.type)):Sem (List (Nat × Nat))).run P w= .ok (fs.map (zBV tt)) w
 | [],_=>rfl
 | f::fs,h=>by
  obtain ⟨j,hj⟩:=dB tt _ h (qF f) (by simp)
  have h':gR tt (fs.map qF)=true:=by
   simp only [List.map_cons,gR] at h
   split at h
   ·exact h
   ·cases h
  simp only [qF] at hj
  rw [List.mapM_cons]
  simp only [Sem.run_bind,yJ hk hj,Result.andThen_ok,Sem.run_pure,zFu hk w fs h']
  simp [zBV,hj]
theorem zNe (hk:mS P tt) {a:Act} {Γ:Env} (ha:At a Γ) {t:Nat} {ps:Array (Nat × Operand)} {v:Value} (h:zMj tt Γ t ps.toList=some v) (w:World):
  (Instr.build t (ps.map fun x=>(x.1,a.eval x.2))).run P w= .ok v w:=by
 have hps:(ps.map fun x=>(x.1,a.eval x.2)).toList=ps.toList.map fun x=>(x.1,a.eval x.2):=by simp
 unfold zMj at h
 split at h
 ·rename_i i hi
  obtain ⟨dd,hu,hdd⟩:=hk.desc hi
  split at h
  ·rename_i fs0 hd
   obtain ⟨fs,rfl,rfl⟩:=TD.of_struct (hdd.trans hd)
   split at h
   ·rename_i hall
    split at h
    ·rename_i cs hc
     injection h with h; subst h
     have hf:=dQ ha _ _ _ hc
     have hpl:(fs.mapM (fun f=>do pure (f.offset,←sizeOf f.type)):Sem (Array (Nat × Nat))).run P w= .ok (fs.toList.map (zBV tt)).toArray w:=by
      have:=zFu hk w fs.toList hall
      have e:(fs.mapM (fun f=>do pure (f.offset,←sizeOf f.type)):Sem (Array (Nat × Nat)))=Functor.map List.toArray (fs.toList.mapM (fun f=>do pure (f.offset,←sizeOf f.type))):=by
       rw [←List.mapM_toArray]
      rw [e,Sem.run_map,this]
      rfl
     have hplace:(fun i=>(fs.toList.map (zBV tt)).toArray[i]?)=zEV tt (fs.toList.map qF):=by
      funext n
      simp only [zEV,zBk,List.getElem?_map,List.getElem?_toArray]
      cases hn:fs.toList[n]? with
      | none=>rfl
      | some f=>
       obtain ⟨j,hj⟩:=dB tt _ hall (qF f) (List.mem_map.2 ⟨f,List.mem_of_getElem? hn,rfl⟩)
       simp only [qF] at hj
       simp [qF,zBV,hj]
     simp only [Instr.build,Sem.run_bind,vU hk hi,Result.andThen_ok,run_underlying hu,hpl]
     rw [hplace,hps,←iX,hf]
     rfl
    ·cases h
   ·cases h
  ·rename_i m e hd
   split at h
   ·rename_i j hj
    split at h
    ·rename_i cs hc
     injection h with h; subst h
     have hf:=dQ ha _ _ _ hc
     simp only [Instr.build,Sem.run_bind,vU hk hi,Result.andThen_ok,run_underlying hu,TD.of_array (hdd.trans hd),yJ hk hj]
     rw [hps,←iX,hf]
     rfl
    ·cases h
   ·cases h
  ·cases h
 ·cases h
theorem zNV (hk:mS P tt) {a:Act} {Γ:Env} (ha:At a Γ) {o:Oper} {v:Value} (h:pev tt Γ o.op=some v) (w:World):
  (execOp a.eval o).run P w= .ok (.value v) w:=by
 obtain ⟨dst,op,type,pos,after,guard⟩:=o
 cases op <;> simp only [pev] at h <;> simp only [execOp]
 case build t ps=>simp [zNe hk ha h w]
 case move x=>rw [ha.eval h]; rfl
 case assign x=>rw [ha.eval h]; rfl
 case pick c x y=>
  split at h
  ·rename_i hc; simp [ha.eval hc,asBool,ha.eval h]
  ·rename_i hc; simp [ha.eval hc,asBool,ha.eval h]
  ·cases h
 case nilCheck x=>
  split at h
  ·rename_i hx; injection h with h; subst h; rw [ha.eval hx]; rfl
  ·cases h
 case binOp op t x y yt=>
  split at h
  ·rename_i u u' hx hy
   have:=zQp (P:=P) hk h x y w
   rw [ha.eval hx,ha.eval hy]
   simp only [Sem.run_bind] at this ⊢
   rw [this]
   rfl
  ·cases h
 case unOp op t x=>
  split at h
  ·rename_i u hx; simp [ha.eval hx,zUo h]
  ·cases h
 case convert s d x=>
  split at h
  ·rename_i u hx; simp [ha.eval hx,zPo hk h]
  ·cases h
 case makeFunc fn first captured=>
  split at h
  ·rename_i vs us h1 h2
   injection h with h; subst h
   have e1:first.map a.eval=vs.toArray:=by
    have:=ha.evals h1
    apply Array.ext'
    simpa using this
   have e2:captured.map a.eval=us.toArray:=by
    have:=ha.evals h2
    apply Array.ext'
    simpa using this
   simp [Instr.makeFunc,e1,e2]
  ·cases h
 case fieldAddr s x f=>
  split at h
  ·rename_i u hx; simp [ha.eval hx,zFt hk h]
  ·cases h
 case field s x f=>
  split at h
  ·rename_i u hx; simp [ha.eval hx,zMZ hk h]
  ·cases h
 case indexAddr s x ix=>
  split at h
  ·rename_i u u' hx hy; simp [ha.eval hx,ha.eval hy,zGG hk h]
  ·cases h
 case index s x ix=>
  split at h
  ·rename_i u u' hx hy; simp [ha.eval hx,ha.eval hy,zNv hk h]
  ·cases h
 case extract t i=>
  split at h
  ·rename_i vs hx
   rw [zBk] at h
   have:vs[i]? =some v:=by simpa using h
   simp [ha.eval hx,Instr.extract,this]
  ·cases h
 case call c=>
  exact zPa hk ha h type w
 all_goals cases h
end
end Go.Proofs.YtplchdlgdjcojaaGreatDoor
end
section
namespace Go.Proofs.YtplchdlgdjcojaaGreatDoor
open Go
set_option linter.unusedSectionVars false
def gZ (m:Hp) (b o:Nat):Option Value:=match m b with
 | some (.cells c _ _)=>c[o]?
 | _=>none
theorem zBG {m m':Hp} (h:Hp.le m m') {b o:Nat} {v:Value} (hc:gZ m b o=some v):gZ m' b o=some v:=by
 unfold gZ at*
 cases hm:m b with
 | none=>simp [hm] at hc
 | some x=>rw [h b x hm]; simpa [hm] using hc
theorem zAc (w:World) (b o:Nat):gZ (hp w) b o=w.cell? ⟨b,o,none⟩:=by
 unfold gZ hp World.cell?
 cases w.heap[b]? with
 | none=>rfl
 | some x=>cases x <;> rfl
def hM (b o:Nat) (cs:List Value):Ro where
 p m:=∀ i u,cs[i]? =some u→gZ m b (o+i)=some u
 mono _ _ h hp i u hu:=zBG h (hp i u hu)
def zUJ (T:Nat) (cs:List Value) (o:Obj):Prop:=∃ fr:Nat × Nat,o= .cells cs.toArray T fr∧∀ i,i<cs.length→¬(fr.1≤i∧i<fr.2)
def Box (g T:Nat) (cs:List Value):Res where
 gs:= [g]
 p m:=∃ o,m g=some o∧zUJ T cs o
 loc _ _ h:=fun ⟨o,ho,hb⟩=>⟨o,(h g (by simp)).symm.trans ho,hb⟩
structure Cod (α:Type) where
 n:Nat
 rel:Hp→α→List Value→Prop
 len:∀ m x cs,rel m x cs→cs.length=n
 one:∀ m x cs,rel m x cs→∀ u∈cs,u.oneCell'=true
 mono:∀ m m' x cs,Hp.le m m'→rel m x cs→rel m' x cs
def Cod.flat {α:Type} (n:Nat) (enc:α→List Value) (hlen:∀ x,(enc x).length=n) (hone:∀ x,∀ u∈enc x,u.oneCell'=true):Cod α where
 n:=n
 rel _ x cs:=cs=enc x
 len _ x _ h:=h▸hlen x
 one _ x _ h:=h▸hone x
 mono _ _ _ _ _ h:=h
def inK (k:IntKind) (x:Int):Prop:=k.min≤x∧x≤k.max
def zGS (k:IntKind) (x:Int):List Value:= [.int k x]
def zUX (x:Bool):List Value:= [.bool x]
def zXK (x:ByteArray):List Value:= [.string x]
section
variable {α:Type}
def SlP (E:Cod α) (A:Option Addr) (c:Nat) (xs:List α) (m:Hp):Prop:=
 xs.length≤c∧c≤maxLen∧(A=none→xs= [])∧
  ∀ ad,A=some ad→∀ j x,xs[j]? =some x→ad.spot=none∧∃ cs,E.rel m x cs∧∀ i u,cs[i]? =some u→gZ m ad.block (ad.off+j*E.n+i)=some u
def Sl (E:Cod α) (A:Option Addr) (c:Nat) (xs:List α):Ro where
 p:=SlP E A c xs
 mono m m' h hp:=⟨hp.1,hp.2.1,hp.2.2.1,fun ad ha j x hx=>by
  obtain ⟨h0,cs,h1,h2⟩:=hp.2.2.2 ad ha j x hx
  exact ⟨h0,cs,E.mono _ _ _ _ h h1,fun i u hu=>zBG h (h2 i u hu)⟩⟩
def elt (xs:List α) (i:Int):Option α:=if 0≤i then xs[i.toNat]? else none
theorem uT {xs:List α} {i:Int} {x:α} (h:elt xs i=some x):0≤i∧i<xs.length∧xs[i.toNat]? =some x:=by
 unfold elt at h
 split at h
 ·rename_i h0
  have:=(List.getElem?_eq_some_iff.1 h).1
  exact ⟨h0,by omega,h⟩
 ·cases h
def Rel (E:Cod α) (x:α) (cs:List Value):Ro:=⟨fun m=>E.rel m x cs,fun m m' h=>E.mono m m' x cs h⟩
end
section
variable {P:Program} [T:HasTT P] {w0:World} {nt:Nat} {Γ:Env} {F F':List As} {Q:Exit→Act→World→Prop} {ops:Array Oper} {rest:List Oper}
variable {d:Nat} {op:Op} {ty:Nat} {pos:String} {af:Array Edge} {X:List Oper→Act→World→Prop}
theorem xO {o:Oper} (h:o.guard=none) (y:Nat→Option Bool):Region.wanted o y=true:=by simp [Region.wanted,h]
theorem St.p [W:Walk P ops X] {v:Value} (hd:Nat.blt d nt=true) (hv:pev T.tt Γ op=some v) (k:St w0 nt ((d,v)::Γ) F (X rest)):St w0 nt Γ F (X (⟨some d,op,ty,pos,af,none⟩::rest)):=
 fun a w hs hdf ha hf hw=>W.val _ _ _ _ v (xO rfl _) (fun w' _=>zNV T.ok ha (o:=⟨some d,op,ty,pos,af,none⟩) hv w')
  (k _ w (by simp [Act.put,hs]) hdf (ha.put (hs▸Nat.le_of_ble_eq_true hd)) hf hw)
def zHg (ops:Array Oper) (j:Nat):Option Nat:=(ops[j]?).bind (·.dst)
theorem cM {j dj:Nat} {a:Act} {v:Value} (ha:At a Γ) (hj:zHg ops j=some dj) (hg:get Γ dj=some v):yielded ops a.tmps j=match v with | .bool b=>some b | _=>none:=by
 have:=ha dj v hg
 unfold zHg at hj
 simp only [yielded,hj,Option.bind_some,this]
 cases v <;> rfl
theorem St.gOn [W:Walk P ops X] {dst:Option Nat} {j dj:Nat} {b:Bool} (hj:zHg ops j=some dj) (hg:get Γ dj=some (.bool b)) (k:St w0 nt Γ F (X (⟨dst,op,ty,pos,af,none⟩::rest))):
  St w0 nt Γ F (X (⟨dst,op,ty,pos,af,some (j,b)⟩::rest)):=
 fun a w hs hdf ha hf hw=>W.bare _ ⟨dst,op,ty,pos,af,none⟩ _ _ _ (by simp [Region.wanted,cM ha hj hg]) (xO rfl _) rfl rfl rfl (k a w hs hdf ha hf hw)
def eV (v:Value) (b:Bool):Bool:=match v with | .bool c=>c != b | _=>true
theorem St.gOff [W:Walk P ops X] {j dj:Nat} {b:Bool} {v:Value} (hd:Nat.blt d nt=true) (hj:zHg ops j=some dj) (hg:get Γ dj=some v) (hn:eV v b=true) (k:St w0 nt ((d,undef)::Γ) F (X rest)):
    St w0 nt Γ F (X (⟨some d,op,ty,pos,af,some (j,b)⟩::rest)):=
  fun a w hs hdf ha hf hw=>W.pass _ _ _ _ (by
      simp only [Region.wanted,cM ha hj hg]
      cases v <;> simp_all [eV])
    (k _ w (by simp [Act.put,hs]) hdf (ha.put (hs▸Nat.le_of_ble_eq_true hd)) hf hw)
theorem St.gSplit {dst:Option Nat} {j dj:Nat} {b:Bool} (c:Bool) (hg:get Γ dj=some (.bool c))
  (ht:c=true→St w0 nt ((dj, .bool true)::Γ) F (X (⟨dst,op,ty,pos,af,some (j,b)⟩::rest))) (hff:c=false→St w0 nt ((dj, .bool false)::Γ) F (X (⟨dst,op,ty,pos,af,some (j,b)⟩::rest))):
  St w0 nt Γ F (X (⟨dst,op,ty,pos,af,some (j,b)⟩::rest)):=
 fun a w hs hdf ha hf hw=>by
  cases c
  ·exact hff rfl a w hs hdf (At.cons (ha dj _ hg) ha) hf hw
  ·exact ht rfl a w hs hdf (At.cons (ha dj _ hg) ha) hf hw
theorem oN (w:World) (o:Obj):hp (w.alloc o) w.heap.size=some o:=heap_alloc_new w o
theorem zPv (T:Nat) (cs:List Value):zUJ T cs (.cells cs.toArray T):=⟨(0,0),rfl,fun i _ h=>by omega⟩
theorem Sat.alloc {w:World} (h:Sat F w) (T:Nat) (cs:List Value):Sat (.res (Box w.heap.size T cs)::F) (w.alloc (.cells cs.toArray T)):=
 h.add_res (Ext.alloc w _) _ (by simp [Box]) (fun k hk=>by simp [Box] at hk; subst hk; simp) ⟨_,oN w _,zPv T cs⟩
theorem St.alloc {t:Nat} {i:TI} (hd:Nat.blt d nt=true) (hi:yK T.tt t=some i) (k:∀ g,St w0 nt ((d, .pointer (some ⟨g,0,none⟩))::Γ) (.res (Box g t (zc i.zero))::F) (wpList P ops Q rest)):
    St w0 nt Γ F (wpList P ops Q (⟨some d, .alloc t,ty,pos,af,none⟩::rest)):=
  fun a w hs hdf ha hf hw=>wpList_plain rfl fun K hK=>by
    have hz:=vU T.ok hi w
    unfold Oper.wp
    have hr:(execOp a.eval ⟨some d, .alloc t,ty,pos,af,none⟩).run P w= .ok (.value (.pointer (some ⟨w.heap.size,0,none⟩))) (w.alloc (.cells (zc i.zero).toArray t)):=by
      simp [execOp,Instr.alloc,hz,newVar,newRow,iX]
    rw [hr]
    exact hK _ _ (k _ _ _ (by simp [Act.put,hs]) hdf (ha.put (hs▸Nat.le_of_ble_eq_true hd)) (hf.alloc t _) (hw.trans (Ext.alloc w _).toSame))
theorem St.box {t:Nat} {x:Operand} {v:Value} (hd:Nat.blt d nt=true) (hx:ev Γ x=some v) (k:∀ g,St w0 nt ((d, .pointer (some ⟨g,0,none⟩))::Γ) (.res (Box g t (zc v))::F) (wpList P ops Q rest)):
    St w0 nt Γ F (wpList P ops Q (⟨some d, .box t x,ty,pos,af,none⟩::rest)):=
  fun a w hs hdf ha hf hw=>wpList_plain rfl fun K hK=>by
    unfold Oper.wp
    have hr:(execOp a.eval ⟨some d, .box t x,ty,pos,af,none⟩).run P w= .ok (.value (.pointer (some ⟨w.heap.size,0,none⟩))) (w.alloc (.cells (zc v).toArray t)):=by
      simp [execOp,Instr.box,ha.eval hx,newVar,newRow,iX]
    rw [hr]
    exact hK _ _ (k _ _ _ (by simp [Act.put,hs]) hdf (ha.put (hs▸Nat.le_of_ble_eq_true hd)) (hf.alloc t _) (hw.trans (Ext.alloc w _).toSame))
theorem fX {tt:TT} (hk:mS P tt) {t:Nat} {cs:List Value} {off:Nat} {v:Value} (h:pP tt t cs off=some v) {w:World} {b o:Nat}
  (hc:∀ i u,cs[i]? =some u→w.cell? ⟨b,o+i,none⟩=some u):(loadVar t ⟨b,o+off,none⟩).run P w= .ok v w:=by
 unfold pP at h
 split at h
 ·rename_i i hi
  unfold loadVar
  rw [Sem.run_bind,zCA hk hi]
  split at h
  ·rename_i ha
   obtain ⟨hlen,h⟩:=zFE _ _ _ _ h
   injection h with h
   subst h
   simp only [Result.andThen_ok,ha,if_true,Sem.run_bind,yJ hk hi]
   have hl:((cs.drop off).take i.size).length=i.size:=by rw [List.length_take]; omega
   have:=run_loadCells_list (P:=P) w ⟨b,o+off,none⟩ ((cs.drop off).take i.size) (fun j u hu=>by
    rw [List.getElem?_take] at hu
    split at hu
    ·rw [List.getElem?_drop] at hu
     have h2:=hc _ _ hu
     unfold Addr.add
     split
     ·rename_i hj; subst hj; simpa [Nat.add_assoc] using h2
     ·simpa [Nat.add_assoc] using h2
    ·cases hu)
   rw [hl] at this
   simp [this]
  ·rename_i ha
   rw [zBk] at h
   simp only [Result.andThen_ok,ha,Bool.false_eq_true,if_false,run_load,hc _ _ h]
 ·cases h
theorem qW {tt:TT} (hk:mS P tt) {t:Nat} {x:Operand} {a:Act} {b o off:Nat} {cs:List Value} {v:Value} (hx:a.eval x= .pointer (some ⟨b,o+off,none⟩)) (h:pP tt t cs off=some v) {w:World}
  (hc:∀ i u,cs[i]? =some u→w.cell? ⟨b,o+i,none⟩=some u) (dst:Option Nat) (g:Option (Nat × Bool)):(execOp a.eval ⟨dst, .load t x,ty,pos,af,g⟩).run P w= .ok (.value v) w:=by
 simp [execOp,Instr.loadAt,hx,Instr.sureAddr,fX hk h hc]
theorem St.load [W:Walk P ops X] {t:Nat} {x:Operand} {b p:Nat} (o:Nat) (off:Nat) {cs:List Value} {v:Value} (hd:Nat.blt d nt=true) (hx:ev Γ x=some (.pointer (some ⟨b,p,none⟩))) (hm:As.ro (hM b o cs)∈F) (hp:p=o+off)
    (hv:pP T.tt t cs off=some v) (k:St w0 nt ((d,v)::Γ) F (X rest)):St w0 nt Γ F (X (⟨some d, .load t x,ty,pos,af,none⟩::rest)):=
  fun a w hs hdf ha hf hw=>W.val _ _ _ _ v (xO rfl _) (fun w' he=>qW T.ok (by rw [ha.eval hx,hp]) hv (fun i u hu=>by
      rw [←zAc]
      exact (hf.ext he).ro_hp hm i u hu) _ _)
    (k _ w (by simp [Act.put,hs]) hdf (ha.put (hs▸Nat.le_of_ble_eq_true hd)) hf hw)
theorem Box.cell {g t:Nat} {cs:List Value} {w:World} (h:(Box g t cs).p (hp w)) {i:Nat} {u:Value} (hu:cs[i]? =some u):w.cell? ⟨g,i,none⟩=some u:=by
 obtain ⟨o,ho,fr,rfl,_⟩:=h
 have ho':w.heap[g]? =some (.cells cs.toArray t fr):=ho
 simp [World.cell?,ho',hu]
theorem St.loadB [W:Walk P ops X] {t:Nat} {x:Operand} {g t':Nat} (off:Nat) {p:Nat} {cs:List Value} {v:Value} (hd:Nat.blt d nt=true) (hx:ev Γ x=some (.pointer (some ⟨g,p,none⟩))) (hm:As.res (Box g t' cs)∈F) (hp:p=off)
    (hv:pP T.tt t cs off=some v) (k:St w0 nt ((d,v)::Γ) F (X rest)):St w0 nt Γ F (X (⟨some d, .load t x,ty,pos,af,none⟩::rest)):=
  fun a w hs hdf ha hf hw=>W.val _ _ _ _ v (xO rfl _) (fun w' he=>qW (o:=0) (off:=off) T.ok (by rw [ha.eval hx,hp,Nat.zero_add]) hv (fun i u hu=>by
      rw [Nat.zero_add]
      exact Box.cell ((hf.ext he).res hm) hu) _ _)
    (k _ w (by simp [Act.put,hs]) hdf (ha.put (hs▸Nat.le_of_ble_eq_true hd)) hf hw)
theorem kG {T g:Nat}:∀ (vs:List Value) (cs:List Value) (n j:Nat) (w:World),(Box g T cs).p (hp w)→n+j+vs.length≤cs.length→(∀ u∈vs,u.oneCell'=true)→
  ∃ w',(storeCells ⟨g,n,none⟩ vs j).run P w= .ok () w'∧sT [g] w w'∧(Box g T (cs.take (n+j)++vs++cs.drop (n+j+vs.length))).p (hp w')
 | [],cs,n,j,w,h,_,_=>⟨w,by simp [storeCells],sT.of_ext (Ext.refl w),by simpa using h⟩
 | v::vs,cs,n,j,w,h,hl,h1=>by
  obtain ⟨o,ho,fr,rfl,hfr⟩:=h
  have ho':w.heap[g]? =some (.cells cs.toArray T fr):=ho
  have hl':n+j<cs.length:=by simp at hl; omega
  have hadd:(⟨g,n,none⟩:Addr).add j=⟨g,n+j,none⟩:=by unfold Addr.add; split <;> simp_all
  have hcell:w.cell? ⟨g,n+j,none⟩=some cs[n+j]:=by simp [World.cell?,ho',hl']
  have hfz:w.frozen? ⟨g,n+j,none⟩=false:=by
   have:=hfr (n+j) hl'
   simp only [World.frozen?,ho']
   simpa using this
  have hst:(store ⟨g,n+j,none⟩ v).run P w= .ok () (w.setCell ⟨g,n+j,none⟩ v):=by
   rw [run_store P w _ v .plain (h1 v (by simp)),hcell]
   simp [hfz]
  have hbox:(Box g T (cs.set (n+j) v)).p (hp (w.setCell ⟨g,n+j,none⟩ v)):=by
   refine ⟨.cells (cs.set (n+j) v).toArray T fr,?_,fr,rfl,fun i hi=>hfr i (by simpa using hi)⟩
   simp [hp,World.setCell,Array.getElem?_modify,ho']
  obtain ⟨w',hr,hw,hb⟩:=kG vs (cs.set (n+j) v) n (j+1) (w.setCell ⟨g,n+j,none⟩ v) hbox (by simp at hl ⊢; omega) (fun u hu=>h1 u (by simp [hu]))
  refine ⟨w',by simp [storeCells,hadd,hst,hr],(sT.setCell w ⟨g,n+j,none⟩ v).trans hw,?_⟩
  have e:(cs.set (n+j) v).take (n+(j+1))++vs++(cs.set (n+j) v).drop (n+(j+1)+vs.length)=cs.take (n+j)++v::vs++cs.drop (n+j+(v::vs).length):=by
   apply List.ext_getElem?
   intro i
   simp only [List.length_cons]
   rw [List.getElem?_append,List.getElem?_append,List.getElem?_append,List.getElem?_append]
   simp only [List.length_append,List.length_take,List.length_set,List.length_cons,List.getElem?_take,List.getElem?_drop,List.getElem?_set]
   have m1:min (n+(j+1)) cs.length=n+j+1:=by omega
   have m2:min (n+j) cs.length=n+j:=by omega
   rw [m1,m2]
   by_cases c1:i<n+j
   ·simp only [show i<n+j+1+vs.length by omega,show i<n+j+1 by omega,show i<n+(j+1) by omega,show i<n+j+(vs.length+1) by omega,c1,if_true]
    rw [if_neg (by omega)]
   ·by_cases c2:i=n+j
    ·subst c2
     simp only [show n+j<n+j+1+vs.length by omega,show n+j<n+j+1 by omega,show n+j<n+(j+1) by omega,show n+j<n+j+(vs.length+1) by omega,Nat.lt_irrefl,if_true,if_false,Nat.sub_self]
     simp [hl']
    ·by_cases c3:i<n+j+1+vs.length
     ·simp only [c3,if_true,show ¬ i<n+j+1 by omega,show i<n+j+(vs.length+1) by omega,if_false,c1]
      rw [show i - (n+j)=(i - (n+j+1))+1 by omega,List.getElem?_cons_succ]
     ·simp only [c3,if_false,show ¬ i<n+j+(vs.length+1) by omega]
      rw [if_neg (by omega)]
      congr 1
      omega
  rw [←e]
  exact hb
theorem zGX {tt:TT} (hk:mS P tt) {t g t' off:Nat} {i:TI} (hi:yK tt t=some i) {cs cs':List Value} {v:Value} (hsz:Nat.beq (zc v).length i.size=true) (h1:((zc v).all fun u=>u.oneCell')=true)
  (hs:uE cs off (zc v) some=some cs') {w:World} (h:(Box g t' cs).p (hp w)):
  ∃ w',(storeVar t ⟨g,off,none⟩ v).run P w= .ok () w'∧sT [g] w w'∧(Box g t' cs').p (hp w'):=by
 obtain ⟨hl,he⟩:=jF _ _ _ _ _ hs
 injection he with he
 subst he
 obtain ⟨w',hr,hw,hb⟩:=kG (P:=P) (zc v) cs off 0 w h (by omega) (fun u hu=>by simpa using List.all_eq_true.1 h1 u hu)
 refine ⟨w',?_,hw,by simpa using hb⟩
 have hz:v.cells.size=i.size:=by rw [←iX]; simpa using Nat.eq_of_beq_eq_true hsz
 have hzl:v.cells.toList=zc v:=by rw [←iX]
 simp [storeVar,yJ hk hi,hz,hzl,hr]
theorem St.store {t:Nat} {x y:Operand} {g t' p:Nat} (off:Nat) {i:TI} {cs cs':List Value} {v:Value} {G:List As} (hx:ev Γ x=some (.pointer (some ⟨g,p,none⟩))) (hy:ev Γ y=some v) (hp:p=off) (hi:yK T.tt t=some i)
    (hsz:Nat.beq (zc v).length i.size=true) (h1:((zc v).all fun u=>u.oneCell')=true) (hD:Del F (.res (Box g t' cs)) G) (hs:uE cs off (zc v) some=some cs')
    (k:St w0 nt Γ (.res (Box g t' cs')::G) (wpList P ops Q rest)):St w0 nt Γ F (wpList P ops Q (⟨none, .store t x y,ty,pos,af,none⟩::rest)):=
  fun a w hs' hdf ha hf hw=>wpList_plain rfl fun K hK=>by
    have hf':=hf.front hD
    obtain ⟨w',hr,hwr,hb⟩:=zGX (P:=P) T.ok hi hsz h1 hs (hf'.all _ (List.mem_cons_self ..)).2.1
    unfold Oper.wp
    have hr2:(execOp a.eval ⟨none, .store t x y,ty,pos,af,none⟩).run P w= .ok .skip w':=by
      subst hp
      simp [execOp,Instr.storeAt,ha.eval hx,ha.eval hy,Instr.sureAddr,hr]
    rw [hr2]
    refine hK _ _ (k _ _ hs' hdf ha.put_none (hf'.exchange hwr (by simp [Box]) (fun j hj=>?_) hb) (hw.trans hwr.toSame))
    simp only [Box,List.mem_singleton] at hj
    subst hj
    refine ⟨Nat.lt_of_lt_of_le (hf'.lt (by simp [zW,As.gs,Box])) hwr.size, .inl (by simp [Box])⟩
theorem zIY {α:Type} {E:Cod α} {tt:TT} (hk:mS P tt) {t e:Nat} {i j:TI} (hi:yK tt t=some i) (hdesc:i.desc= .slice e) (hj:yK tt e=some j) (hn:j.size=E.n) {a:Act} {x ix:Operand} {ad:Addr} {n c:Nat} {kk:IntKind} {q:Int}
  (hx:a.eval x= .slice (some ad) n c) (hq:a.eval ix= .int kk q) (h0:0≤q) (h1:q<n) (w:World) (dst:Option Nat) (g:Option (Nat × Bool)):
  (execOp a.eval ⟨dst, .indexAddr t x ix,ty,pos,af,g⟩).run P w= .ok (.value (.pointer (some (ad.add (q.toNat*E.n))))) w:=by
 obtain ⟨dd,hu,hdd⟩:=hk.desc hi
 simp [execOp,Instr.indexAt,hx,hq,asIntOf,run_underlying hu,TD.of_slice (hdd.trans hdesc),yJ hk hj,hn,h0,h1]
theorem St.idx [W:Walk P ops X] {α:Type} (E:Cod α) {t e:Nat} {i j:TI} {x ix:Operand} {A:Option Addr} {n c:Nat} {kk:IntKind} {q:Int} {xs:List α} {y:α} (hd:Nat.blt d nt=true) (hx:ev Γ x=some (.slice A n c)) (hq:ev Γ ix=some (.int kk q))
    (hm:As.ro (Sl E A c xs)∈F) (hlen:n=xs.length) (hy:elt xs q=some y) (hi:yK T.tt t=some i) (hdesc:i.desc= .slice e) (hj:yK T.tt e=some j) (hn:j.size=E.n)
    (k:∀ b o cs,St w0 nt ((d, .pointer (some ⟨b,o,none⟩))::Γ) (.ro (hM b o cs):: .ro (Rel E y cs)::F) (X rest)):St w0 nt Γ F (X (⟨some d, .indexAddr t x ix,ty,pos,af,none⟩::rest)):=
  fun a w hs hdf ha hf hw=>by
    obtain ⟨h0,h1,h2⟩:=uT hy
    obtain ⟨g1,g2,g3,g4⟩:=hf.ro hm
    cases A with
    | none=>rw [g3 rfl] at h2; simp at h2
    | some ad=>
      obtain ⟨hsp,cs,hc1,hc2⟩:=g4 ad rfl _ _ h2
      have hadd:ad.add (q.toNat*E.n)=⟨ad.block,ad.off+q.toNat*E.n,none⟩:=by
        unfold Addr.add
        split
        · rename_i h; cases ad; simp_all
        · rfl
      refine W.val _ _ _ _ _ (xO rfl _) (fun w' he=>zIY (E:=E) T.ok hi hdesc hj hn (ha.eval hx) (ha.eval hq) h0 (hlen▸h1) w' _ _) ?_
      rw [hadd]
      have hf2:Sat (.ro (hM ad.block (ad.off+q.toNat*E.n) cs):: .ro (Rel E y cs)::F) w:=
        (hf.add_ro (Rel E y cs) hc1).add_ro (hM _ _ cs) (fun i u hu=>by simpa [zW,As.gs] using hc2 i u hu)
      exact k _ _ cs _ w (by simp [Act.put,hs]) hdf (ha.put (hs▸Nat.le_of_ble_eq_true hd)) hf2 hw
theorem St.idxF [W:Walk P ops X] {α:Type} {sz:Nat} {enc:α→List Value} {hlen':∀ x,(enc x).length=sz} {hone:∀ x,∀ u∈enc x,u.oneCell'=true} {t e:Nat} {i j:TI} {x ix:Operand} {A:Option Addr} {n c:Nat} {kk:IntKind} {q:Int} {xs:List α} {y:α} (hd:Nat.blt d nt=true) (hx:ev Γ x=some (.slice A n c)) (hq:ev Γ ix=some (.int kk q))
  (hm:As.ro (Sl (Cod.flat sz enc hlen' hone) A c xs)∈F) (hlen:n=xs.length) (hy:elt xs q=some y) (hi:yK T.tt t=some i) (hdesc:i.desc= .slice e) (hj:yK T.tt e=some j) (hn:j.size=sz)
  (k:∀ b o,St w0 nt ((d, .pointer (some ⟨b,o,none⟩))::Γ) (.ro (hM b o (enc y))::F) (X rest)):St w0 nt Γ F (X (⟨some d, .indexAddr t x ix,ty,pos,af,none⟩::rest)):=
 St.idx (Cod.flat sz enc hlen' hone) hd hx hq hm hlen hy hi hdesc hj hn fun b o cs a w hs hdf ha hf hw=>by
  have:cs=enc y:=hf.ro (r:=Rel (Cod.flat sz enc hlen' hone) y cs) (by simp)
  subst this
  refine k b o a w hs hdf ha (hf.of_mem ?_ ?_) hw
  ·simpa [zW,As.gs] using hf.nodup
  ·intro z hz
   simp only [List.mem_cons] at hz ⊢
   rcases hz with hz | hz
   ·exact .inl hz
   ·exact .inr (.inr hz)
end
end Go.Proofs.YtplchdlgdjcojaaGreatDoor
end
section
namespace Go.Proofs.YtplchdlgdjcojaaGreatDoor
open Go
set_option linter.unusedSectionVars false
def Out (w:World) (R:List As) (Post:Value→List As→Prop) (e:Ending) (w':World):Prop:=
 ∃ v F',e= .returned v∧Post v F'∧Sat (F'++R) w'∧Same w w'
def Fun (P:Program) (f:FuncId) (args:List Value) (F:List As) (Post:Value→List As→Prop):Prop:=
 ∀ (w:World) (R:List As),Sat (F++R) w→Calls P f args.toArray w (Out w R Post)
theorem Fun.mono {P:Program} {f:FuncId} {args:List Value} {F:List As} {Post Post':Value→List As→Prop} (h:Fun P f args F Post) (hp:∀ v F',Post v F'→Post' v F'):Fun P f args F Post':=
 fun w R hs=>(h w R hs).mono fun _ _ ⟨v,F',h1,h2,h3,h4⟩=>⟨v,F',h1,hp v F' h2,h3,h4⟩
def Val (v:Value):Value→List As→Prop:=fun v' F'=>v'=v∧F'= []
def envFrom:Nat→List Value→Env
 | _, []=> []
 | k,v::r=>(k,v)::envFrom (k+1) r
theorem At.envFrom (tmps:Array Value) (df:List Deferred):∀ (vs:List Value) (k:Nat),(∀ i v,vs[i]? =some v→tmps[k+i]? =some v)→At { tmps:=tmps,defers:=df } (envFrom k vs)
 | [],_,_=>At.nil _
 | v::r,k,h=>At.cons (by simpa using h 0 v rfl) (At.envFrom tmps df r (k+1) fun i u hu=>by
   have:=h (i+1) u (by simpa using hu)
   rwa [show k+(i+1)=k+1+i by omega] at this)
theorem Fun.intro {P:Program} {f:FuncId} {fn:Func} {c:Code} {args:List Value} {F:List As} {Post:Value→List As→Prop} {nt:Nat} (hf:P.funcs[f]? =some fn) (hb:fn.body=some c) (hn:fn.ntmps=nt) (hl:Nat.ble args.length nt=true)
  (h:∀ w R,St w nt (envFrom 0 args) (F++R) (c.wp P (bodyPost P fn (Out w R Post)))):Fun P f args F Post:=by
 intro w R hs
 have hl':=Nat.le_of_ble_eq_true hl
 refine calls_of_wp hf hb (h w R _ w ?_ rfl ?_ hs (Same.refl w))
 ·simp [hn]; omega
 ·refine At.envFrom _ _ args 0 fun i v hv=>?_
  rw [Nat.zero_add]
  have hi:=(List.getElem?_eq_some_iff.1 hv).1
  rw [Array.getElem?_append_left (by simpa using hi)]
  simpa using hv
section
variable {P:Program} [T:HasTT P] {w0:World} {nt:Nat} {Γ:Env} {F F' R:List As} {Q:Exit→Act→World→Prop} {ops:Array Oper} {rest:List Oper}
variable {d:Nat} {op:Op} {ty:Nat} {pos:String} {af:Array Edge} {X:List Oper→Act→World→Prop} {Post:Value→List As→Prop}
theorem eN {fn:Func} {o:Ending→World→Prop} {a:Act} {w:World} (v:Value) (hr:(results fn a.tmps).run P w= .ok v w) (hd:a.defers= []) (ho:o (.returned v) w):
  bodyPost P fn o .ret a w∧bodyPost P fn o .normal a w:=⟨⟨hd,v,hr,ho⟩,⟨hd,v,hr,ho⟩⟩
def zPh (Γ:Env):List ResultVar→(List Value→Option Value)→Option Value
 | [],k=>k []
 | .tmp t::r,k=>match get Γ t with
  | some v=>zPh Γ r fun vs=>k (v::vs)
  | none=>none
 | .cell _ _::_,_=>none
def zBQ:List Value→Option Value
 | [v]=>some v
 | vs=>some (.tuple vs.toArray)
def zMy (tmps:Array Value):ResultVar→Sem Value
 | .tmp t=>pure (tmps.getD t undef)
 | .cell x t=>do loadVar t (←asAddr (tmps.getD x undef))
theorem zGD (fn:Func) (tmps:Array Value):results fn tmps=(do let vs←fn.results.mapM (zMy tmps); pure (if h:vs.size=1 then vs[0] else .tuple vs)):=by
 unfold results
 have:(fun x:ResultVar=>(match x with | .tmp t=>pure (tmps.getD t undef) | .cell a t=>do loadVar t (←asAddr (tmps.getD a undef)):Sem Value))=zMy tmps:=by
  funext x; cases x <;> rfl
 rw [←this]
 rfl
theorem zKt {Γ:Env} {a:Act} {w:World} (ha:At a Γ):∀ (rs:List ResultVar) (k:List Value→Option Value) (v:Value),zPh Γ rs k=some v→
  ∃ vs,k vs=some v∧(rs.mapM (zMy a.tmps):Sem (List Value)).run P w= .ok vs w
 | [],k,v,h=>⟨[],h,rfl⟩
 | .tmp t::r,k,v,h=>by
  simp only [zPh] at h
  split at h
  ·rename_i u hu
   obtain ⟨vs,h1,h3⟩:=zKt (w:=w) ha r _ v h
   have he:a.tmps.getD t undef=u:=by simp [ha t u hu]
   refine ⟨u::vs,h1,?_⟩
   rw [List.mapM_cons]
   simp only [Sem.run_bind,zMy,he,Sem.run_pure,Result.andThen_ok,h3]
  ·cases h
 | .cell _ _::_,_,_,h=>by simp [zPh] at h
theorem zEd {fn:Func} {Γ:Env} {a:Act} {w:World} {v:Value} {rs:List ResultVar} (ha:At a Γ) (hrs:fn.results=rs.toArray) (h:zPh Γ rs zBQ=some v):(results fn a.tmps).run P w= .ok v w:=by
 obtain ⟨vs,h1,h3⟩:=zKt (P:=P) (w:=w) ha rs zBQ v h
 rw [zGD,hrs,List.mapM_toArray,Sem.run_bind,Sem.run_map,h3]
 simp only [Result.andThen_ok]
 cases vs with
 | nil=>simp [zBQ] at h1; subst h1; simp
 | cons x r=>
  cases r with
  | nil=>simp [zBQ] at h1; subst h1; simp
  | cons y r=>simp [zBQ] at h1; subst h1; simp
theorem St.finN {fn:Func} {v:Value} {rs:List ResultVar} (hrs:fn.results=rs.toArray) (hv:zPh Γ rs zBQ=some v) (F':List As) (hp:Post v F') (hs:∀ w,Sat F w→Sat (F'++R) w):
  St w0 nt Γ F (bodyPost P fn (Out w0 R Post) .normal):=
 fun _ w _ hdf ha hf hw=>(eN v (zEd ha hrs hv) hdf ⟨v,F',rfl,hp,hs w hf,hw⟩).2
def Ent (P:Program) (f:FuncId):Prop:=∃ fn,P.funcs[f]? =some fn∧(fn.name== "runtime.NumGoroutine")=false∧fn.body.isNone=false
theorem zAN {f:FuncId} (he:Ent P f) {a:Act} {x:Operand} {xs:List Operand} {vs:List Value} {ts:Array Nat} (hx:a.eval x= .func (.func f) #[] #[]) (hxs:xs.map a.eval=vs) (w:World) (dst:Option Nat) (g:Option (Nat × Bool)):
  (execOp a.eval ⟨dst, .call { callee:=.value x,args:=xs.toArray,argTypes:=ts },ty,pos,af,g⟩).run P w= .ok (.enter f vs.toArray) w:=by
 obtain ⟨fn,h1,h2,h3⟩:=he
 subst hxs
 have hc:∀ args:Array Value,(callFunc f args).run P w= .ok (.enter f args) w:=fun args=>by
  unfold callFunc
  rw [Sem.run_bind,run_program]
  simp only [Result.andThen_ok,h1,h2,h3,Bool.false_eq_true,if_false,Sem.run_pure]
 simp [execOp,resolve,hx,Deferred.ofValue,invoke,hc]
theorem lB {F:List As} (h:∀ x∈F,x.gs= []):zW F= []:=by
 induction F with
 | nil=>rfl
 | cons x r ih=>simp [zW,h x (by simp),ih fun y hy=>h y (by simp [hy])]
def nP:List As→Bool
 | []=>true
 | .ro _::r=>nP r
 | .res _::_=>false
theorem kD:∀ {F:List As},nP F=true→∀ x∈F,∃ r,x= .ro r
 | [],_,x,hx=>by cases hx
 | .ro r::F,h,x,hx=>by
  cases hx with
  | head=>exact ⟨r,rfl⟩
  | tail _ hx=>exact kD (F:=F) h x hx
 | .res _::_,h,_,_=>by simp [nP] at h
def nO:List As→List As→Prop
 | [],_=>True
 | x::r,F=>x∈F∧nO r F
theorem nO.mem:∀ {G F:List As},nO G F→∀ x∈G,x∈F
 | [],_,_,x,hx=>by cases hx
 | y::r,F,h,x,hx=>by
  cases hx with
  | head=>exact h.1
  | tail _ hx=>exact nO.mem h.2 x hx
def gC (w:World):Ro where
 p m:=∀ k,k<w.heap.size→m k=w.heap[k]?
 mono m m' h hp k hk:=by
  have h1:=hp k hk
  rw [Array.getElem?_eq_getElem hk] at h1 ⊢
  exact h k _ h1
theorem Fun.quiet {f:FuncId} {args:List Value} {G:List As} {v:Value} (h:Fun P f args G (Val v)) (hro:nP G=true) (hin:nO G F) {w:World} (hf:Sat F w):
  Calls P f args.toArray w fun e w'=>e= .returned v∧Ext w w':=by
 have hG:=kD hro
 have hb:zW (G++ [.ro (gC w)])= []:=lB fun x hx=>by
  rcases List.mem_append.1 hx with hx | hx
  ·obtain ⟨r,rfl⟩:=hG x hx; rfl
  ·simp at hx; subst hx; rfl
 have hs:Sat (G++ [.ro (gC w)]) w:=by
  refine ⟨by rw [hb]; simp,fun x hx=>?_⟩
  rw [hb]
  rcases List.mem_append.1 hx with hx | hx
  ·obtain ⟨r,rfl⟩:=hG x hx
   refine r.mono _ _ ?_ (hf.ro (hin.mem _ hx))
   exact cA w (by simp)
  ·simp at hx
   subst hx
   intro k _
   simp [frz]
 refine (h w [.ro (gC w)] hs).mono fun e w' ⟨v',F',h1,⟨h2,h3⟩,h4,h5⟩=>?_
 subst h2; subst h3
 refine ⟨h1,h5,fun k hk=>?_⟩
 have h6:=h4.ro_hp (r:=gC w) (by simp) k hk
 exact h6
theorem St.callV [W:Walk P ops X] {f:FuncId} {args:List Value} {G:List As} {v:Value} {x:Operand} {xs:List Operand} {ts:Array Nat} (h:Fun P f args G (Val v)) (he:Ent P f) (hd:Nat.blt d nt=true) (hx:ev Γ x=some (.func (.func f) #[] #[])) (hxs:evs Γ xs=some args)
  (hro:nP G=true) (hin:nO G F) (k:St w0 nt ((d,v)::Γ) F (X rest)):
  St w0 nt Γ F (X (⟨some d, .call { callee:=.value x,args:=xs.toArray,argTypes:=ts },ty,pos,af,none⟩::rest)):=
 fun a w hs hdf ha hf hw=>W.call _ _ _ _ f args.toArray v (xO rfl _) (fun w' _=>zAN he (ha.eval hx) (ha.evals hxs) w' _ _)
  (fun _ hext=>h.quiet hro hin (hf.ext hext))
  (fun _ hext=>k _ _ (by simp [Act.put,hs]) hdf (ha.put (hs▸Nat.le_of_ble_eq_true hd)) (hf.ext hext) (hw.trans hext.toSame))
theorem St.call {f:FuncId} {args:List Value} {G:List As} {x:Operand} {xs:List Operand} {ts:Array Nat} (h:Fun P f args G Post) (he:Ent P f) (hd:Nat.blt d nt=true) (hx:ev Γ x=some (.func (.func f) #[] #[])) (hxs:evs Γ xs=some args)
  (hF:∀ w,Sat F w→Sat (G++R) w) (k:∀ v F',Post v F'→St w0 nt ((d,v)::Γ) (F'++R) (wpList P ops Q rest)):
  St w0 nt Γ F (wpList P ops Q (⟨some d, .call { callee:=.value x,args:=xs.toArray,argTypes:=ts },ty,pos,af,none⟩::rest)):=
 fun a w hs hdf ha hf hw=>wpList_plain rfl fun K hK=>by
  unfold Oper.wp
  rw [zAN he (ha.eval hx) (ha.evals hxs)]
  show Calls P f args.toArray w _
  refine (h w R (hF w hf)).mono fun e w' ⟨v,F',h1,h2,h3,h4⟩=>?_
  subst h1
  exact hK _ _ (k v F' h2 _ _ (by simp [Act.put,hs]) hdf (ha.put (hs▸Nat.le_of_ble_eq_true hd)) h3 (hw.trans h4))
theorem Sat.dup {G F:List As} {w:World} (hro:nP G=true) (hin:nO G F) (h:Sat F w):Sat (G++F) w:=by
 have hG:=kD hro
 refine h.of_mem ?_ fun x hx=>?_
 ·rw [sI,lB (F:=G) fun x hx=>by obtain ⟨r,rfl⟩:=hG x hx; rfl]
  simpa using h.nodup
 ·rcases List.mem_append.1 hx with hx | hx
  ·exact hin.mem x hx
  ·exact hx
inductive rG (σ τ:Type) where
 | next (s:σ)
 | done (t:τ)
def bW {σ τ:Type} (m:σ→Option (rG σ τ)):Nat→σ→Option τ
 | 0,_=>none
 | n+1,s=>match m s with
  | some (.next s')=>bW m n s'
  | some (.done t)=>some t
  | none=>none
theorem zKA {σ τ:Type} {m:σ→Option (rG σ τ)}:∀ {n k:Nat} {s:σ} {t u:τ},bW m n s=some t→bW m k s=some u→t=u
 | 0,_,_,_,_,h,_=>by simp [bW] at h
 | _+1,0,_,_,_,_,h=>by simp [bW] at h
 | n+1,k+1,s,t,u,h1,h2=>by
  simp only [bW] at h1 h2
  split at h1
  ·rename_i s' hs; rw [hs] at h2; exact zKA h1 h2
  ·rename_i t' hs; rw [hs] at h2; injection h1 with h1; injection h2 with h2; rw [←h1,←h2]
  ·cases h1
open Classical in
noncomputable def yG {σ τ:Type} (m:σ→Option (rG σ τ)) (s:σ):Option τ:=
 if h:∃ t n,bW m n s=some t then some (Classical.choose h) else none
theorem mT {σ τ:Type} {m:σ→Option (rG σ τ)} {s:σ} {t:τ}:yG m s=some t↔∃ n,bW m n s=some t:=by
 unfold yG
 split
 ·rename_i h
  have:=Classical.choose_spec h
  obtain ⟨n,hn⟩:=this
  constructor
  ·intro e; injection e with e; exact ⟨n,e▸hn⟩
  ·intro ⟨k,hk⟩; rw [zKA hn hk]
 ·rename_i h
  constructor
  ·intro e; cases e
  ·intro ⟨k,hk⟩; exact absurd ⟨t,k,hk⟩ h
def zNM {σ τ ε:Type} (nt:Nat) (w0:World) (m:σ→Option (rG σ τ)) (s:σ) (Γs:σ→ε→Env) (Fs:σ→ε→List As) (I:σ→ε→Prop):Act→World→Prop:=fun a w=>
 ∃ s' e',m s=some (.next s')∧I s' e'∧a.tmps.size=nt∧a.defers= []∧At a (Γs s' e')∧Sat (Fs s' e') w∧Same w0 w
theorem St.again {σ τ ε:Type} {m:σ→Option (rG σ τ)} {s:σ} {Γs:σ→ε→Env} {Fs:σ→ε→List As} {I:σ→ε→Prop} (s':σ) (e':ε) (hm:m s=some (.next s')) (hI:I s' e') (hΓ:zAU (Γs s' e') Γ) (hF:∀ w,Sat F w→Sat (Fs s' e') w):
  St w0 nt Γ F (zNM nt w0 m s Γs Fs I):=
 fun _ w hs hdf ha hf hw=>⟨s',e',hm,hI,hs,hdf,ha.sub hΓ,hF w hf,hw⟩
theorem zOg {J:Nat→Prop} (h:∃ k,J k):∃ k,J k∧∀ j,J j→k≤j:=by
 obtain ⟨k,hk⟩:=h
 induction k using Nat.strongRecOn with
 | _ k ih=>
  by_cases hl:∃ j,j<k∧J j
  ·obtain ⟨j,hj,hJ⟩:=hl
   exact ih j hj hJ
  ·exact ⟨k,hk,fun j hJ=>Nat.le_of_not_lt fun hlt=>hl ⟨j,hlt,hJ⟩⟩
theorem St.loop {σ τ ε:Type} {m:σ→Option (rG σ τ)} {s0:σ} {out:τ} {c:Code} (hm:yG m s0=some out) (Γs:σ→ε→Env) (Fs:σ→ε→List As) (I:σ→ε→Prop) (e0:ε) (h0:I s0 e0) (hΓ:zAU (Γs s0 e0) Γ) (hF:∀ w,Sat F w→Sat (Fs s0 e0) w)
  (round:∀ s e,I s e→(∃ n,bW m (n+1) s=some out)→St w0 nt (Γs s e) (Fs s e) (c.wp P (Exit.then (zNM nt w0 m s Γs Fs I) Q))):St w0 nt Γ F ((Code.loop c).wp P Q):=by
 obtain ⟨n,hn⟩:=mT.1 hm
 have hpos:∀ {n s},bW m n s=some out→∃ k,n=k+1:=fun {n s} h=>by
  cases n with
  | zero=>simp [bW] at h
  | succ k=>exact ⟨k,rfl⟩
 intro a w hs hdf ha hf hw
 let J:Act→World→Nat→Prop:=fun a w k=>∃ s e,I s e∧bW m (k+1) s=some out∧a.tmps.size=nt∧a.defers= []∧At a (Γs s e)∧Sat (Fs s e) w∧Same w0 w
 refine wp_loop (fun a w=>∃ k,J a w k) (fun a w=>open Classical in if h:∃ k,J a w k then Classical.choose (zOg h) else 0) ?_ ?_
 ·obtain ⟨k,rfl⟩:=hpos hn
  exact ⟨k,s0,e0,h0,hn,hs,hdf,ha.sub hΓ,hF w hf,hw⟩
 ·intro a w hJ
  classical
  have hk:=(Classical.choose_spec (zOg hJ)).1
  generalize hkk:Classical.choose (zOg hJ)=k at hk
  obtain ⟨s,e,hI,hit,h1,h2,h3,h4,h5⟩:=hk
  refine wp_mono (round s e hI ⟨k,hit⟩ a w h1 h2 h3 h4 h5) fun x a' w' hq=>?_
  cases x with
  | normal=>
   obtain ⟨s',e',hm',hI',g1,g2,g3,g4,g5⟩:=hq
   simp only [bW,hm'] at hit
   obtain ⟨k',rfl⟩:=hpos hit
   have hJ':J a' w' k':=⟨s',e',hI',hit,g1,g2,g3,g4,g5⟩
   refine ⟨⟨k',hJ'⟩,?_⟩
   rw [dif_pos ⟨k',hJ'⟩,dif_pos hJ]
   have:=(Classical.choose_spec (zOg (⟨k',hJ'⟩:∃ k,J a' w' k))).2 k' hJ'
   rw [hkk]
   omega
  | _=>exact hq
end
end Go.Proofs.YtplchdlgdjcojaaGreatDoor
end
section
namespace Go.Proofs.YtplchdlgdjcojaaGreatDoor
open Go
def sY (o:Oper):List Nat:=(o.after.toList.filter (Region.binds .any)).map (·.on)
def inL:Nat→List Nat→Bool
 | _, []=>false
 | x,y::r=>bif Nat.beq x y then true else inL x r
theorem zOE {x:Nat}:∀ {l:List Nat},inL x l=true→x∈l
 | [],h=>by simp [inL] at h
 | y::r,h=>by
  simp only [inL] at h
  cases hb:Nat.beq x y
  ·simp only [hb,cond_false] at h; exact List.mem_cons_of_mem _ (zOE h)
  ·rw [Nat.eq_of_beq_eq_true hb]; exact List.mem_cons_self ..
def bZ (E:List Nat):List (Nat × Nat)→Nat→Bool
 | [],_=>true
 | p::r,t=>bif Nat.beq p.1 t then (bif inL p.2 E then bZ E r t else false) else bZ E r t
theorem fC {E:List Nat}:∀ {ps:List (Nat × Nat)} {t:Nat},bZ E ps t=true→∀ i,(t,i)∈ps→i∈E
 | [],_,_,_,h=>by cases h
 | p::r,t,h,i,hi=>by
  simp only [bZ] at h
  cases hb:Nat.beq p.1 t
  ·simp only [hb,cond_false] at h
   cases hi with
   | head=>simp at hb
   | tail _ hi=>exact fC h i hi
  ·simp only [hb,cond_true] at h
   cases hin:inL p.2 E
   ·simp [hin] at h
   ·simp only [hin,cond_true] at h
    cases hi with
    | head=>exact zOE hin
    | tail _ hi=>exact fC h i hi
def zLd (j:Nat):List Nat→Bool
 | []=>true
 | x::r=>bif Nat.blt x j then zLd j r else false
theorem zGp {j:Nat}:∀ {l:List Nat},zLd j l=true→∀ x∈l,x<j
 | [],_,_,h=>by cases h
 | y::r,h,x,hx=>by
  simp only [zLd] at h
  cases hb:Nat.blt y j
  ·simp [hb] at h
  ·simp only [hb,cond_true] at h
   cases hx with
   | head=>exact Nat.le_of_ble_eq_true hb
   | tail _ hx=>exact zGp h x hx
def zCD (E:List Nat) (ws:List (Nat × Nat)):List Nat→Bool
 | []=>true
 | t::r=>bif bZ E ws t then zCD E ws r else false
theorem zCt {E:List Nat} {ws:List (Nat × Nat)}:∀ {l:List Nat},zCD E ws l=true→∀ t∈l,bZ E ws t=true
 | [],_,_,h=>by cases h
 | y::r,h,x,hx=>by
  simp only [zCD] at h
  cases hb:bZ E ws y
  ·simp [hb] at h
  ·simp only [hb,cond_true] at h
   cases hx with
   | head=>exact hb
   | tail _ hx=>exact zCt h x hx
def zIJ:Op→Bool
 | .select ..=>false
 | _=>true
def zOG (E:List Nat) (ws rs:List (Nat × Nat)):Option Nat→Bool
 | none=>true
 | some d=>bif bZ E ws d then bZ E rs d else false
def zWX (j:Nat) (ws:List (Nat × Nat)):Option Nat→List (Nat × Nat)
 | none=>ws
 | some d=>(d,j)::ws
def fx (ops:Array Oper):List Oper→Nat→List (Nat × Nat)→List (Nat × Nat)→Bool
 | [],_,_,_=>true
 | o::r,j,ws,rs=>
  bif zLd j (sY o) then bif zCD (sY o) ws (o.looksAt ops) then bif zOG (sY o) ws rs o.dst then bif zIJ o.op then
   fx ops r (j+1) (zWX j ws o.dst) ((o.looksAt ops).map (·,j)++rs) else false else false else false else false
structure zXM (ops:Array Oper):Prop where
 lt:∀ (j:Nat) (oj:Oper),ops[j]? =some oj→∀ e∈oj.after,Region.binds .any e=true→e.on<j
 apart:∀ (i j:Nat) (oi oj:Oper),ops[i]? =some oi→ops[j]? =some oj→i<j→(∀ e∈oj.after,Region.binds .any e=true→e.on≠i)→oi.apart ops oj=true
 nosel:∀ (j:Nat) (o:Oper) cs b,ops[j]? =some o→o.op≠.select cs b
theorem eJ {o:Oper} {i:Nat}:i∈sY o↔∃ e∈o.after,Region.binds .any e=true∧e.on=i:=by
 simp [sY,List.mem_map,List.mem_filter,and_assoc]
theorem zVa {ops:Array Oper}:∀ (l:List Oper) (k:Nat) (ws rs:List (Nat × Nat)),(∀ j,l[j]? =ops[k+j]?)→fx ops l k ws rs=true→
    (∀ i oi d,i<k→ops[i]? =some oi→oi.dst=some d→(d,i)∈ws)→(∀ i oi t,i<k→ops[i]? =some oi→t∈oi.looksAt ops→(t,i)∈rs)→
    (∀ (j:Nat) (oj:Oper),k≤j→ops[j]? =some oj→(∀ e∈oj.after,Region.binds .any e=true→e.on<j)∧(∀ cs b,oj.op≠.select cs b)∧
      ∀ (i:Nat) (oi:Oper),ops[i]? =some oi→i<j→(∀ e∈oj.after,Region.binds .any e=true→e.on≠i)→oi.apart ops oj=true)
  | [],k,ws,rs,hl,_,_,_,j,oj,hj,ho=>by
    have:=hl (j - k)
    rw [show k+(j - k)=j by omega,ho] at this
    simp at this
  | o::l,k,ws,rs,hl,h,hw,hr,j,oj,hj,ho=>by
    have h0:ops[k]? =some o:=by simpa using (hl 0).symm
    simp only [fx] at h
    cases h1:zLd k (sY o) <;> simp only [h1,cond_true,cond_false] at h <;> try cases h
    cases h2:zCD (sY o) ws (o.looksAt ops) <;> simp only [h2,cond_true,cond_false] at h <;> try cases h
    cases h3:zOG (sY o) ws rs o.dst <;> simp only [h3,cond_true,cond_false] at h <;> try cases h
    cases h4:zIJ o.op <;> simp only [h4,cond_true,cond_false] at h <;> try cases h
    by_cases hjk:j=k
    · subst hjk
      rw [h0] at ho
      injection ho with ho
      subst ho
      refine ⟨fun e he hb=>zGp h1 _ (eJ.2 ⟨e,he,hb,rfl⟩),(fun cs b hop=>by rw [hop] at h4; cases h4),fun i oi hi hij hno=>?_⟩
      have hnot:i∉sY o:=fun hm=>by
        obtain ⟨e,he,hb,rfl⟩:=eJ.1 hm
        exact hno e he hb rfl
      unfold Oper.apart
      rw [Bool.and_eq_true]
      constructor
      · split
        · rename_i d hd
          rw [Bool.and_eq_true]
          constructor
          · simp only [Bool.not_eq_true', List.contains_eq_mem, decide_eq_false_iff_not]
            intro hm
            exact hnot (fC (zCt h2 d hm) i (hw i oi d hij hi hd))
          · simp only [bne_iff_ne, ne_eq]
            intro hd2
            rw [hd2] at h3
            simp only [zOG] at h3
            cases h5:bZ (sY o) ws d
            · simp [h5] at h3
            · exact hnot (fC h5 i (hw i oi d hij hi hd))
        · rfl
      · split
        · rename_i d hd
          simp only [Bool.not_eq_true',List.contains_eq_mem,decide_eq_false_iff_not]
          intro hm
          rw [hd] at h3
          simp only [zOG] at h3
          cases h5:bZ (sY o) ws d
          · simp [h5] at h3
          · simp only [h5, cond_true] at h3
            exact hnot (fC h3 i (hr i oi d hij hi hm))
        · rfl
    · refine zVa l (k + 1) _ _ (fun j => by have := hl (j + 1); simpa [Nat.add_assoc, Nat.add_comm 1 j] using this) h (fun i oi d hi hoi hd => ?_) (fun i oi t hi hoi ht => ?_) j oj (by omega) ho
      · by_cases hik : i = k
        · subst hik
          rw [h0] at hoi
          injection hoi with hoi
          subst hoi
          rw [hd]
          exact List.mem_cons_self ..
        · have := hw i oi d (by omega) hoi hd
          unfold zWX
          split
          · exact this
          · exact List.mem_cons_of_mem _ this
      · by_cases hik : i = k
        · subst hik
          rw [h0] at hoi
          injection hoi with hoi
          subst hoi
          exact List.mem_append_left _ (List.mem_map.2 ⟨t,ht,rfl⟩)
        · exact List.mem_append_right _ (hr i oi t (by omega) hoi ht)
theorem zWs {l:List Oper} (h:fx l.toArray l 0 [] []=true):zXM l.toArray:=by
 have:=zVa (ops:=l.toArray) l 0 [] [] (fun j=>by simp) h (fun i _ _ hi=>by omega) (fun i _ _ hi=>by omega)
 exact ⟨fun j oj hj=>(this j oj (Nat.zero_le _) hj).1,fun i j oi oj hi hj hij hno=>(this j oj (Nat.zero_le _) hj).2.2 i oi hi hij hno,fun j o cs b hj=>(this j o (Nat.zero_le _) hj).2.1 cs b⟩
section
variable {P:Program} {C:World→Prop}
theorem zHZ {ops:Array Oper} (hok:zXM ops) {Q:Act→Prop}:∀ (l:List Oper) (k:Nat) (listed:Array Bool) (a:Act),(∀ j,l[j]? =ops[k+j]?)→listed.size=ops.size→(∀ j,j<ops.size→listed[j]? =some (decide (j<k)))→
    wpQuiet P ops C Q l a→wpAnyQ P .any ops C Q l.length listed a
  | [],k,listed,a,hl,hsz,hlist,h=>by
    refine ⟨?_,h⟩
    have hk:ops.size≤k:=by
      rcases Nat.lt_or_ge k ops.size with hlt | hge
      · have := hl 0
        simp [hlt] at this
      · exact hge
    rw [List.eq_nil_iff_forall_not_mem]
    intro i hi
    obtain ⟨h1,o,ho,_⟩:=mem_ready.1 hi
    have hio:=(Array.getElem?_eq_some_iff.1 ho).1
    have:=hlist i hio
    simp [this,show i<k by omega] at h1
  | o::l,k,listed,a,hl,hsz,hlist,h=>by
    have h0:ops[k]? =some o:=by simpa using (hl 0).symm
    have hk:=(Array.getElem?_eq_some_iff.1 h0).1
    have hst:qOp P ops C k (wpQuiet P ops C Q l) a:=by unfold qOp; simp only [h0]; exact h
    obtain ⟨v,hy,hK⟩:=yieldsIn_of_qOp h0 hst
    refine wpAnyQ_first h0 hok.nosel l.length listed a (fun j oj hj hjk hun hno=>?_) ?_ hy
      (zHZ hok l (k+1) _ _ (fun j=>by have:=hl (j+1); simpa [Nat.add_assoc,Nat.add_comm 1 j] using this) (by simpa using hsz) (fun j hj=>?_) hK)
    · have hjs := (Array.getElem?_eq_some_iff.1 hj).1
      have:=hlist j hjs
      have hge:k≤j:=by
        simp [this] at hun
        omega
      exact hok.apart k j o oj h0 hj (by omega) hno
    · refine mem_ready.2 ⟨?_, o, h0, fun e he hb => ?_⟩
      · simp [hlist k hk]
      · have hlt := hok.lt k o h0 e he hb
        simp [hlist e.on (by omega),hlt]
    · rw [Array.getElem?_setIfInBounds]
      split
      · rename_i hkj
        subst hkj
        simp [hsz,hk]
      · rw [hlist j hj]
        congr 1
        simp only [decide_eq_decide]
        omega
theorem zJu {id:Nat} {Q:Exit→Act→World→Prop} {a:Act} {w:World} {l:List Oper} (hm:P.follows .mixedOrders=true) (hB:fx l.toArray l 0 [] []=true) (hC:C { w with drawn:=w.drawn+1 })
  (h:wpQuiet P l.toArray C (fun a'=>∀ w',C w'→Q .normal a' w') l a):(Code.region id l.toArray true).wp P Q a w:=by
 refine wp_region_any hm (wpAny_of_quiet (Q:=fun a'=>∀ w',C w'→Q .normal a' w') (fun _ w' hw' h=>h w' hw') _ _ _ _ hC ?_)
 have:=zHZ (C:=C) (zWs hB) l 0 (Array.replicate l.toArray.size false) a (by simp) (by simp) (fun j hj=>by simp only [List.size_toArray] at hj; simp [hj]) h
 simpa using this
theorem St.regionF {w0:World} {nt:Nat} {Γ:Env} {F:List As} {Q:Exit→Act→World→Prop} {id:Nat} {l:List Oper} (hm:P.follows .mixedOrders=true) (hB:fx l.toArray l 0 [] []=true) (h:St w0 nt Γ F (wpQ P l.toArray Q l)):
  St w0 nt Γ F ((Code.region id l.toArray true).wp P Q):=
 fun a w hs hd ha hf hw=>zJu (C:=Ext w) hm hB (Ext.drew w) (by simpa [wpQ] using h a w hs hd ha hf hw)
end
end Go.Proofs.YtplchdlgdjcojaaGreatDoor
end
section
namespace Go.Proofs.YtplchdlgdjcojaaGreatDoor
open Go
set_option linter.unusedSectionVars false
def mC (sz e:Nat) (A:Option Addr) (n c:Nat) (rows:List (List Value)) (m:Hp):Prop:=
 rows.length=n∧(∀ r∈rows,r.length=sz∧∀ u∈r,u.oneCell'=true)∧
  ((n=0∧c=0)∨∃ (g:Nat) (cur:Array Value) (fr:Nat × Nat),0<c∧A=some ⟨g,0,none⟩∧m g=some (.cells cur e fr)∧cur.size=c*sz∧n≤c∧c≤maxLen∧
   cur.toList.take (n*sz)=rows.flatten∧∀ i,i<cur.size→¬(fr.1≤i∧i<fr.2))
def zTJ:Option Addr→List Nat
 | some a=> [a.block]
 | none=> []
def lA (A:Option Addr) (c:Nat):List Nat:=if c=0 then [] else zTJ A
theorem rL (A:Option Addr) (c:Nat):(lA A c).Nodup:=by
 unfold lA
 split
 ·simp
 ·cases A <;> simp [zTJ]
theorem lH {A:Option Addr} {c k:Nat}:k∈lA A c↔0<c∧∃ a,A=some a∧k=a.block:=by
 unfold lA
 split
 ·rename_i h; simp [h]
 ·rename_i h
  cases A with
  | none=>simp [zTJ]
  | some a=>simp [zTJ]; omega
theorem zBl {g:Nat} {c:Nat} (h:0<c):lA (some ⟨g,0,none⟩) c= [g]:=by
 unfold lA
 rw [if_neg (by omega)]
 rfl
def Own (sz e:Nat) (A:Option Addr) (n c:Nat) (rows:List (List Value)):Res where
 gs:=lA A c
 p:=mC sz e A n c rows
 loc m m' h hp:=by
  obtain ⟨h1,h2,h3⟩:=hp
  refine ⟨h1,h2,?_⟩
  rcases h3 with h3 | ⟨g,cur,fr,h0,hA,hm,rest⟩
  ·exact .inl h3
  ·refine .inr ⟨g,cur,fr,h0,hA,?_,rest⟩
   rw [←h g (lH.2 ⟨h0,_,hA,rfl⟩),hm]
theorem vF {sz:Nat}:∀ {rows:List (List Value)},(∀ r∈rows,r.length=sz∧∀ u∈r,u.oneCell'=true)→rows.flatten.length=rows.length*sz
 | [],_=>by simp
 | r::rs,h=>by
  have h1:=(h r (by simp)).1
  have h2:=vF (rows:=rs) fun x hx=>h x (by simp [hx])
  simp [h1,h2,Nat.add_mul,Nat.add_comm]
theorem mC.flat {sz e n c:Nat} {A:Option Addr} {rows:List (List Value)} {m:Hp} (h:mC sz e A n c rows m):rows.flatten.length=n*sz:=by rw [vF h.2.1,h.1]
theorem mC.one {sz e n c:Nat} {A:Option Addr} {rows:List (List Value)} {m:Hp} (h:mC sz e A n c rows m):∀ u∈rows.flatten,u.oneCell'=true:=by
 intro u hu
 obtain ⟨r,hr,hur⟩:=List.mem_flatten.1 hu
 exact (h.2.1 r hr).2 u hur
theorem mC.nil (sz e:Nat) (m:Hp):mC sz e none 0 0 [] m:=⟨rfl,by simp, .inl ⟨rfl,rfl⟩⟩
theorem Sat.own_nil {F:List As} {w:World} (h:Sat F w) (sz e:Nat):Sat (.res (Own sz e none 0 0 [])::F) w:=
 h.add_res (Ext.refl w) _ (by simp [Own,lA]) (by simp [Own,lA]) (mC.nil sz e _)
section
variable {P:Program} [T:HasTT P] {w0:World} {nt:Nat} {Γ:Env} {F F' G R:List As} {Q:Exit→Act→World→Prop} {ops:Array Oper} {rest:List Oper}
variable {d:Nat} {op:Op} {ty:Nat} {pos:String} {af:Array Edge} {X:List Oper→Act→World→Prop}
theorem zBO {sz:Nat}:∀ {rows:List (List Value)},(∀ r∈rows,r.length=sz∧∀ u∈r,u.oneCell'=true)→∀ (q:Nat) (row:List Value),rows[q]? =some row→∀ i u,row[i]? =some u→rows.flatten[q*sz+i]? =some u
 | [],_,q,row,hq,_,_,_=>by simp at hq
 | r::rs,h,0,row,hq,i,u,hu=>by
  simp at hq
  subst hq
  have hi:=(List.getElem?_eq_some_iff.1 hu).1
  simp only [List.flatten_cons,Nat.zero_mul,Nat.zero_add]
  rw [List.getElem?_append_left hi,hu]
 | r::rs,h,q+1,row,hq,i,u,hu=>by
  have h1:=(h r (by simp)).1
  have:=zBO (rows:=rs) (fun x hx=>h x (by simp [hx])) q row (by simpa using hq) i u hu
  simp only [List.flatten_cons]
  rw [List.getElem?_append_right (by rw [h1,Nat.add_mul]; omega),←this]
  congr 1
  rw [h1,Nat.add_mul]
  omega
theorem mC.cell {sz e n c:Nat} {A:Option Addr} {rows:List (List Value)} {w:World} (h:mC sz e A n c rows (hp w)) {j:Nat} {u:Value} (hu:rows.flatten[j]? =some u):
  ∃ g,A=some ⟨g,0,none⟩∧w.cell? ⟨g,j,none⟩=some u:=by
 rcases h.2.2 with ⟨h0,_⟩ | ⟨g,cur,fr,_,hA,hm,hs,hn,hc,ht,_⟩
 ·have:=h.flat
  rw [h0,Nat.zero_mul] at this
  have:=List.eq_nil_of_length_eq_zero this
  rw [this] at hu
  simp at hu
 ·refine ⟨g,hA,?_⟩
  have hm':w.heap[g]? =some (.cells cur e fr):=hm
  rw [←ht,List.getElem?_take] at hu
  split at hu
  ·simp [World.cell?,hm']; simpa using hu
  ·cases hu
theorem mC.sl {α:Type} {E:Cod α} {e n c:Nat} {A:Option Addr} {rows:List (List Value)} {m:Hp} (h:mC E.n e A n c rows m) (xs:List α) (hx:xs.length=n) (m':Hp) (hm:∀ k,k∈lA A c→m k=m' k)
  (hr:∀ (j:Nat) (x:α),xs[j]? =some x→∃ r,rows[j]? =some r∧E.rel m' x r):SlP E A c xs m':=by
 have h3:=h.2.2
 rcases h3 with ⟨h0,hc0⟩ | ⟨g,cur,fr,hpos,hA,hg,hs,hn,hc,ht,_⟩
 ·have:xs= []:=List.eq_nil_of_length_eq_zero (hx.trans h0)
  subst this; subst hc0
  exact ⟨by simp,by simp [maxLen],fun _=>rfl,fun ad _ j x hj=>by simp at hj⟩
 ·subst hA
  refine ⟨by omega,hc,(fun h=>by cases h),fun ad had j x hj=>?_⟩
  injection had with had
  subst had
  obtain ⟨r,hr1,hr2⟩:=hr j x hj
  refine ⟨rfl,r,hr2,fun i u hu=>?_⟩
  have hf:=zBO h.2.1 j r hr1 i u hu
  rw [←ht,List.getElem?_take] at hf
  split at hf
  ·have hgm:m' g=some (.cells cur e fr):=by rw [←hm g (lH.2 ⟨hpos,_,rfl,rfl⟩)]; exact hg
   simp only [gZ,hgm,Nat.zero_add]
   simpa using hf
  ·cases hf
def bQ (P:Program) (sz:Nat) (x:Value) (m:Nat) (news:List Value) (w:World):Prop:=
 (∀ w',(Builtin.lenOf x).run P w'= .ok m w')∧news.length=m*sz∧(∀ u∈news,u.oneCell'=true)∧∀ w',w'.heap=w.heap→(Builtin.firstCells sz m x).run P w'= .ok news.toArray w'
theorem kB {sz m c:Nat} {ad:Addr} {news:List Value} {w:World} (hl:news.length=m*sz) (hc:∀ j u,news[j]? =some u→w.cell? (ad.add j)=some u):(Builtin.firstCells sz m (.slice (some ad) m c)).run P w= .ok news.toArray w:=by
 have:=run_loadCells_list (P:=P) w ad news hc
 rw [hl] at this
 simpa [Builtin.firstCells] using this
theorem sC (g j:Nat):(⟨g,0,none⟩:Addr).add j=⟨g,j,none⟩:=by unfold Addr.add; split <;> simp_all
def zBF:TD→Bool
 | .int _=>false
 | _=>true
theorem zIc {t t2 ty e:Nat} {d2:TypeDesc} (ht:P.underlying t=some (.slice e)) (ht2:P.underlying t2=some d2) (hd2:zBF (TD.of d2)=true) (x y:Value) (w:World):(Builtin.append_ #[t,t2] ty #[x,y]).run P w=(Builtin.append_ #[t,t] ty #[x,y]).run P w:=by
 have h1:=fun w=>run_underlying (P:=P) ht w
 have h2:=fun w=>run_underlying (P:=P) ht2 w
 have g0:∀ a b:Nat,(#[a,b]:Array Nat)[0]? =some a:=fun _ _=>rfl
 have g1:∀ a b:Nat,(#[a,b]:Array Nat)[1]? =some b:=fun _ _=>rfl
 have g2:∀ a b:Value,(#[a,b]:Array Value)[0]? =some a:=fun _ _=>rfl
 have g3:∀ a b:Value,(#[a,b]:Array Value)[1]? =some b:=fun _ _=>rfl
 unfold Builtin.append_
 simp only [g0,g1,g2,g3,Sem.run_bind,h1,Result.andThen_ok]
 cases x <;> try rfl
 simp only [Sem.run_bind,h1,h2,Result.andThen_ok,Sem.run_pure]
 cases d2 <;> first | rfl | (simp [zBF,TD.of] at hd2)
theorem zDT {t ty e sz by_:Nat} {z:Value} {info:TypeInfo} (ht:P.underlying t=some (.slice e)) (hi:P.info? e=some info) (hsz:info.size=sz) (hby:info.bytes=by_) (hz:info.zero=some z) (hzs:z.cells.size=sz)
  {A:Option Addr} {n c m:Nat} {rows:List (List Value)} {x:Value} {news:List Value} {w:World} (h:mC sz e A n c rows (hp w)) {ts:Array Nat} (hts:ts= #[t,t]) (hx:bQ P sz x m news w) (hlen:n+m≤maxLen) (hbytes:(n+m)*by_≤140737488355328)
  (news':List (List Value)) (hnews:news'.flatten=news) (hn':news'.length=m) (hrow:∀ r∈news',r.length=sz∧∀ u∈r,u.oneCell'=true):
  ∃ A' c' w',(Builtin.append_ ts ty #[.slice A n c,x]).run P w= .ok (.slice A' (n+m) c') w'∧sT (lA A c) w w'∧mC sz e A' (n+m) c' (rows++news') (hp w')∧
   (∀ k,k∈lA A' c'→k<w'.heap.size∧(k∈lA A c∨w.heap.size≤k))∧((A'=A∧c'=c)∨(Ext w w'∧∀ k,k∈lA A' c'→w.heap.size≤k)):=by
 obtain ⟨hx1,hx2,hx3,hx4⟩:=hx
 subst hts
 have hrows:∀ r∈rows++news',r.length=sz∧∀ u∈r,u.oneCell'=true:=fun r hr=>by
  rcases List.mem_append.1 hr with hr | hr
  ·exact h.2.1 r hr
  ·exact hrow r hr
 have hrl:(rows++news').length=n+m:=by simp [h.1,hn']
 have hfl:(rows++news').flatten=rows.flatten++news:=by simp [hnews]
 have hsmall:n+m≤9223372036854775807:=by simp only [maxLen] at hlen; omega
 have ht1:(underlying t).run P w= .ok (.slice e) w:=run_underlying ht w
 have hs1:∀ w',(sizeOf e).run P w'= .ok sz w':=fun w'=>by simp [sizeOf,typeInfo,hi,hsz]
 have hti:∀ w',(typeInfo e).run P w'= .ok info w':=fun w'=>by simp [typeInfo,hi]
 have hzv:∀ w',(zeroValue e).run P w'= .ok z w':=fun w'=>by simp [zeroValue,typeInfo,hi,hz]
 by_cases hroom:n+m≤c
 ·
  rcases h.2.2 with ⟨h0,hc0⟩ | ⟨g,cur,fr,hpos,hA,hg,hcs,hn,hc,htk,hfz⟩
  ·have hm0:m=0:=by omega
   subst h0; subst hm0; subst hc0
   have:news= []:=List.eq_nil_of_length_eq_zero (by simpa using hx2)
   subst this
   have:news'= []:=List.eq_nil_of_length_eq_zero hn'
   subst this
   refine ⟨A,0,w,?_,sT.of_ext (Ext.refl w),?_,fun k hk=>absurd (lH.1 hk).1 (by omega), .inl ⟨rfl,rfl⟩⟩
   ·cases A with
    | none=>simp [Builtin.append_,ht1,hs1,hx1,hx4 w rfl]
    | some ad=>simp [Builtin.append_,ht1,hs1,hx1,hx4 w rfl,storeCells]
   ·simpa using h
  ·subst hA
   have hg':w.heap[g]? =some (.cells cur e fr):=hg
   have hnm:(n+m)*sz≤c*sz:=Nat.mul_le_mul_right _ hroom
   have hbox:(Box g e cur.toList).p (hp w):=⟨_,hg,fr,by simp,fun i hi=>hfz i (by simpa using hi)⟩
   have hle:n*sz+0+news.length≤cur.toList.length:=by
    rw [hx2]; simp only [Array.length_toList,hcs]; rw [Nat.add_mul] at hnm; omega
   obtain ⟨w',hr,hw,hb⟩:=kG (P:=P) news cur.toList (n*sz) 0 w hbox hle hx3
   have hbk:lA (some ⟨g,0,none⟩) c= [g]:=zBl hpos
   refine ⟨some ⟨g,0,none⟩,c,w',?_,hbk▸hw,⟨hrl,hrows, .inr ?_⟩,?_, .inl ⟨rfl,rfl⟩⟩
   ·simp [Builtin.append_,ht1,hs1,hx1,hroom,hx4 w rfl,sC,hr]
   ·obtain ⟨o,ho,fr',rfl,hfz'⟩:=hb
    refine ⟨g,_,fr',hpos,rfl,ho,?_,hroom,hc,?_,fun i hi=>hfz' i (by simpa using hi)⟩
    ·simp only [List.size_toArray,List.length_append,List.length_take,List.length_drop,Array.length_toList,hcs,hx2]
     rw [Nat.add_mul] at hnm
     omega
    ·simp only [Nat.add_zero,htk,hfl]
     have hl2:(rows.flatten++news).length=(n+m)*sz:=by rw [List.length_append,h.flat,hx2,Nat.add_mul]
     rw [←hl2]
     exact List.take_left
   ·intro k hk
    refine ⟨?_, .inl hk⟩
    rw [hbk] at hk
    simp at hk
    subst hk
    exact Nat.lt_of_lt_of_le (Array.getElem?_eq_some_iff.1 hg').1 hw.size
 ·
  have hfit:=growslice_fits (need:=n+m) (old:=c) (by omega) hbytes
  have hold:∀ w',w'.heap=w.heap→(Builtin.firstCells sz n (.slice A n c)).run P w'= .ok rows.flatten.toArray w':=fun w' hw'=>by
   rcases h.2.2 with ⟨h0,_⟩ | ⟨g,cur,fr,_,hA,hg,_⟩
   ·have:=h.flat
    rw [h0,Nat.zero_mul] at this
    rw [List.eq_nil_of_length_eq_zero this,h0]
    cases A with
    | none=>rfl
    | some ad=>simp [Builtin.firstCells]; rfl
   ·subst hA
    refine kB h.flat fun j u hu=>?_
    obtain ⟨g',hA',hc⟩:=h.cell hu
    injection hA' with hA'
    injection hA' with hA'
    subst hA'
    rw [sC]
    rw [←hc]
    simp [World.cell?,hw']
  let nc:=grownCap w (n+m) c e
  have hge:n+m≤nc:=grownCap_ge w (n+m) c e
  have hcm:nc≤maxLen:=grownCap_le_maxLen w (n+m) c e hlen
  let cells:Array Value:=rows.flatten.toArray++news.toArray++Builtin.zeroCells z.cells (nc - (n+m))
  refine ⟨some ⟨w.heap.size,0,none⟩,nc,w.drew.alloc (.cells cells e),?_,sT.of_ext ((Ext.drew w).trans (Ext.alloc _ _)),⟨hrl,hrows, .inr ⟨w.heap.size,cells,(0,0),by omega,rfl,oN w.drew _,?_,hge,hcm,?_,fun i _ hh=>by omega⟩⟩,?_, .inr ⟨(Ext.drew w).trans (Ext.alloc _ _),?_⟩⟩
  ·have hcond:¬ ((((n+m:Nat):Int)>IntKind.i64.max)∧((false=true)∨info.bytes=0)):=by
    intro hh; have:((n+m:Nat):Int)≤IntKind.i64.max:=by simp only [IntKind.max,IntKind.signed,IntKind.bits]; omega
    omega
   have hcond2:¬ (Builtin.nextslicecap (n+m) c*info.bytes>2 ^ 48):=by rw [hby]; omega
   have hmax:((n:Int)+(m:Int))≤IntKind.i64.max:=by simp only [IntKind.max,IntKind.signed,IntKind.bits]; simp; omega
   simp [Builtin.append_,ht1,hs1,hx1,hroom,hti,hzv,hby]
   have h2:¬ (281474976710656<Builtin.nextslicecap (n+m) c*by_):=by omega
   have h3:¬ (9223372036854775807<(n:Int)+(m:Int)):=by omega
   simp [h2,h3,hold w.drew rfl,hx4 w.drew rfl,Question.forced,newRow]
   simp only [cells,nc,grownCap,Array.append_assoc]
   exact ⟨trivial,trivial⟩
  ·show cells.size=nc*sz
   simp only [cells,Array.size_append,List.size_toArray,size_zeroCells,hzs,h.flat,hx2,←Nat.add_mul]
   congr 1
   omega
  ·show cells.toList.take ((n+m)*sz)=_
   simp only [cells,Array.toList_append,hfl]
   have hl2:(rows.flatten++news).length=(n+m)*sz:=by rw [List.length_append,h.flat,hx2,Nat.add_mul]
   rw [←hl2]
   exact List.take_left
  ·intro k hk
   obtain ⟨_,a,ha,hk⟩:=lH.1 hk
   injection ha with ha
   subst ha
   subst hk
   exact ⟨by simp, .inr (Nat.le_refl _)⟩
  ·intro k hk
   obtain ⟨_,a,ha,hk⟩:=lH.1 hk
   injection ha with ha
   subst ha
   subst hk
   exact Nat.le_refl _
theorem zMn {t ty e sz by_:Nat} {z:Value} {info:TypeInfo} (ht:P.underlying t=some (.slice e)) (hi:P.info? e=some info) (hsz:info.size=sz) (hby:info.bytes=by_) (hz:info.zero=some z) (hzs:z.cells.size=sz)
  {A:Option Addr} {n c m:Nat} {rows:List (List Value)} {x:Value} {news:List Value} {w:World} (h:mC sz e A n c rows (hp w)) {ts:Array Nat} (hts:ts= #[t,t]) (hx:bQ P sz x m news w) (hlen:n+m≤maxLen) (hbytes:(n+m)*by_≤140737488355328)
  (news':List (List Value)) (hnews:news'.flatten=news) (hn':news'.length=m) (hrow:∀ r∈news',r.length=sz∧∀ u∈r,u.oneCell'=true):
  ∃ A' c' w',(Builtin.append_ ts ty #[.slice A n c,x]).run P w= .ok (.slice A' (n+m) c') w'∧sT (lA A c) w w'∧mC sz e A' (n+m) c' (rows++news') (hp w')∧
   (∀ k,k∈lA A' c'→k<w'.heap.size∧(k∈lA A c∨w.heap.size≤k)):=by
 obtain ⟨A',c',w',h1,h2,h3,h4,_⟩:=zDT (ty:=ty) ht hi hsz hby hz hzs h hts hx hlen hbytes news' hnews hn' hrow
 exact ⟨A',c',w',h1,h2,h3,h4⟩
theorem Sat.del_own {A:Option Addr} {n c sz e:Nat} {rows:List (List Value)} {w:World} (h:Sat F w) (hD:Del F (.res (Own sz e A n c rows)) G):mC sz e A n c rows (hp w):=h.res (r:=Own sz e A n c rows) hD.mem
theorem zIp {t t2 e sz m c n:Nat} {i i2 j:TI} {s x:Operand} {A:Option Addr} {xv:Value} {rows:List (List Value)} {news:List Value} (news':List (List Value)) {a:Act} {w:World} (hs':a.tmps.size=nt) (hdf:a.defers= []) (ha:At a Γ) (hf:Sat F w) (hw:Same w0 w) (hd:Nat.blt d nt=true) (hs:ev Γ s=some (.slice A n c)) (hx:ev Γ x=some xv)
  (hD:Del F (.res (Own sz e A n c rows)) G) (hi:yK T.tt t=some i) (hdesc:i.desc= .slice e) (hj:yK T.tt e=some j) (hsz:j.size=sz) (hzs:Nat.beq (zc j.zero).length sz=true)
  (hsrc:bQ P sz xv m news w) (hnews:news'.flatten=news) (hn':news'.length=m) (hrow:∀ r∈news',r.length=sz∧∀ u∈r,u.oneCell'=true)
  (hlen:n+m≤maxLen) (hbytes:(n+m)*j.bytes≤140737488355328) (hi2:yK T.tt t2=some i2) (hd2:zBF i2.desc=true)
  (k:∀ A' c',St w0 nt ((d, .slice A' (n+m) c')::Γ) (.res (Own sz e A' (n+m) c' (rows++news'))::G) (wpList P ops Q rest)):
  wpList P ops Q (⟨some d, .call { callee:=.builtin .append,args:=#[s,x],argTypes:=#[t,t2] },ty,pos,af,none⟩::rest) a w:=
 wpList_plain rfl fun K hK=>by
  obtain ⟨dd,hu,hdd⟩:=T.ok.desc hi
  obtain ⟨d2,hu2,hdd2⟩:=T.ok.desc hi2
  have hinf:=(T.ok.get hj).2.1
  cases hi':P.info? e with
  | none=>simp [hi'] at hinf
  | some info=>
   simp [hi'] at hinf
   have hz:j.zero.cells.size=sz:=by rw [←iX]; simpa using Nat.eq_of_beq_eq_true hzs
   obtain ⟨A',c',w',hr,hwr,hown,hbl⟩:=zMn (P:=P) (ty:=ty) (TD.of_slice (hdd.trans hdesc)▸hu) hi' (hinf.1.trans hsz) hinf.2.1 hinf.2.2 hz (hf.del_own hD) rfl hsrc hlen hbytes news' hnews hn' hrow
   unfold Oper.wp
   have hr2:(execOp a.eval ⟨some d, .call { callee:=.builtin .append,args:=#[s,x],argTypes:=#[t,t2] },ty,pos,af,none⟩).run P w= .ok (.value (.slice A' (n+m) c')) w':=by
    simp [execOp,resolve,invoke,builtin,ha.eval hs,ha.eval hx,zIc (P:=P) (TD.of_slice (hdd.trans hdesc)▸hu) hu2 (hdd2▸hd2),hr]
   rw [hr2]
   refine hK _ _ (k A' c' _ _ (by simp [Act.put,hs']) hdf (ha.put (hs'▸Nat.le_of_ble_eq_true hd)) ((hf.front hD).exchange hwr ?_ hbl hown) (hw.trans hwr.toSame))
   exact rL A' c'
theorem St.append {t t2 e sz m c n:Nat} {i i2 j:TI} {s x:Operand} {A:Option Addr} {xv:Value} {rows:List (List Value)} {news:List Value} (news':List (List Value)) (hd:Nat.blt d nt=true) (hs:ev Γ s=some (.slice A n c)) (hx:ev Γ x=some xv)
  (hD:Del F (.res (Own sz e A n c rows)) G) (hi:yK T.tt t=some i) (hdesc:i.desc= .slice e) (hj:yK T.tt e=some j) (hsz:j.size=sz) (hzs:Nat.beq (zc j.zero).length sz=true)
  (hsrc:∀ w,Sat F w→bQ P sz xv m news w) (hnews:news'.flatten=news) (hn':news'.length=m) (hrow:∀ r∈news',r.length=sz∧∀ u∈r,u.oneCell'=true)
  (hlen:n+m≤maxLen) (hbytes:(n+m)*j.bytes≤140737488355328) (hi2:yK T.tt t2=some i2) (hd2:zBF i2.desc=true)
  (k:∀ A' c',St w0 nt ((d, .slice A' (n+m) c')::Γ) (.res (Own sz e A' (n+m) c' (rows++news'))::G) (wpList P ops Q rest)):
  St w0 nt Γ F (wpList P ops Q (⟨some d, .call { callee:=.builtin .append,args:=#[s,x],argTypes:=#[t,t2] },ty,pos,af,none⟩::rest)):=
 fun _ w hs' hdf ha hf hw=>zIp news' hs' hdf ha hf hw hd hs hx hD hi hdesc hj hsz hzs (hsrc w hf) hnews hn' hrow hlen hbytes hi2 hd2 k
theorem zOu {g e sz m c:Nat} {cs:List Value} (hm:As.res (Box g e cs)∈F) (hl:cs.length=m*sz) (h1:(cs.all fun u=>u.oneCell')=true):∀ w,Sat F w→bQ P sz (.slice (some ⟨g,0,none⟩) m c) m cs w:=by
 intro w hf
 refine ⟨fun _=>rfl,hl,fun u hu=>by simpa using List.all_eq_true.1 h1 u hu,fun w' hw'=>kB hl fun j u hu=>?_⟩
 rw [sC]
 have:=Box.cell (hf.res hm) hu
 simpa [World.cell?,hw'] using this
def dT (s:ByteArray):List Value:=s.toList.map fun b=>.int .u8 (b.toNat:Int)
theorem zTs (s:ByteArray):∀ w,Sat F w→bQ P 1 (.string s) s.size (dT s) w:=by
 intro w _
 have hl:s.toList.length=s.size:=by rw [ByteArray.toList_eq]; simp
 refine ⟨fun _=>rfl,by simp [dT,hl],fun u hu=>?_,fun w' _=>?_⟩
 ·simp only [dT,List.mem_map] at hu
  obtain ⟨b,_,rfl⟩:=hu
  rfl
 ·simp [Builtin.firstCells,dT,ByteArray.toList_eq]
  apply Array.ext'
  simp
def dI {α:Type} (E:Cod α) (xs:List α) (rows:List (List Value)) (m:Hp):Prop:=rows.length=xs.length∧∀ (j:Nat) (x:α) (r:List Value),xs[j]? =some x→rows[j]? =some r→E.rel m x r
def dA {α:Type} (E:Cod α) (xs:List α) (rows:List (List Value)):Ro:=⟨dI E xs rows,fun m m' h hp=>⟨hp.1,fun j x r h1 h2=>E.mono m m' x r h (hp.2 j x r h1 h2)⟩⟩
theorem zDY {α β:Type} {R:Nat→α→β→Prop}:∀ (xs:List α),(∀ (j:Nat) (x:α),xs[j]? =some x→∃ r,R j x r)→∃ rows:List β,rows.length=xs.length∧∀ (j:Nat) (x:α) (r:β),xs[j]? =some x→rows[j]? =some r→R j x r
 | [],_=>⟨[],rfl,fun j x r h _=>by simp at h⟩
 | x::xs,h=>by
  obtain ⟨r,hr⟩:=h 0 x rfl
  obtain ⟨rows,h1,h2⟩:=zDY (R:=fun j x r=>R (j+1) x r) xs fun j y hy=>h (j+1) y (by simpa using hy)
  refine ⟨r::rows,by simp [h1],fun j y s hy hs=>?_⟩
  cases j with
  | zero=>simp at hy hs; subst hy; subst hs; exact hr
  | succ j=>exact h2 j y s (by simpa using hy) (by simpa using hs)
theorem zGl {sz b o:Nat} {m:Hp}:∀ (rows:List (List Value)),(∀ r∈rows,r.length=sz)→(∀ (j:Nat) (r:List Value),rows[j]? =some r→∀ i u,r[i]? =some u→gZ m b (o+j*sz+i)=some u)→
  ∀ i u,rows.flatten[i]? =some u→gZ m b (o+i)=some u
 | [],_,_,i,u,h=>by simp at h
 | r::rs,hl,hc,i,u,h=>by
  simp only [List.flatten_cons] at h
  have hrl:=hl r (by simp)
  by_cases hi:i<r.length
  ·rw [List.getElem?_append_left hi] at h
   simpa using hc 0 r rfl i u h
  ·rw [List.getElem?_append_right (by omega)] at h
   have:=zGl (o:=o+sz) rs (fun x hx=>hl x (by simp [hx])) (fun j x hx k v hv=>by
    have h2:=hc (j+1) x (by simpa using hx) k v hv
    rw [←h2]
    congr 1
    rw [Nat.add_mul]
    omega) _ u h
   rw [←this]
   congr 1
   omega
theorem SlP.rows {α:Type} {E:Cod α} {A:Option Addr} {c:Nat} {xs:List α} {m:Hp} (h:SlP E A c xs m):∃ rows:List (List Value),dI E xs rows m∧
  (∀ r∈rows,r.length=E.n∧∀ u∈r,u.oneCell'=true)∧∀ ad,A=some ad→xs≠ []→ad.spot=none∧∀ i u,rows.flatten[i]? =some u→gZ m ad.block (ad.off+i)=some u:=by
 cases A with
 | none=>
  have:=h.2.2.1 rfl
  subst this
  exact ⟨[],⟨rfl,fun j x r h=>by simp at h⟩,by simp,fun ad h=>by cases h⟩
 | some ad=>
  obtain ⟨rows,h1,h2⟩:=zDY (R:=fun j x cs=>ad.spot=none∧E.rel m x cs∧∀ i u,cs[i]? =some u→gZ m ad.block (ad.off+j*E.n+i)=some u) xs fun j x hx=>by
   obtain ⟨g1,cs,g2,g3⟩:=h.2.2.2 ad rfl j x hx
   exact ⟨cs,g1,g2,g3⟩
  have hr:∀ r∈rows,∃ j x,xs[j]? =some x∧rows[j]? =some r:=fun r hr=>by
   obtain ⟨j,hj⟩:=List.getElem?_of_mem hr
   have hjl:=(List.getElem?_eq_some_iff.1 hj).1
   exact ⟨j,xs[j]'(by omega),List.getElem?_eq_getElem (by omega),hj⟩
  refine ⟨rows,⟨h1,fun j x r hx hr=>(h2 j x r hx hr).2.1⟩,fun r hrm=>?_,fun ad' had hne=>?_⟩
  ·obtain ⟨j,x,hx,hj⟩:=hr r hrm
   have:=(h2 j x r hx hj).2.1
   exact ⟨E.len _ _ _ this,E.one _ _ _ this⟩
  ·injection had with had
   subst had
   constructor
   ·cases xs with
    | nil=>exact absurd rfl hne
    | cons x xs=>
     cases rows with
     | nil=>simp at h1
     | cons r rows=>exact (h2 0 x r rfl rfl).1
   ·refine zGl (sz:=E.n) rows (fun r hrm=>?_) fun j r hj i u hu=>?_
    ·obtain ⟨j,x,hx,hj⟩:=hr r hrm
     exact E.len _ _ _ (h2 j x r hx hj).2.1
    ·have hjl:=(List.getElem?_eq_some_iff.1 hj).1
     exact (h2 j (xs[j]'(by omega)) r (List.getElem?_eq_getElem (by omega)) hj).2.2 i u hu
theorem SlP.src {α:Type} {E:Cod α} {A:Option Addr} {c:Nat} {xs:List α} {w:World} {rows:List (List Value)} (hr:∀ r∈rows,r.length=E.n∧∀ u∈r,u.oneCell'=true) (hl:rows.length=xs.length)
  (hA:A=none→xs= []) (hc:∀ ad,A=some ad→xs≠ []→ad.spot=none∧∀ i u,rows.flatten[i]? =some u→gZ (hp w) ad.block (ad.off+i)=some u):bQ P E.n (.slice A xs.length c) xs.length rows.flatten w:=by
 have hfl:rows.flatten.length=xs.length*E.n:=by rw [vF hr,hl]
 refine ⟨fun _=>rfl,hfl,fun u hu=>?_,fun w' hw'=>?_⟩
 ·obtain ⟨r,hrm,hur⟩:=List.mem_flatten.1 hu
  exact (hr r hrm).2 u hur
 ·cases A with
  | none=>
   have:=hA rfl
   subst this
   have:rows= []:=List.eq_nil_of_length_eq_zero (by simpa using hl)
   subst this
   rfl
  | some ad=>
   refine kB hfl fun j u hu=>?_
   have hne:xs≠ []:=fun h=>by
    subst h
    have:rows= []:=List.eq_nil_of_length_eq_zero (by simpa using hl)
    subst this
    simp at hu
   obtain ⟨hsp,hcell⟩:=hc ad rfl hne
   have:=hcell j u hu
   rw [zAc] at this
   have hadd:ad.add j=⟨ad.block,ad.off+j,none⟩:=by unfold Addr.add; split <;> (cases ad; simp_all)
   rw [hadd]
   simpa [World.cell?,hw'] using this
theorem zWF {α:Type} {sz:Nat} {enc:α→List Value} {hlen:∀ x,(enc x).length=sz} {hone:∀ x,∀ u∈enc x,u.oneCell'=true} {A:Option Addr} {c:Nat} {xs:List α} (hm:As.ro (Sl (Cod.flat sz enc hlen hone) A c xs)∈F):
  ∀ w,Sat F w→bQ P sz (.slice A xs.length c) xs.length (xs.map enc).flatten w:=by
 intro w hf
 have h:SlP (Cod.flat sz enc hlen hone) A c xs (hp w):=hf.ro_hp hm
 obtain ⟨rows,h1,h2,h3⟩:=h.rows
 have:rows=xs.map enc:=by
  apply List.ext_getElem (by simp [h1.1])
  intro j hj hj'
  simp only [List.length_map] at hj'
  have e:rows[j]=enc xs[j]:=h1.2 j xs[j] rows[j] (List.getElem?_eq_getElem _) (List.getElem?_eq_getElem _)
  simpa using e
 subst this
 exact SlP.src (E:=Cod.flat sz enc hlen hone) h2 (by simp) h.2.2.1 h3
end
end Go.Proofs.YtplchdlgdjcojaaGreatDoor
end
section
namespace Go.Proofs.YtplchdlgdjcojaaGreatDoor
open Go
set_option linter.unusedSectionVars false
def bB:Nat→List Value→List Value
 | 0,_=> []
 | n+1,zs=>zs++bB n zs
theorem zOf (zs:List Value):∀ n,bB n zs=(List.replicate n zs).flatten
 | 0=>rfl
 | n+1=>by simp [bB,List.replicate_succ,zOf zs n]
theorem zDZ (zs:List Value) (n:Nat):(bB n zs).length=n*zs.length:=by
 induction n with
 | zero=>simp [bB]
 | succ n ih=>simp [bB,ih,Nat.add_mul,Nat.add_comm]
theorem zLh (zs:List Value):∀ (n i:Nat),i<n*zs.length→(bB n zs)[i]? =zs[i % zs.length]?
 | 0,i,h=>by simp at h
 | n+1,i,h=>by
  simp only [bB]
  by_cases hi:i<zs.length
  ·rw [List.getElem?_append_left hi,Nat.mod_eq_of_lt hi]
  ·rw [List.getElem?_append_right (by omega),zLh zs n (i - zs.length) (by rw [Nat.add_mul] at h; omega)]
   congr 1
   exact (Nat.mod_eq_sub_mod (by omega)).symm
theorem zFd (z:Array Value) (n:Nat) (h:0<z.size):((Array.range (n*z.size)).map fun i=>z[i % z.size]!)=(bB n z.toList).toArray:=by
 apply Array.ext'
 apply List.ext_getElem?
 intro i
 simp only [Array.toList_map,Array.toList_range,List.getElem?_map]
 by_cases hi:i<n*z.size
 ·rw [List.getElem?_range hi,zLh z.toList n i (by simpa using hi)]
  have hm:=Nat.mod_lt i h
  simp [hm]
 ·rw [List.getElem?_eq_none (by simpa using hi),List.getElem?_eq_none (by rw [zDZ]; simpa using hi)]
  rfl
section
variable {P:Program} [T:HasTT P] {w0:World} {nt:Nat} {Γ:Env} {F F' G R:List As} {Q:Exit→Act→World→Prop} {ops:Array Oper} {rest:List Oper}
variable {d:Nat} {op:Op} {ty:Nat} {pos:String} {af:Array Edge} {X:List Oper→Act→World→Prop}
theorem zRH {j:TI} {sz:Nat} (h:Nat.beq (zc j.zero).length sz=true):j.zero.cells.size=sz:=by rw [←iX]; simpa using Nat.eq_of_beq_eq_true h
theorem St.buildSlice {t e n:Nat} {i j:TI} {ps:Array (Nat × Operand)} {cs:List Value} (hd:Nat.blt d nt=true) (hi:yK T.tt t=some i) (hdesc:i.desc= .slice e) (hj:yK T.tt e=some j) (hz:Nat.beq (zc j.zero).length j.size=true) (hpos:Nat.blt 0 j.size=true)
    (hps:zBW Γ (fun i=>some (i*j.size,j.size)) (bB n (zc j.zero)) ps.toList=some cs) (hsmall:Nat.ble (n*j.size) 16777216=true) (k:∀ g,St w0 nt ((d, .slice (some ⟨g,0,none⟩) n n)::Γ) (.res (Box g e cs)::F) (wpList P ops Q rest)):
    St w0 nt Γ F (wpList P ops Q (⟨some d, .buildSlice t n ps,ty,pos,af,none⟩::rest)):=
  fun a w hs hdf ha hf hw=>wpList_plain rfl fun K hK=>by
    obtain ⟨dd,hu,hdd⟩:=T.ok.desc hi
    have hzs:=zRH hz
    have hp0:0<j.size:=Nat.le_of_ble_eq_true hpos
    have hf2:=dQ ha _ _ _ hps
    have hz2:((Array.range (n*j.size)).map fun i=>(if n*j.size=0 then #[] else j.zero.cells:Array Value)[i % (if n*j.size=0 then #[] else j.zero.cells:Array Value).size]!)=(bB n (zc j.zero)).toArray:=by
      by_cases h0:n*j.size=0
      · have hn0 : n = 0 := by
          rcases Nat.mul_eq_zero.1 h0 with h | h
          · exact h
          · omega
        subst hn0
        simp [bB]
      · simp only [h0, if_false]
        have:=zFd j.zero.cells n (by omega)
        rw [hzs] at this ⊢
        rw [this,←iX]
    have hps2:(ps.map fun x=>(x.1,a.eval x.2)).toList=ps.toList.map fun x=>(x.1,a.eval x.2):=by simp
    unfold Oper.wp
    have hr:(execOp a.eval ⟨some d, .buildSlice t n ps,ty,pos,af,none⟩).run P w= .ok (.value (.slice (some ⟨w.heap.size,0,none⟩) n n)) (w.alloc (.cells cs.toArray e)):=by
      have hsm:¬ (n*j.size>2 ^ 24):=by have:=Nat.le_of_ble_eq_true hsmall; omega
      simp only [execOp,Instr.buildSlice,Sem.run_bind,run_underlying hu,TD.of_slice (hdd.trans hdesc),Result.andThen_ok,yJ T.ok hj,if_neg hsm,Sem.run_pure]
      by_cases h0:n*j.size=0
      · simp only [h0, if_true] at hz2
        simp only [h0,if_true,Sem.run_bind,Sem.run_pure,Result.andThen_ok]
        rw [hz2,hps2,hf2]
        rfl
      · simp only [h0, if_false] at hz2
        simp only [h0,if_false,Sem.run_bind,vU T.ok hj,Sem.run_pure,Result.andThen_ok]
        rw [hz2,hps2,hf2]
        rfl
    rw [hr]
    exact hK _ _ (k _ _ _ (by simp [Act.put,hs]) hdf (ha.put (hs▸Nat.le_of_ble_eq_true hd)) (hf.alloc e _) (hw.trans (Ext.alloc w _).toSame))
theorem Sat.box_own {g e sz n:Nat} {cs:List Value} {rows:List (List Value)} {w:World} (hf:rows.flatten=cs) (hn:rows.length=n) (hr:∀ r∈rows,r.length=sz∧∀ u∈r,u.oneCell'=true) (hm:n≤maxLen) (h:Sat (.res (Box g e cs)::F) w):
  Sat (.res (Own sz e (some ⟨g,0,none⟩) n n rows)::F) w:=by
 refine h.exchange (sT.of_ext (Ext.refl w)) (rL _ _) (fun k hk=>by
  obtain ⟨_,a,ha,rfl⟩:=lH.1 hk
  injection ha with ha
  subst ha
  exact ⟨h.lt (by simp [zW,As.gs,Box]), .inl (by simp [Box])⟩) ?_
 obtain ⟨o,ho,fr,rfl,hfr⟩:=(h.all _ (List.mem_cons_self ..)).2.1
 subst hf
 by_cases hn0:n=0
 ·exact ⟨hn,hr, .inl ⟨hn0,hn0⟩⟩
 refine ⟨hn,hr, .inr ⟨g,_,fr,by omega,rfl,ho,?_,Nat.le_refl _,hm,?_,fun i hi=>hfr i (by simpa using hi)⟩⟩
 ·rw [List.size_toArray,vF hr,hn]
 ·rw [←hn,←vF hr]; exact List.take_length
theorem St.makeSlice {t e:Nat} {i j:TI} {x y:Operand} {l c:Int} (hd:Nat.blt d nt=true) (hx:ev Γ x=some (.int .i64 l)) (hy:ev Γ y=some (.int .i64 c)) (hi:yK T.tt t=some i) (hdesc:i.desc= .slice e) (hj:yK T.tt e=some j)
    (hz:Nat.beq (zc j.zero).length j.size=true) (hpos:Nat.blt 0 j.size=true) (h1:(zc j.zero).all (fun u=>u.oneCell')=true) (h0:0≤l) (hlc:l≤c) (hc:c*j.bytes≤281474976710656) (hm:c≤9223372036854775807)
    (k:∀ g,St w0 nt ((d, .slice (some ⟨g,0,none⟩) l.toNat c.toNat)::Γ) (.res (Own j.size e (some ⟨g,0,none⟩) l.toNat c.toNat (List.replicate l.toNat (zc j.zero)))::F) (wpList P ops Q rest)):
    St w0 nt Γ F (wpList P ops Q (⟨some d, .makeSlice t x y,ty,pos,af,none⟩::rest)):=
  fun a w hs hdf ha hf hw=>wpList_plain rfl fun K hK=>by
    obtain ⟨dd,hu,hdd⟩:=T.ok.desc hi
    have hzs:=zRH hz
    have hp0:0<j.size:=Nat.le_of_ble_eq_true hpos
    have hinf:=(T.ok.get hj).2.1
    cases hi':P.info? e with
    | none=>simp [hi'] at hinf
    | some info=>
    simp [hi'] at hinf
    have hwl:IntKind.i64.wrap l=l:=by simp only [IntKind.wrap,IntKind.bits,IntKind.signed]; simp; omega
    have hwc:IntKind.i64.wrap c=c:=by simp only [IntKind.wrap,IntKind.bits,IntKind.signed]; simp; omega
    have hcells:((Array.range (c.toNat*j.size)).map fun i=>(if c.toNat*j.size=0 then #[] else j.zero.cells:Array Value)[i % (if c.toNat*j.size=0 then #[] else j.zero.cells:Array Value).size]!)=(bB c.toNat (zc j.zero)).toArray:=by
      by_cases h0:c.toNat*j.size=0
      · have hn0 : c.toNat = 0 := by
          rcases Nat.mul_eq_zero.1 h0 with h | h
          · exact h
          · omega
        rw [hn0]
        simp [bB]
      · simp only [h0, if_false]
        have:=zFd j.zero.cells c.toNat (by omega)
        rw [hzs] at this ⊢
        rw [this,←iX]
    unfold Oper.wp
    have hr:(execOp a.eval ⟨some d, .makeSlice t x y,ty,pos,af,none⟩).run P w= .ok (.value (.slice (some ⟨w.heap.size,0,none⟩) l.toNat c.toNat)) (w.alloc (.cells (bB c.toNat (zc j.zero)).toArray e)):=by
      have hti:(typeInfo e).run P w= .ok info w:=by simp [typeInfo,hi']
      have hcond:(decide (c<0)||decide ((info.bytes:Int)*c>2 ^ 48)||decide (l<0)||decide (l>c))=false:=by
        rw [hinf.2.1]
        simp only [Bool.or_eq_false_iff,decide_eq_false_iff_not]
        refine ⟨⟨⟨by omega,?_⟩,by omega⟩,by omega⟩
        rw [Int.mul_comm]
        omega
      simp only [execOp,Instr.makeSlice,Sem.run_bind,run_underlying hu,TD.of_slice (hdd.trans hdesc),Result.andThen_ok,ha.eval hx,ha.eval hy,asInt,asIntOf,Sem.run_pure,hti,hwl,hwc,hcond,Bool.false_eq_true,if_false,run_askRoom,yJ T.ok hj]
      by_cases h0:c.toNat*j.size=0
      · simp only [h0, if_true] at hcells
        simp only [h0,if_true,Sem.run_bind,Sem.run_pure,Result.andThen_ok]
        rw [hcells]
        rfl
      · simp only [h0, if_false] at hcells
        simp only [h0,if_false,Sem.run_bind,vU T.ok hj,Sem.run_pure,Result.andThen_ok]
        rw [hcells]
        rfl
    rw [hr]
    have hzl:(zc j.zero).length=j.size:=Nat.eq_of_beq_eq_true hz
    refine hK _ _ (k w.heap.size _ _ (by simp [Act.put,hs]) hdf (ha.put (hs▸Nat.le_of_ble_eq_true hd)) (hf.add_res (Ext.alloc w _) _ (rL _ _) (fun k hk=>?_) ?_) (hw.trans (Ext.alloc w _).toSame))
    · obtain ⟨_, a, ha, rfl⟩ := lH.1 hk
      injection ha with ha
      subst ha
      simp
    · have hrows : ∀ r ∈ List.replicate l.toNat (zc j.zero), r.length = j.size ∧ ∀ u ∈ r, u.oneCell' = true := fun r hr => by
        obtain ⟨_,rfl⟩:=List.mem_replicate.1 hr
        exact ⟨hzl,fun u hu=>by simpa using List.all_eq_true.1 h1 u hu⟩
      by_cases hc0:c=0
      · exact ⟨by simp,hrows, .inl ⟨by omega,by omega⟩⟩
      refine ⟨by simp,hrows, .inr ⟨w.heap.size,_,(0,0),by omega,rfl,oN w _,?_,by omega,by simp only [maxLen]; omega,?_,fun i _ h=>by omega⟩⟩
      · simp [zDZ,hzl]
      · simp only [zOf]
        rw [←hzl]
        have:c.toNat=l.toNat+(c.toNat - l.toNat):=by omega
        rw [this,←List.replicate_append_replicate,List.flatten_append]
        have e:l.toNat*(zc j.zero).length=((List.replicate l.toNat (zc j.zero)).flatten).length:=by simp
        rw [e]
        exact List.take_left
theorem St.idxO [W:Walk P ops X] {t e sz:Nat} {i j:TI} {x ix:Operand} {A:Option Addr} {n c e':Nat} {kk:IntKind} {q:Int} {rows:List (List Value)} (hd:Nat.blt d nt=true) (hx:ev Γ x=some (.slice A n c)) (hq:ev Γ ix=some (.int kk q))
    (hm:As.res (Own sz e' A n c rows)∈F) (h0:0≤q) (h1:q<n) (hi:yK T.tt t=some i) (hdesc:i.desc= .slice e) (hj:yK T.tt e=some j) (hn:j.size=sz)
    (k:∀ g,A=some ⟨g,0,none⟩→St w0 nt ((d, .pointer (some ⟨g,q.toNat*sz,none⟩))::Γ) F (X rest)):St w0 nt Γ F (X (⟨some d, .indexAddr t x ix,ty,pos,af,none⟩::rest)):=
  fun a w hs hdf ha hf hw=>by
    have hown:mC sz e' A n c rows (hp w):=hf.res hm
    rcases hown.2.2 with ⟨h,_⟩ | ⟨g,cur,fr,_,hA,_⟩
    · omega
    · subst hA
      obtain ⟨dd,hu,hdd⟩:=T.ok.desc hi
      have hadd:(⟨g,0,none⟩:Addr).add (q.toNat*sz)=⟨g,q.toNat*sz,none⟩:=sC g _
      refine W.val _ _ _ _ _ (xO rfl _) (fun w' he=>?_) (k g rfl _ w (by simp [Act.put,hs]) hdf (ha.put (hs▸Nat.le_of_ble_eq_true hd)) hf hw)
      simp [execOp,Instr.indexAt,ha.eval hx,ha.eval hq,asIntOf,run_underlying hu,TD.of_slice (hdd.trans hdesc),yJ T.ok hj,hn,h0,h1,hadd]
theorem eQ {sz e n c g q:Nat} {rows:List (List Value)} {row:List Value} {w:World} (h:mC sz e (some ⟨g,0,none⟩) n c rows (hp w)) (hr:rows[q]? =some row):∀ i u,row[i]? =some u→w.cell? ⟨g,q*sz+i,none⟩=some u:=by
 intro i u hu
 obtain ⟨g',hA,hc⟩:=h.cell (zBO h.2.1 q row hr i u hu)
 injection hA with hA
 injection hA with hA
 subst hA
 exact hc
theorem St.loadO [W:Walk P ops X] {t sz e n c g p q:Nat} {x:Operand} (off:Nat) {rows:List (List Value)} {row:List Value} {v:Value} (hd:Nat.blt d nt=true) (hx:ev Γ x=some (.pointer (some ⟨g,p,none⟩))) (hm:As.res (Own sz e (some ⟨g,0,none⟩) n c rows)∈F)
  (hr:rows[q]? =some row) (hpp:p=q*sz+off) (hv:pP T.tt t row off=some v) (k:St w0 nt ((d,v)::Γ) F (X rest)):St w0 nt Γ F (X (⟨some d, .load t x,ty,pos,af,none⟩::rest)):=
 fun a w hs hdf ha hf hw=>W.val _ _ _ _ v (xO rfl _) (fun w' he=>qW T.ok (by rw [ha.eval hx,hpp]) hv (eQ ((hf.ext he).res (r:=Own sz e (some ⟨g,0,none⟩) n c rows) hm) hr) _ _)
  (k _ w (by simp [Act.put,hs]) hdf (ha.put (hs▸Nat.le_of_ble_eq_true hd)) hf hw)
theorem aM {sz:Nat}:∀ (rows:List (List Value)) (q:Nat) (row row':List Value),(∀ r∈rows,r.length=sz)→rows[q]? =some row→row'.length=sz→
  (rows.set q row').flatten=rows.flatten.take (q*sz)++row'++rows.flatten.drop (q*sz+sz)
 | [],q,_,_,_,h,_=>by simp at h
 | r::rs,0,row,row',hl,h,h'=>by
  simp at h
  subst h
  have:=hl r (by simp)
  simp [←this]
 | r::rs,q+1,row,row',hl,h,h'=>by
  have h1:=hl r (by simp)
  have ih:=aM rs q row row' (fun x hx=>hl x (by simp [hx])) (by simpa using h) h'
  simp only [List.set_cons_succ,List.flatten_cons,ih]
  have e1:(q+1)*sz=r.length+q*sz:=by rw [h1,Nat.add_mul]; omega
  have e2:(q+1)*sz+sz=r.length+(q*sz+sz):=by rw [e1]; omega
  rw [e1,show r.length+q*sz+sz=r.length+(q*sz+sz) by omega,List.take_append,List.drop_append]
  simp [List.take_of_length_le,List.drop_eq_nil_of_le]
theorem St.storeO {t sz e n c g p q:Nat} {x y:Operand} (off:Nat) {i:TI} {rows:List (List Value)} {row row':List Value} {v:Value} (hx:ev Γ x=some (.pointer (some ⟨g,p,none⟩))) (hy:ev Γ y=some v) (hD:Del F (.res (Own sz e (some ⟨g,0,none⟩) n c rows)) G)
    (hr:rows[q]? =some row) (hpp:p=q*sz+off) (hi:yK T.tt t=some i) (hsz:Nat.beq (zc v).length i.size=true) (h1:((zc v).all fun u=>u.oneCell')=true) (hs:uE row off (zc v) some=some row')
    (k:St w0 nt Γ (.res (Own sz e (some ⟨g,0,none⟩) n c (rows.set q row'))::G) (wpList P ops Q rest)):St w0 nt Γ F (wpList P ops Q (⟨none, .store t x y,ty,pos,af,none⟩::rest)):=
  fun a w hs' hdf ha hf hw=>wpList_plain rfl fun K hK=>by
    have hf':=hf.front hD
    have hown:mC sz e (some ⟨g,0,none⟩) n c rows (hp w):=hf.del_own hD
    obtain ⟨o1,o2,o3⟩:=hown
    rcases o3 with ⟨h,_⟩ | ⟨g',cur,fr,hpos,hA,hg,hcs,hnc,hc,htk,hfz⟩
    · have := (List.getElem?_eq_some_iff.1 hr).1
      omega
    injection hA with hA
    injection hA with hA
    subst hA
    obtain ⟨hl,he⟩:=jF _ _ _ _ _ hs
    injection he with he
    have hrow:=o2 row (List.mem_of_getElem? hr)
    have hqn:q<n:=o1▸(List.getElem?_eq_some_iff.1 hr).1
    have hqs:q*sz+sz≤c*sz:=by
      have:(q+1)*sz≤c*sz:=Nat.mul_le_mul_right _ (by omega)
      rw [Nat.add_mul] at this
      omega
    have hbox:(Box g e cur.toList).p (hp w):=⟨_,hg,fr,by simp,fun i hi=>hfz i (by simpa using hi)⟩
    obtain ⟨w',hrr,hwr,hb⟩:=kG (P:=P) (zc v) cur.toList p 0 w hbox (by simp only [Array.length_toList,hcs]; omega) (fun u hu=>by simpa using List.all_eq_true.1 h1 u hu)
    have hz:v.cells.size=i.size:=by rw [←iX]; simpa using Nat.eq_of_beq_eq_true hsz
    have hzl:v.cells.toList=zc v:=by rw [←iX]
    unfold Oper.wp
    have hr2:(execOp a.eval ⟨none, .store t x y,ty,pos,af,none⟩).run P w= .ok .skip w':=by
      simp [execOp,Instr.storeAt,ha.eval hx,ha.eval hy,Instr.sureAddr,storeVar,yJ T.ok hi,hz,hzl,hrr]
    rw [hr2]
    have hbk: [g]=(Own sz e (some ⟨g,0,none⟩) n c rows).gs:=(zBl hpos).symm
    refine hK _ _ (k _ _ hs' hdf ha.put_none (hf'.exchange (hbk▸hwr) (rL _ _) (fun j hj=>?_) ?_) (hw.trans hwr.toSame))
    · exact ⟨Nat.lt_of_lt_of_le (hf'.lt (by simp only [zW,As.gs,List.mem_append]; exact .inl hj)) hwr.size, .inl hj⟩
    · have hrow' : row'.length = sz := by
        rw [←he]
        simp only [List.length_append,List.length_take,List.length_drop,hrow.1] at hl ⊢
        omega
      obtain ⟨o,ho,fr',rfl,hfz'⟩:=hb
      refine ⟨by simp [o1],fun r hr'=>?_, .inr ⟨g,_,fr',hpos,rfl,ho,?_,hnc,hc,?_,fun i hi=>hfz' i (by simpa using hi)⟩⟩
      · rcases List.mem_or_eq_of_mem_set hr' with h | h
        · exact o2 r h
        · subst h
          refine ⟨hrow',fun u hu=>?_⟩
          rw [←he] at hu
          simp only [List.mem_append] at hu
          rcases hu with (hu | hu) | hu
          · exact hrow.2 u (List.mem_of_mem_take hu)
          · simpa using List.all_eq_true.1 h1 u hu
          · exact hrow.2 u (List.mem_of_mem_drop hu)
      · simp only [List.size_toArray, List.length_append, List.length_take, List.length_drop, Array.length_toList, hcs]
        omega
      · rw [aM rows q row row' (fun r hr' => (o2 r hr').1) hr hrow', ← htk]
        simp only [Nat.add_zero]
        have hrc:∀ k u,row[k]? =some u→cur.toList[q*sz+k]? =some u:=fun k u hu=>by
          have h3:=zBO o2 q row hr k u hu
          rw [←htk,List.getElem?_take] at h3
          split at h3
          · exact h3
          · cases h3
        have hqn2:q*sz+sz≤n*sz:=by
          have:(q+1)*sz≤n*sz:=Nat.mul_le_mul_right _ (by omega)
          rw [Nat.add_mul] at this
          omega
        have hnc2:n*sz≤c*sz:=Nat.mul_le_mul_right _ hnc
        apply List.ext_getElem?
        intro k
        rw [←he,hpp]
        simp only [List.getElem?_take,List.getElem?_append,List.length_append,List.length_take,List.length_drop,Array.length_toList,hcs,hrow.1,List.getElem?_drop]
        have e1:min (q*sz+off) (c*sz)=q*sz+off:=by omega
        have e2:min (q*sz) (min (n*sz) (c*sz))=q*sz:=by omega
        have e3:min off sz=off:=by omega
        rw [e1,e2,e3]
        by_cases k1:k<q*sz
        · simp only [show k<n*sz by omega,show k<q*sz+off+(zc v).length by omega,show k<q*sz+off by omega,show k<q*sz+(off+(zc v).length+(sz - (off+(zc v).length))) by omega,k1,if_true]
        · by_cases k2 : k < q * sz + off
          · simp only [show k < n * sz by omega, show k < q * sz + off + (zc v).length by omega, k2, show k < q * sz + (off + (zc v).length + (sz - (off + (zc v).length))) by omega, k1, show k - q * sz < off + (zc v).length by omega, show k - q * sz < off by omega, if_true, if_false]
            have hk2:k - q*sz<row.length:=by omega
            have:=hrc (k - q*sz) _ (List.getElem?_eq_getElem hk2)
            rw [show q*sz+(k - q*sz)=k by omega] at this
            rw [this,List.getElem?_eq_getElem hk2]
          · by_cases k3 : k < q * sz + off + (zc v).length
            · simp only [show k < n * sz by omega, k3, k2, show k < q * sz + (off + (zc v).length + (sz - (off + (zc v).length))) by omega, k1, show k - q * sz < off + (zc v).length by omega, show ¬ (k - q * sz < off) by omega, if_true, if_false]
              congr 1
              omega
            · by_cases k4 : k < q * sz + sz
              · simp only [show k < n * sz by omega, k3, k2, show k < q * sz + (off + (zc v).length + (sz - (off + (zc v).length))) by omega, k1, show ¬ (k - q * sz < off + (zc v).length) by omega, if_true, if_false]
                have hk4:off+(zc v).length+(k - q*sz - (off+(zc v).length))<row.length:=by omega
                have:=hrc _ _ (List.getElem?_eq_getElem hk4)
                rw [List.getElem?_eq_getElem hk4,←this]
                congr 1
                omega
              · simp only [k3, show ¬ (k < q * sz + (off + (zc v).length + (sz - (off + (zc v).length)))) by omega, if_false]
                by_cases k5:k<n*sz
                · simp only [k5, if_true]
                  rw [if_pos (by omega)]
                  congr 1
                  omega
                · simp only [k5, if_false]
                  rw [if_neg (by omega)]
end
end Go.Proofs.YtplchdlgdjcojaaGreatDoor
end
section
namespace Go.Proofs.YtplchdlgdjcojaaGreatDoor
open Go
set_option linter.unusedSectionVars false
def sub {α:Type} (xs:List α) (lo hi:Int):Option (List α):=if 0≤lo∧lo≤hi∧hi≤xs.length then some ((xs.take hi.toNat).drop lo.toNat) else none
def eltS (s:ByteArray) (i:Int):Option Int:=if 0≤i then (s[i.toNat]?).map fun b=>(b.toNat:Int) else none
def zCv (xs:List Int):ByteArray:=⟨(xs.map fun n=>UInt8.ofNat n.toNat).toArray⟩
def nK (s:ByteArray):List Int:=s.toList.map fun b=>(b.toNat:Int)
def app {α:Type} (b:Nat) (xs ys:List α):Option (List α):=if (xs.length+ys.length)*b≤140737488355328∧xs.length+ys.length≤9223372036854775807 then some (xs++ys) else none
def tH {α:Type} (xs:List α) (i:Int) (y:α):Option (List α):=if 0≤i∧i<xs.length then some (xs.set i.toNat y) else none
def mkS {α:Type} (b:Nat) (z:α) (l c:Int):Option (List α):=if 0≤l∧l≤c∧c*b≤281474976710656∧c≤9223372036854775807 then some (List.replicate l.toNat z) else none
def zOY (k:IntKind) (x y:Int):Option Int:=if y=0 then none else some (k.wrap (x.tdiv y))
def zKO (x y:Int):Option Int:=if y=0 then none else some (x.tmod y)
def zCH (k:IntKind) (x y:Int):Option Int:=if y<0 then none else some (kY k x y)
def zGe (k:IntKind) (x y:Int):Option Int:=if y<0 then none else some (uD k x y)
def bnd {α β:Type} (x:Option α) (f:α→Option β):Option β:=match x with | some a=>f a | none=>none
theorem zES {α β:Type} {x:Option α} {f:α→Option β} {r:β} (h:bnd x f=some r):∃ a,x=some a∧f a=some r:=by
 cases x with
 | none=>cases h
 | some a=>exact ⟨a,rfl,h⟩
theorem dR {α:Type} {b:Bool} {x y:α} {r:α} (hb:b=true) (h:(bif b then x else y)=r):x=r:=by subst hb; exact h
theorem dG {α:Type} {b:Bool} {x y:α} {r:α} (hb:b=false) (h:(bif b then x else y)=r):y=r:=by subst hb; exact h
theorem dY {α:Type} {xs ys:List α} {lo hi:Int} (h:sub xs lo hi=some ys):0≤lo∧lo≤hi∧hi≤xs.length∧ys=(xs.take hi.toNat).drop lo.toNat:=by
 unfold sub at h
 split at h
 ·rename_i hc; injection h with h; exact ⟨hc.1,hc.2.1,hc.2.2,h.symm⟩
 ·cases h
theorem zAE {α:Type} {xs ys:List α} {lo hi:Int} (h:sub xs lo hi=some ys):(ys.length:Int)=hi - lo:=by
 obtain ⟨h1,h2,h3,rfl⟩:=dY h
 simp only [List.length_drop,List.length_take]
 omega
section
variable {P:Program} [T:HasTT P] {w0:World} {nt:Nat} {Γ Γ':Env} {F F' G R:List As} {Q:Exit→Act→World→Prop} {ops:Array Oper} {rest:List Oper}
variable {d:Nat} {op:Op} {ty:Nat} {pos:String} {af:Array Edge} {X:List Oper→Act→World→Prop}
theorem St.val [W:Walk P ops X] {v:Value} (hd:Nat.blt d nt=true) (hr:∀ a w,At a Γ→Sat F w→(execOp a.eval ⟨some d,op,ty,pos,af,none⟩).run P w= .ok (.value v) w) (k:St w0 nt ((d,v)::Γ) F (X rest)):St w0 nt Γ F (X (⟨some d,op,ty,pos,af,none⟩::rest)):=
 fun a w hs hdf ha hf hw=>W.val _ _ _ _ v (xO rfl _) (fun w' he=>hr a w' ha (hf.ext he)) (k _ w (by simp [Act.put,hs]) hdf (ha.put (hs▸Nat.le_of_ble_eq_true hd)) hf hw)
theorem St.quo [W:Walk P ops X] {t yt:Nat} {k:IntKind} {x y z:Int} {ox oy:Operand} (hd:Nat.blt d nt=true) (hx:ev Γ ox=some (.int k x)) (hy:ev Γ oy=some (.int k y)) (h:zOY k x y=some z) (kk:St w0 nt ((d, .int k z)::Γ) F (X rest)):
  St w0 nt Γ F (X (⟨some d, .binOp .quo t ox oy yt,ty,pos,af,none⟩::rest)):=
 St.p hd (by
  unfold zOY at h
  split at h
  ·cases h
  ·rename_i h0; injection h with h; subst h; simp [pev,hx,hy,zFY,zNg,h0]) kk
theorem St.rem [W:Walk P ops X] {t yt:Nat} {k:IntKind} {x y z:Int} {ox oy:Operand} (hd:Nat.blt d nt=true) (hx:ev Γ ox=some (.int k x)) (hy:ev Γ oy=some (.int k y)) (h:zKO x y=some z) (kk:St w0 nt ((d, .int k z)::Γ) F (X rest)):
  St w0 nt Γ F (X (⟨some d, .binOp .rem t ox oy yt,ty,pos,af,none⟩::rest)):=
 St.p hd (by
  unfold zKO at h
  split at h
  ·cases h
  ·rename_i h0; injection h with h; subst h; simp [pev,hx,hy,zFY,zNg,h0]) kk
theorem St.shl [W:Walk P ops X] {t yt:Nat} {k k':IntKind} {x y z:Int} {ox oy:Operand} (hd:Nat.blt d nt=true) (hx:ev Γ ox=some (.int k x)) (hy:ev Γ oy=some (.int k' y)) (h:zCH k x y=some z) (kk:St w0 nt ((d, .int k z)::Γ) F (X rest)):
  St w0 nt Γ F (X (⟨some d, .binOp .shl t ox oy yt,ty,pos,af,none⟩::rest)):=
 St.p hd (by
  unfold zCH at h
  split at h
  ·cases h
  ·rename_i h0; injection h with h; subst h; simp [pev,hx,hy,zFY,zAe,h0]) kk
theorem St.shr [W:Walk P ops X] {t yt:Nat} {k k':IntKind} {x y z:Int} {ox oy:Operand} (hd:Nat.blt d nt=true) (hx:ev Γ ox=some (.int k x)) (hy:ev Γ oy=some (.int k' y)) (h:zGe k x y=some z) (kk:St w0 nt ((d, .int k z)::Γ) F (X rest)):
  St w0 nt Γ F (X (⟨some d, .binOp .shr t ox oy yt,ty,pos,af,none⟩::rest)):=
 St.p hd (by
  unfold zGe at h
  split at h
  ·cases h
  ·rename_i h0; injection h with h; subst h; simp [pev,hx,hy,zFY,zAe,h0]) kk
theorem St.eltS [W:Walk P ops X] {t:Nat} {i:TI} {s:ByteArray} {kk:IntKind} {q z:Int} {ox oy:Operand} (hd:Nat.blt d nt=true) (hx:ev Γ ox=some (.string s)) (hy:ev Γ oy=some (.int kk q)) (hi:yK T.tt t=some i) (hdesc:i.desc= .string) (h:eltS s q=some z) (k:St w0 nt ((d, .int .u8 z)::Γ) F (X rest)):
  St w0 nt Γ F (X (⟨some d, .index t ox oy,ty,pos,af,none⟩::rest)):=
 St.val hd (fun a w ha _=>by
  unfold Go.Proofs.YtplchdlgdjcojaaGreatDoor.eltS at h
  split at h
  ·rename_i h0
   simp only [Option.map_eq_some_iff] at h
   obtain ⟨b,hb,rfl⟩:=h
   obtain ⟨dd,hu,hdd⟩:=T.ok.desc hi
   simp [execOp,ha.eval hx,ha.eval hy,Instr.index,asIntOf,run_underlying hu,TD.of_string (hdd.trans hdesc),h0,hb]
  ·cases h) k
def uR (Γ:Env) (dflt:Int):Option Operand→Option Int
 | none=>some dflt
 | some x=>match ev Γ x with | some (.int _ n)=>some n | _=>none
theorem zBD {a:Act} {lo hi:Option Operand} {l h:Int} {len cap:Nat} (isS:Bool) (ha:At a Γ) (hl:uR Γ 0 lo=some l) (hh:uR Γ len hi=some h) (h0:0≤l) (h1:l≤h) (h2:h≤len) (hc:len≤cap) (w:World):
  (Instr.sliceBounds isS len cap (lo.map a.eval) (hi.map a.eval) none).run P w= .ok (l.toNat,h.toNat,cap) w:=by
 cases hi with
 | none=>
  simp only [uR] at hh
  injection hh with hh; subst hh
  cases lo with
  | none=>
   simp only [uR] at hl
   injection hl with hl; subst hl
   simp [Instr.sliceBounds]
  | some x=>
   simp only [uR] at hl
   split at hl
   ·rename_i kk n hx
    injection hl with hl; subst hl
    simp [Instr.sliceBounds,Instr.sliceBound,asIntOf,ha.eval hx,h0,h1]
   ·cases hl
 | some y=>
  simp only [uR] at hh
  split at hh
  ·rename_i kk m hy
   injection hh with hh; subst hh
   have hm0:0≤m:=by omega
   have hmc:m≤(cap:Int):=by omega
   cases lo with
   | none=>
    simp only [uR] at hl
    injection hl with hl; subst hl
    simp [Instr.sliceBounds,Instr.sliceBound,asIntOf,ha.eval hy,hm0,hmc]
   | some x=>
    simp only [uR] at hl
    split at hl
    ·rename_i kk' n hx
     injection hl with hl; subst hl
     have:n≤max m 0:=by omega
     simp [Instr.sliceBounds,Instr.sliceBound,asIntOf,ha.eval hx,ha.eval hy,hm0,hmc,h0,this]
    ·cases hl
  ·cases hh
theorem SlP.sub {α:Type} {E:Cod α} {A:Option Addr} {c:Nat} {xs ys:List α} {lo hi:Int} {m:Hp} (h:SlP E A c xs m) (hs:sub xs lo hi=some ys):
  SlP E (if c=lo.toNat then A else A.map (·.add (lo.toNat*E.n))) (c - lo.toNat) ys m:=by
 obtain ⟨h0,h1,h2,rfl⟩:=dY hs
 obtain ⟨g1,g2,g3,g4⟩:=h
 refine ⟨by simp only [List.length_drop,List.length_take]; omega,by omega,?_,?_⟩
 ·intro hn
  have:A=none:=by
   split at hn
   ·exact hn
   ·simpa using hn
  rw [g3 this]
  simp
 ·intro ad had j x hx
  rw [List.getElem?_drop,List.getElem?_take] at hx
  split at hx
  ·rename_i hj
   cases A with
   | none=>split at had <;> cases had
   | some b=>
    obtain ⟨k1,cs,k2,k3⟩:=g4 b rfl _ x hx
    have hlt:=(List.getElem?_eq_some_iff.1 hx).1
    rw [if_neg (by omega)] at had
    simp only [Option.map_some] at had
    injection had with had
    have e:b.add (lo.toNat*E.n)=⟨b.block,b.off+lo.toNat*E.n,none⟩:=by unfold Addr.add; split <;> (cases b; simp_all)
    rw [e] at had
    subst had
    refine ⟨rfl,cs,k2,fun i u hu=>?_⟩
    rw [←k3 i u hu]
    congr 1
    simp only [Nat.add_mul]
    omega
  ·cases hx
theorem St.sub [W:Walk P ops X] {α:Type} {E:Cod α} {t e:Nat} {i j:TI} {A:Option Addr} {n c:Nat} {xs ys:List α} {lo hi:Option Operand} {l h:Int} {ox:Operand} (hd:Nat.blt d nt=true) (hx:ev Γ ox=some (.slice A n c)) (hm:As.ro (Sl E A c xs)∈F) (hlen:n=xs.length)
    (hl:uR Γ 0 lo=some l) (hh:uR Γ (n:Int) hi=some h) (hi':yK T.tt t=some i) (hdesc:i.desc= .slice e) (hj:yK T.tt e=some j) (hn:j.size=E.n) (hz:sub xs l h=some ys)
    (k:∀ A' c',St w0 nt ((d, .slice A' ys.length c')::Γ) (.ro (Sl E A' c' ys)::F) (X rest)):St w0 nt Γ F (X (⟨some d, .slice t ox lo hi none,ty,pos,af,none⟩::rest)):=
  fun a w hs hdf ha hf hw=>by
    obtain ⟨h0,h1,h2,_⟩:=dY hz
    have hyl:=zAE hz
    have hsl:SlP E A c xs (frz (zW F) w):=hf.ro hm
    have hcap:=hsl.1
    subst hlen
    have hyl2:ys.length=h.toNat - l.toNat:=by omega
    refine St.val (F:=F) hd (v:=.slice (if c=l.toNat then A else A.map (·.add (l.toNat*E.n))) ys.length (c - l.toNat)) (fun a w' ha _=>?_)
      (fun a w hs hdf ha hf hw=>k _ _ a w hs hdf ha (hf.add_ro (Sl E _ _ ys) (SlP.sub (hf.ro hm) hz)) hw) a w hs hdf ha hf hw
    obtain ⟨dd,hu,hdd⟩:=T.ok.desc hi'
    have hb:=zBD (P:=P) true ha hl hh h0 h1 h2 hcap w'
    simp [execOp,Instr.sliceAt,Instr.slice,ha.eval hx,run_underlying hu,TD.of_slice (hdd.trans hdesc),hb,yJ T.ok hj,hn,hyl2]
theorem zNT {xs:List Int} {c:Nat} {A:Option Addr} {w:World} (hs:bQ P 1 (.slice A xs.length c) xs.length (xs.map (zGS .u8)).flatten w):(Conv.bytesToString (.slice A xs.length c)).run P w= .ok (.string (zCv xs)) w:=by
 have hfl:(xs.map (zGS .u8)).flatten=xs.map (Value.int .u8):=by
  induction xs with
  | nil=>rfl
  | cons x r ih=>
   have:(r.map (zGS .u8)).flatten=r.map (Value.int .u8):=by
    clear ih hs
    induction r with
    | nil=>rfl
    | cons y r ih=>simp [zGS,ih]
   simp [zGS,this]
 have h4:=hs.2.2.2 w rfl
 cases A with
 | none=>
  have:xs= []:=by
   have h:=h4
   simp only [Builtin.firstCells,Sem.run_pure,Result.ok.injEq] at h
   have h5:=congrArg Array.toList h.1
   rw [hfl] at h5
   cases xs with
   | nil=>rfl
   | cons x r=>simp at h5
  subst this
  rfl
 | some ad=>
  simp only [Builtin.firstCells,Nat.mul_one] at h4
  rw [hfl] at h4
  rw [run_bytesToString w ad xs.length c xs h4,foldl_push_bytes]
  simp [zCv,ByteArray.empty,ByteArray.emptyWithCapacity]
  rfl
theorem St.b2s [W:Walk P ops X] {s t e:Nat} {i j l:TI} {A:Option Addr} {n c:Nat} {xs:List Int} {ox:Operand} (hd:Nat.blt d nt=true) (hx:ev Γ ox=some (.slice A n c)) (hlen:n=xs.length) (hi:yK T.tt s=some i) (hdesc:i.desc= .slice e) (hj:yK T.tt e=some j) (hjd:j.desc= .int .u8) (hl:yK T.tt t=some l) (hld:l.desc= .string)
  (hsrc:∀ w,Sat F w→bQ P 1 (.slice A xs.length c) xs.length (xs.map (zGS .u8)).flatten w) (k:St w0 nt ((d, .string (zCv xs))::Γ) F (X rest)):St w0 nt Γ F (X (⟨some d, .convert s t ox,ty,pos,af,none⟩::rest)):=
 St.val hd (fun a w ha hf=>by
  obtain ⟨d1,hu1,hd1⟩:=T.ok.desc hi
  obtain ⟨d2,hu2,hd2⟩:=T.ok.desc hj
  obtain ⟨d3,hu3,hd3⟩:=T.ok.desc hl
  subst hlen
  have:=run_convert_bytes_string (P:=P) w s t e A xs.length c (TD.of_slice (hd1.trans hdesc)▸hu1) (TD.of_int (hd2.trans hjd)▸hu2) (TD.of_string (hd3.trans hld)▸hu3)
  simp only [execOp,ha.eval hx,Sem.run_bind,this,zNT (hsrc w hf),Result.andThen_ok,Sem.run_pure]) k
theorem St.fact {X:Act→World→Prop} {φ:Prop} (h:∀ w,Sat F w→φ) (k:φ→St w0 nt Γ F X):St w0 nt Γ F X:=fun a w hs hdf ha hf hw=>k (h w hf) a w hs hdf ha hf hw
theorem St.ex {X:Act→World→Prop} {ε:Type} {Fs:ε→List As} (h:∀ w,Sat F w→∃ e,Sat (Fs e) w) (k:∀ e,St w0 nt Γ (Fs e) X):St w0 nt Γ F X:=fun a w hs hdf ha hf hw=>by
 obtain ⟨e,he⟩:=h w hf
 exact k e a w hs hdf ha he hw
theorem St.cutE {ε:Type} {c:Code} {n:Act→World→Prop} (Γs:ε→Env) (Fs:ε→List As) (h1:St w0 nt Γ F (c.wp P (Exit.then (fun a w=>∃ e,a.tmps.size=nt∧a.defers= []∧At a (Γs e)∧Sat (Fs e) w∧Same w0 w) Q)))
    (h2:∀ e,St w0 nt (Γs e) (Fs e) n):St w0 nt Γ F (c.wp P (Exit.then n Q)):=
  fun a w hs hd ha hf hw=>wp_mono (h1 a w hs hd ha hf hw) fun e a' w' hq=>by
    cases e with
    | normal=>
      obtain ⟨e,q1,q2,q3,q4,q5⟩:=hq
      exact h2 e a' w' q1 q2 q3 q4 q5
    | _=>exact hq
theorem St.hereE {ε:Type} {Γs:ε→Env} {Fs:ε→List As} (e:ε) (hΓ:zAU (Γs e) Γ) (hF:∀ w,Sat F w→Sat (Fs e) w):St w0 nt Γ F (fun a w=>∃ e,a.tmps.size=nt∧a.defers= []∧At a (Γs e)∧Sat (Fs e) w∧Same w0 w):=
 fun _ w hs hd ha hf hw=>⟨e,hs,hd,ha.sub hΓ,hF w hf,hw⟩
theorem Sat.own_sl {α:Type} {E:Cod α} {e n c:Nat} {A:Option Addr} {rows:List (List Value)} {xs:List α} {w:World} (h:Sat (.res (Own E.n e A n c rows)::F) w) (hx:xs.length=n)
  (hr:∀ m,(∀ r∈F,∀ q,r=As.ro q→q.p m)→dI E xs rows m):Sat (.ro (Sl E A c xs)::F) w:=by
 have hown:mC E.n e A n c rows (hp w):=(h.all _ (List.mem_cons_self ..)).2.1
 have hnd:=List.nodup_append.1 h.nodup
 have h2:=h.tail
 refine h2.add_ro (Sl E A c xs) (hown.sl xs hx _ (fun k hk=>?_) (fun j x hj=>?_))
 ·unfold frz hp
  rw [if_neg (fun hb=>hnd.2.2 k hk k hb rfl)]
 ·have hrel:=hr (frz (zW F) w) (fun r hr q hq=>by subst hq; exact h2.all _ hr)
  have hjl:=(List.getElem?_eq_some_iff.1 hj).1
  have hrl:j<rows.length:=by rw [hrel.1]; exact hjl
  exact ⟨rows[j],List.getElem?_eq_getElem hrl,hrel.2 j x _ hj (List.getElem?_eq_getElem hrl)⟩
theorem zNd {α:Type} {sz:Nat} {enc:α→List Value} {hlen:∀ x,(enc x).length=sz} {hone:∀ x,∀ u∈enc x,u.oneCell'=true} (xs:List α) (m:Hp):dI (Cod.flat sz enc hlen hone) xs (xs.map enc) m:=
 ⟨by simp,fun j x r h1 h2=>by
  show r=enc x
  simp [List.getElem?_map,h1] at h2
  exact h2.symm⟩
theorem Sat.own_slF {α:Type} {sz:Nat} {enc:α→List Value} {hlen:∀ x,(enc x).length=sz} {hone:∀ x,∀ u∈enc x,u.oneCell'=true} {e c:Nat} {A:Option Addr} {xs:List α} {w:World} (h:Sat (.res (Own sz e A xs.length c (xs.map enc))::F) w):
  Sat (.ro (Sl (Cod.flat sz enc hlen hone) A c xs)::F) w:=
 Sat.own_sl (E:=Cod.flat sz enc hlen hone) h rfl fun m _=>zNd xs m
end
end Go.Proofs.YtplchdlgdjcojaaGreatDoor
end
section
namespace Go.Proofs.YtplchdlgdjcojaaGreatDoor
open Go
set_option linter.unusedSectionVars false
inductive qE:List As→List As→Prop
 | z {F:List As}:qE F F
 | k {F G:List As} {x:As} (h:qE F G):qE (x::F) (x::G)
 | d {F G:List As} {x:As} (h:qE F G):qE (x::F) G
theorem qE.mem {F G:List As} (h:qE F G):∀ x∈G,x∈F:=by
 induction h with
 | z=>exact fun _ h=>h
 | k _ ih=>
  intro x hx
  cases hx with
  | head=>exact List.mem_cons_self ..
  | tail _ hx=>exact List.mem_cons_of_mem _ (ih x hx)
 | d _ ih=>exact fun x hx=>List.mem_cons_of_mem _ (ih x hx)
theorem qE.sub {F G:List As} (h:qE F G):(zW G).Sublist (zW F):=by
 induction h with
 | z=>exact List.Sublist.refl _
 | k _ ih=>exact (List.Sublist.refl _).append ih
 | d _ ih=>exact ih.trans (List.sublist_append_right _ _)
theorem qE.sat {F G:List As} (h:qE F G) {w:World} (hs:Sat F w):Sat G w:=hs.of_mem (h.sub.nodup hs.nodup) h.mem
theorem zTb {σ τ:Type} {m:σ→Option (rG σ τ)} {s:σ} {out:τ} (h:∃ n,bW m (n+1) s=some out):∃ st,m s=some st∧∀ t,st= .done t→out=t:=by
 obtain ⟨n,hn⟩:=h
 simp only [bW] at hn
 split at hn
 ·rename_i s' hs; exact ⟨_,hs,fun t ht=>by cases ht⟩
 ·rename_i t hs; injection hn with hn; exact ⟨_,hs,fun u hu=>by injection hu with hu; rw [←hn,hu]⟩
 ·cases hn
def wT {ρ σ:Type} (o:ρ ⊕ σ) (f:σ→Option ρ):Option ρ:=match o with | .inl r=>some r | .inr s=>f s
theorem zCN {α:Type} {b:Nat} {xs ys zs:List α} (h:app b xs ys=some zs):zs=xs++ys∧(xs.length+ys.length)*b≤140737488355328∧xs.length+ys.length≤9223372036854775807:=by
 unfold app at h
 split at h
 ·rename_i hc; injection h with h; exact ⟨h.symm,hc⟩
 ·cases h
theorem zAJ {α:Type} {sz:Nat} {enc:α→List Value} (hlen:∀ x,(enc x).length=sz) (hone:∀ x,∀ u∈enc x,u.oneCell'=true) (xs:List α):∀ r∈xs.map enc,r.length=sz∧∀ u∈r,u.oneCell'=true:=fun r hr=>by
 obtain ⟨x,_,rfl⟩:=List.mem_map.1 hr
 exact ⟨hlen x,hone x⟩
structure Enc (α:Type) where
 sz:Nat
 enc:α→List Value
 len:∀ x,(enc x).length=sz
 one:∀ x,∀ u∈enc x,u.oneCell'=true
def cod {α:Type} (E:Enc α):Cod α:=Cod.flat E.sz E.enc E.len E.one
def yH:Enc Int:=⟨1,zGS .i64,fun _=>rfl,fun _ u hu=>by simp [zGS] at hu; subst hu; rfl⟩
def eu8:Enc Int:=⟨1,zGS .u8,fun _=>rfl,fun _ u hu=>by simp [zGS] at hu; subst hu; rfl⟩
def yU:Enc Bool:=⟨1,zUX,fun _=>rfl,fun _ u hu=>by simp [zUX] at hu; subst hu; rfl⟩
def zWa:Enc ByteArray:=⟨1,zXK,fun _=>rfl,fun _ u hu=>by simp [zXK] at hu; subst hu; rfl⟩
def zM {α:Type} (E:Enc α) (e:Nat) (A:Option Addr) (c:Nat) (xs:List α):Res:=Own E.sz e A xs.length c (xs.map E.enc)
def SlL {α:Type} (E:Enc α) (A:Option Addr) (c:Nat) (xs:List α):Ro:=Sl (cod E) A c xs
inductive zBu (tt:TT) (Γ:Env) (F:List As):List ResultVar→List Value→Prop
 | nil:zBu tt Γ F [] []
 | tmp {t:Nat} {v:Value} {rs:List ResultVar} {vs:List Value} (h:get Γ t=some v) (k:zBu tt Γ F rs vs):zBu tt Γ F (.tmp t::rs) (v::vs)
 | cell {x t g t':Nat} {cs:List Value} {v:Value} {rs:List ResultVar} {vs:List Value} (h:get Γ x=some (.pointer (some ⟨g,0,none⟩))) (hm:As.res (Box g t' cs)∈F) (hv:pP tt t cs 0=some v) (k:zBu tt Γ F rs vs):zBu tt Γ F (.cell x t::rs) (v::vs)
section
variable {P:Program} [T:HasTT P] {w0:World} {nt:Nat} {Γ Γ':Env} {F F' G R:List As} {Q:Exit→Act→World→Prop} {ops:Array Oper} {rest:List Oper}
variable {d:Nat} {op:Op} {ty:Nat} {pos:String} {af:Array Edge} {X:List Oper→Act→World→Prop} {Post:Value→List As→Prop}
theorem zBu.run {a:Act} {w:World} (ha:At a Γ) (hf:Sat F w):∀ {rs:List ResultVar} {vs:List Value},zBu T.tt Γ F rs vs→(rs.mapM (zMy a.tmps):Sem (List Value)).run P w= .ok vs w
 | _,_, .nil=>rfl
 | _,_, .tmp (t:=t) (v:=v) h k=>by
  have he:a.tmps.getD t undef=v:=by simp [ha t _ h]
  rw [List.mapM_cons]
  simp only [Sem.run_bind,zMy,he,Sem.run_pure,Result.andThen_ok,zBu.run ha hf k]
 | _,_, .cell (x:=x) (t:=t) (g:=g) h hm hv k=>by
  have he:a.tmps.getD x undef= .pointer (some ⟨g,0,none⟩):=by simp [ha x _ h]
  have hl:=fX (P:=P) T.ok hv (w:=w) (b:=g) (o:=0) (fun i u hu=>by rw [Nat.zero_add]; exact Box.cell (hf.res hm) hu)
  simp only [Nat.add_zero] at hl
  rw [List.mapM_cons]
  simp only [Sem.run_bind,zMy,he,asAddr,Sem.run_pure,Result.andThen_ok,hl,zBu.run ha hf k]
theorem zCl {fn:Func} {a:Act} {w:World} {v:Value} {rs:List ResultVar} {vs:List Value} (ha:At a Γ) (hf:Sat F w) (hrs:fn.results=rs.toArray) (h:zBu T.tt Γ F rs vs) (h1:zBQ vs=some v):(results fn a.tmps).run P w= .ok v w:=by
 rw [zGD,hrs,List.mapM_toArray,Sem.run_bind,Sem.run_map,zBu.run ha hf h]
 simp only [Result.andThen_ok]
 cases vs with
 | nil=>simp [zBQ] at h1; subst h1; simp
 | cons x r=>
  cases r with
  | nil=>simp [zBQ] at h1; subst h1; simp
  | cons y r=>simp [zBQ] at h1; subst h1; simp
theorem St.finR {fn:Func} {v:Value} {rs:List ResultVar} {vs:List Value} (hrs:fn.results=rs.toArray) (hv:zBu T.tt Γ F rs vs) (h1:zBQ vs=some v) (F':List As) (hp:Post v F') (hs:∀ w,Sat F w→Sat (F'++R) w):
  St w0 nt Γ F (bodyPost P fn (Out w0 R Post) .ret):=
 fun _ w _ hdf ha hf hw=>(eN v (zCl ha hf hrs hv h1) hdf ⟨v,F',rfl,hp,hs w hf,hw⟩).1
theorem St.finN' {fn:Func} {v:Value} {rs:List ResultVar} {vs:List Value} (hrs:fn.results=rs.toArray) (hv:zBu T.tt Γ F rs vs) (h1:zBQ vs=some v) (F':List As) (hp:Post v F') (hs:∀ w,Sat F w→Sat (F'++R) w):
  St w0 nt Γ F (bodyPost P fn (Out w0 R Post) .normal):=
 fun _ w _ hdf ha hf hw=>(eN v (zCl ha hf hrs hv h1) hdf ⟨v,F',rfl,hp,hs w hf,hw⟩).2
theorem St.ixL [W:Walk P ops X] {α:Type} {E:Enc α} {t e:Nat} {i j:TI} {x ix:Operand} {A:Option Addr} {n c:Nat} {kk:IntKind} {q:Int} {xs:List α} {y:α} (hy:elt xs q=some y) (hd:Nat.blt d nt=true) (hx:ev Γ x=some (.slice A n c)) (hq:ev Γ ix=some (.int kk q))
  (hm:As.ro (SlL E A c xs)∈F) (hlen:n=xs.length) (hi:yK T.tt t=some i) (hdesc:i.desc= .slice e) (hj:yK T.tt e=some j) (hn:j.size=E.sz)
  (k:∀ b o,St w0 nt ((d, .pointer (some ⟨b,o,none⟩))::Γ) (.ro (hM b o (E.enc y))::F) (X rest)):St w0 nt Γ F (X (⟨some d, .indexAddr t x ix,ty,pos,af,none⟩::rest)):=
 St.idxF (enc:=E.enc) (hlen':=E.len) (hone:=E.one) hd hx hq hm hlen hy hi hdesc hj hn k
theorem St.ixO [W:Walk P ops X] {α:Type} {E:Enc α} {t e e':Nat} {i j:TI} {x ix:Operand} {A:Option Addr} {n c:Nat} {kk:IntKind} {q:Int} {xs:List α} {y:α} (hy:elt xs q=some y) (hd:Nat.blt d nt=true) (hx:ev Γ x=some (.slice A n c)) (hq:ev Γ ix=some (.int kk q))
  (hm:As.res (zM E e' A c xs)∈F) (hlen:n=xs.length) (hi:yK T.tt t=some i) (hdesc:i.desc= .slice e) (hj:yK T.tt e=some j) (hn:j.size=E.sz)
  (k:∀ g,A=some ⟨g,0,none⟩→St w0 nt ((d, .pointer (some ⟨g,q.toNat*E.sz,none⟩))::Γ) F (X rest)):St w0 nt Γ F (X (⟨some d, .indexAddr t x ix,ty,pos,af,none⟩::rest)):=by
 subst hlen
 exact St.idxO hd hx hq hm (uT hy).1 (uT hy).2.1 hi hdesc hj hn k
theorem zFr {α:Type} {E:Enc α} {xs:List α} {q:Int} {y:α} (hy:elt xs q=some y):(xs.map E.enc)[q.toNat]? =some (E.enc y):=by
 rw [List.getElem?_map,(uT hy).2.2]
 rfl
theorem St.ldO [W:Walk P ops X] {α:Type} {E:Enc α} {t e c g p:Nat} {x:Operand} {q:Int} {y:α} (off:Nat) {xs:List α} {v:Value} (hy:elt xs q=some y) (hd:Nat.blt d nt=true) (hx:ev Γ x=some (.pointer (some ⟨g,p,none⟩))) (hm:As.res (zM E e (some ⟨g,0,none⟩) c xs)∈F)
  (hpp:p=q.toNat*E.sz+off) (hv:pP T.tt t (E.enc y) off=some v) (k:St w0 nt ((d,v)::Γ) F (X rest)):St w0 nt Γ F (X (⟨some d, .load t x,ty,pos,af,none⟩::rest)):=
 St.loadO off hd hx hm (zFr hy) hpp hv k
theorem St.stO {α:Type} {E:Enc α} {t e c g p:Nat} {x y:Operand} {q:Int} {u u':α} (off:Nat) {i:TI} {xs zs:List α} {v:Value} (hu:elt xs q=some u) (hz:tH xs q u'=some zs) (hx:ev Γ x=some (.pointer (some ⟨g,p,none⟩))) (hy:ev Γ y=some v) (hD:Del F (.res (zM E e (some ⟨g,0,none⟩) c xs)) G)
  (hpp:p=q.toNat*E.sz+off) (hi:yK T.tt t=some i) (hsz:Nat.beq (zc v).length i.size=true) (h1:((zc v).all fun u=>u.oneCell')=true) (hs:uE (E.enc u) off (zc v) some=some (E.enc u'))
  (k:St w0 nt Γ (.res (zM E e (some ⟨g,0,none⟩) c zs)::G) (wpList P ops Q rest)):St w0 nt Γ F (wpList P ops Q (⟨none, .store t x y,ty,pos,af,none⟩::rest)):=by
 refine St.storeO off hx hy hD (zFr hu) hpp hi hsz h1 hs ?_
 unfold tH at hz
 split at hz
 ·injection hz with hz
  subst hz
  have e1:(xs.map E.enc).set q.toNat (E.enc u')=(xs.set q.toNat u').map E.enc:=by rw [List.map_set]
  have e2:(xs.set q.toNat u').length=xs.length:=by simp
  unfold zM at k
  rw [e2,←e1] at k
  exact k
 ·cases hz
theorem St.app {α:Type} {E:Enc α} {t t2 e m c n:Nat} {i i2 j:TI} {s x:Operand} {A:Option Addr} {xv:Value} {b:Nat} {xs ys zs:List α} (hz:app b xs ys=some zs) (hd:Nat.blt d nt=true) (hs:ev Γ s=some (.slice A n c)) (hx:ev Γ x=some xv)
  (hD:Del F (.res (zM E e A c xs)) G) (hlen:n=xs.length) (hi:yK T.tt t=some i) (hdesc:i.desc= .slice e) (hj:yK T.tt e=some j) (hsz:j.size=E.sz) (hby:j.bytes=b) (hzs:Nat.beq (zc j.zero).length E.sz=true)
  (hm:m=ys.length) (hsrc:∀ w,Sat F w→bQ P E.sz xv m (ys.map E.enc).flatten w) (hi2:yK T.tt t2=some i2) (hd2:zBF i2.desc=true)
  (k:∀ A' c',St w0 nt ((d, .slice A' zs.length c')::Γ) (.res (zM E e A' c' zs)::G) (wpList P ops Q rest)):
  St w0 nt Γ F (wpList P ops Q (⟨some d, .call { callee:=.builtin .append,args:=#[s,x],argTypes:=#[t,t2] },ty,pos,af,none⟩::rest)):=by
 obtain ⟨rfl,h2,h3⟩:=zCN hz
 subst hlen; subst hm; subst hby
 refine St.append (ys.map E.enc) hd hs hx hD hi hdesc hj hsz hzs hsrc rfl (by simp) (zAJ E.len E.one ys) (by simpa [maxLen] using h3) h2 hi2 hd2 fun A' c'=>?_
 have:=k A' c'
 unfold zM at this
 simpa using this
theorem fB {α:Type} {E:Enc α} {A:Option Addr} {c:Nat} {xs:List α} (hm:As.ro (SlL E A c xs)∈F):∀ w,Sat F w→bQ P E.sz (.slice A xs.length c) xs.length (xs.map E.enc).flatten w:=
 zWF (enc:=E.enc) (hlen:=E.len) (hone:=E.one) hm
theorem eO {α:Type} {E:Enc α} {g e m c:Nat} {cs:List Value} {ys:List α} (hm:As.res (Box g e cs)∈F) (hcs:(ys.map E.enc).flatten=cs) (hl:m=ys.length):∀ w,Sat F w→bQ P E.sz (.slice (some ⟨g,0,none⟩) m c) m (ys.map E.enc).flatten w:=by
 subst hcs; subst hl
 have h:=zAJ E.len E.one ys
 refine zOu hm (by rw [vF h]; simp) ?_
 rw [List.all_eq_true]
 intro u hu
 obtain ⟨r,hr,hur⟩:=List.mem_flatten.1 hu
 exact (h r hr).2 u hur
theorem zXr (s:ByteArray):∀ w,Sat F w→bQ P 1 (.string s) s.size ((nK s).map eu8.enc).flatten w:=by
 intro w hf
 have h:=zTs (P:=P) s w hf
 have e:((nK s).map eu8.enc).flatten=dT s:=by
  unfold nK dT
  generalize s.toList=l
  induction l with
  | nil=>rfl
  | cons x r ih=>simp only [List.map_cons,List.flatten_cons,ih]; rfl
 rw [e]
 exact h
theorem Sat.nilL {α:Type} {w:World} (h:Sat F w) (E:Enc α) (e:Nat):Sat (.res (zM E e none 0 [])::F) w:=h.own_nil E.sz e
theorem Sat.litL {α:Type} {E:Enc α} {g e:Nat} {cs:List Value} {w:World} (ys:List α) (hcs:(ys.map E.enc).flatten=cs) (hm:Nat.ble ys.length 16777216=true) (h:Sat (.res (Box g e cs)::F) w):Sat (.res (zM E e (some ⟨g,0,none⟩) ys.length ys)::F) w:=
 Sat.box_own hcs (by simp) (zAJ E.len E.one ys) (by have:=Nat.le_of_ble_eq_true hm; simp only [maxLen]; omega) h
theorem Sat.meltL {α:Type} {E:Enc α} {e c:Nat} {A:Option Addr} {xs:List α} {w:World} (h:Sat (.res (zM E e A c xs)::F) w):Sat (.ro (SlL E A c xs)::F) w:=
 Sat.own_slF (enc:=E.enc) (hlen:=E.len) (hone:=E.one) h
theorem Sat.nilSl {α:Type} {w:World} (h:Sat F w) (E:Cod α):Sat (.ro (Sl E none 0 [])::F) w:=
 h.add_ro (Sl E none 0 []) ⟨by simp,by simp [maxLen],fun _=>rfl,fun ad h=>by cases h⟩
theorem zM.sl {α:Type} {E:Enc α} {e c:Nat} {A:Option Addr} {xs:List α} {w:World} (h:Sat F w) (hm:As.res (zM E e A c xs)∈F):(SlL E A c xs).p (hp w):=
 mC.sl (E:=cod E) (h.res hm) xs rfl (hp w) (fun _ _=>rfl) fun j x hx=>⟨E.enc x,by rw [List.getElem?_map,hx]; rfl,rfl⟩
theorem St.mkL {α:Type} {E:Enc α} {t e:Nat} {i j:TI} {x y:Operand} {l c:Int} {b:Nat} (z:α) {xs:List α} (hxs:mkS b z l c=some xs) (hd:Nat.blt d nt=true) (hx:ev Γ x=some (.int .i64 l)) (hy:ev Γ y=some (.int .i64 c)) (hi:yK T.tt t=some i) (hdesc:i.desc= .slice e) (hj:yK T.tt e=some j)
  (hsz:j.size=E.sz) (hby:j.bytes=b) (hz:zc j.zero=E.enc z) (hpos:Nat.blt 0 j.size=true)
  (k:∀ g,St w0 nt ((d, .slice (some ⟨g,0,none⟩) xs.length c.toNat)::Γ) (.res (zM E e (some ⟨g,0,none⟩) c.toNat xs)::F) (wpList P ops Q rest)):
  St w0 nt Γ F (wpList P ops Q (⟨some d, .makeSlice t x y,ty,pos,af,none⟩::rest)):=by
 unfold mkS at hxs
 split at hxs
 ·rename_i hc
  injection hxs with hxs
  subst hxs
  subst hby
  refine St.makeSlice hd hx hy hi hdesc hj (by rw [hz,E.len,hsz]; simp) hpos ?_ hc.1 hc.2.1 hc.2.2.1 hc.2.2.2 fun g=>?_
  ·rw [hz,List.all_eq_true]; exact E.one z
  ·have:=k g
   unfold zM at this
   rw [hz,hsz]
   simpa using this
 ·cases hxs
theorem St.prune {X:Act→World→Prop} (hΓ:zAU Γ' Γ) (hF:qE F F') (h:St w0 nt Γ' F' X):St w0 nt Γ F X:=St.weak hΓ (fun _ w=>hF.sat w) h
theorem St.cutI {σ ε:Type} {c:Code} {n:Act→World→Prop} (Γs:σ→ε→Env) (Fs:σ→ε→List As) (I:σ→Prop) (h1:St w0 nt Γ F (c.wp P (Exit.then (fun a w=>∃ s e,I s∧a.tmps.size=nt∧a.defers= []∧At a (Γs s e)∧Sat (Fs s e) w∧Same w0 w) Q)))
    (h2:∀ s e,I s→St w0 nt (Γs s e) (Fs s e) n):St w0 nt Γ F (c.wp P (Exit.then n Q)):=
  fun a w hs hd ha hf hw=>wp_mono (h1 a w hs hd ha hf hw) fun e a' w' hq=>by
    cases e with
    | normal=>
      obtain ⟨s,e,q0,q1,q2,q3,q4,q5⟩:=hq
      exact h2 s e q0 a' w' q1 q2 q3 q4 q5
    | _=>exact hq
theorem St.hereI {σ ε:Type} {Γs:σ→ε→Env} {Fs:σ→ε→List As} {I:σ→Prop} (s:σ) (e:ε) (hI:I s) (hΓ:zAU (Γs s e) Γ) (hF:∀ w,Sat F w→Sat (Fs s e) w):St w0 nt Γ F (fun a w=>∃ s e,I s∧a.tmps.size=nt∧a.defers= []∧At a (Γs s e)∧Sat (Fs s e) w∧Same w0 w):=
 fun _ w hs hd ha hf hw=>⟨s,e,hI,hs,hd,ha.sub hΓ,hF w hf,hw⟩
end
end Go.Proofs.YtplchdlgdjcojaaGreatDoor
end
section
namespace Go.Proofs.YtplchdlgdjcojaaGreatDoor
open Go
set_option linter.unusedSectionVars false
def vM {α β:Type} (eq:α→α→Bool):List (α × β)→α→Option β
 | [],_=>none
 | x::r,k=>bif eq k x.1 then some x.2 else vM eq r k
def nD {α β:Type} (eq:α→α→Bool):List (α × β)→α→β→List (α × β)
 | [],k,v=> [(k,v)]
 | x::r,k,v=>bif eq k x.1 then (k,v)::r else x::nD eq r k v
structure oC (α:Type) where
 v:α→Value
 eq:α→α→Bool
 td:TD
 same:∀ (d:TypeDesc) (a b:α),TD.of d=td→Instr.sameNow d (v a) (v b)=some (eq a b)
 stay:∀ a b,eq a b=true→Instr.sameBits 10000 (v b) (v a)=true
 plain:∀ (P:Program) (t:Nat) (d:TypeDesc) (e:Bool) (a:α) (w:World),P.underlying t=some d→TD.of d=td→(Instr.checkKey e 10000 t (v a)).run P w= .ok () w
theorem zRE (n:Nat) (k:IntKind) {a b:Int} (h:a=b):Instr.sameBits (n+1) (.int k a) (.int k b)=true:=by
 subst h
 simp [Instr.sameBits]
theorem zPr (e:Bool) (n:Nat) {P:Program} {t:Nat} {k:IntKind} (h:P.underlying t=some (.int k)) (a:Int) (w:World):(Instr.checkKey e (n+1) t (.int k a)).run P w= .ok () w:=by
 simp [Instr.checkKey,run_underlying h]
theorem jB {P:Program} {w:World} {r:Nat} {es:Array MapEntry} {clock:Nat} (hb:w.heap[r]? =some (.map es clock)):(getObj r).run P w= .ok (.map es clock) w:=by
 simp [getObj,Sem.run,hb]
theorem zGd {P:Program} {w:World} {r:Nat} {es:Array MapEntry} {clock:Nat} (o:Obj) (hb:w.heap[r]? =some (.map es clock)):(setObj r o).run P w= .ok () { w with heap:=w.heap.setIfInBounds r o }:=by
 simp [setObj,Sem.run,hb]
theorem zIl {P:Program} (t:TypeId) (w:World):(Instr.makeMap t none).run P w= .ok (.map (some w.heap.size)) (w.alloc (.map #[] 0)):=rfl
def yF (k:IntKind):oC Int where
 v:=.int k
 eq a b:=a==b
 td:=.int k
 same d a b h:=by rw [TD.of_int h]; simp [Instr.sameNow]
 stay a b h:=by
  exact zRE 9999 k (eq_of_beq h).symm
 plain P t d e a w h hd:=by
  have:=TD.of_int hd
  subst this
  exact zPr e 9999 h a w
def zEl {α β:Type} (K:oC α) (vv:β→Value) (m:List (α × β)):List (Value × Value):=m.map fun x=>(K.v x.1,vv x.2)
def nC {α β:Type} (K:oC α) (vv:β→Value) (g:Nat) (m:List (α × β)):Res where
 gs:= [g]
 p h:=∃ es clock,h g=some (.map es clock)∧es.toList.map (fun e=>(e.key,e.val))=zEl K vv m
 loc _ _ h:=fun ⟨es,cl,ho,hb⟩=>⟨es,cl,(h g (by simp)).symm.trans ho,hb⟩
theorem zDf {α β:Type} (K:oC α) (vv:β→Value) {d:TypeDesc} (hd:TD.of d=K.td) (k:α):∀ (m:List (α × β)) (es:List MapEntry) (n:Nat),es.map (fun e=>(e.key,e.val))=zEl K vv m→
  (vM K.eq m k=none∧Instr.findNow d (K.v k) es n=some none∧∀ v,nD K.eq m k v=m++ [(k,v)])∨
  ∃ i b,vM K.eq m k=some b∧Instr.findNow d (K.v k) es n=some (some (n+i,vv b))∧(∃ e,es[i]? =some e∧Instr.sameBits 10000 e.key (K.v k)=true)∧
   ∀ v,(es.modify i fun e=> { e with key:=K.v k,val:=vv v }).map (fun e=>(e.key,e.val))=zEl K vv (nD K.eq m k v)
 | [],es,n,h=>by
  simp [zEl] at h
  subst h
  exact .inl ⟨rfl,rfl,fun _=>rfl⟩
 | x::m, [],n,h=>by simp [zEl] at h
 | x::m,e::es,n,h=>by
  simp only [zEl,List.map_cons,List.cons.injEq] at h
  obtain ⟨h1,h2⟩:=h
  have hk:e.key=K.v x.1:=congrArg Prod.fst h1
  have hv:e.val=vv x.2:=congrArg Prod.snd h1
  have hs:=K.same d k x.1 hd
  cases hc:K.eq k x.1
  ·rw [hc] at hs
   rcases zDf K vv hd k m es (n+1) h2 with ⟨g1,g2,g3⟩ | ⟨i,b,g1,g2,g3,g4⟩
   ·refine .inl ⟨by simp [vM,hc,g1],by simp [Instr.findNow,hk,hs,g2],fun v=>by simp [nD,hc,g3]⟩
   ·refine .inr ⟨i+1,b,by simp [vM,hc,g1],by simp [Instr.findNow,hk,hs,g2]; omega,by simpa using g3,fun v=>?_⟩
    have:=g4 v
    simp only [zEl,nD,hc,cond_false,List.map_cons,List.modify_succ_cons,hk,hv] at this ⊢
    rw [this]
  ·rw [hc] at hs
   refine .inr ⟨0,x.2,by simp [vM,hc],by simp [Instr.findNow,hk,hs,hv],⟨e,rfl,by rw [hk]; exact K.stay _ _ hc⟩,fun v=>?_⟩
   simp only [zEl,nD,hc,cond_true,List.map_cons,List.modify_zero_cons]
   exact congrArg _ h2
section
variable {P:Program} [T:HasTT P] {w0:World} {nt:Nat} {Γ Γ':Env} {F F' G R:List As} {Q:Exit→Act→World→Prop} {ops:Array Oper} {rest:List Oper}
variable {d:Nat} {op:Op} {ty:Nat} {pos:String} {af:Array Edge} {X:List Oper→Act→World→Prop} {Post:Value→List As→Prop}
theorem St.makeMap {α β:Type} {K:oC α} {vv:β→Value} {t:Nat} (hd:Nat.blt d nt=true) (k:∀ g,St w0 nt ((d, .map (some g))::Γ) (.res (nC K vv g [])::F) (wpList P ops Q rest)):
    St w0 nt Γ F (wpList P ops Q (⟨some d, .makeMap t none,ty,pos,af,none⟩::rest)):=
  fun a w hs hdf ha hf hw=>wpList_plain rfl fun K' hK=>by
    unfold Oper.wp
    have hr:(execOp a.eval ⟨some d, .makeMap t none,ty,pos,af,none⟩).run P w= .ok (.value (.map (some w.heap.size))) (w.alloc (.map #[] 0)):=by
      simp [execOp,zIl]
    rw [hr]
    refine hK _ _ (k _ _ _ (by simp [Act.put,hs]) hdf (ha.put (hs▸Nat.le_of_ble_eq_true hd)) (hf.add_res (Ext.alloc w _) _ (by simp [nC]) (fun k hk=>by simp [nC] at hk; subst hk; simp) ⟨_,_,oN w _,rfl⟩) (hw.trans (Ext.alloc w _).toSame))
def zPX {β:Type} (vv:β→Value) (z:β) (o:Option β) (comma:Bool):Value:=if comma then .tuple #[vv (o.getD z), .bool o.isSome] else vv (o.getD z)
theorem gW {α β:Type} {K:oC α} {vv:β→Value} {t kt e:Nat} {i j l:TI} {g:Nat} {m:List (α × β)} (z:β) (comma:Bool) (hi:yK T.tt t=some i) (hdesc:i.desc= .map kt e) (hj:yK T.tt kt=some j) (hjd:j.desc=K.td) (hl:yK T.tt e=some l) (hz:l.zero=vv z)
  (k:α) {w:World} (h:(nC K vv g m).p (hp w)):(Instr.lookup t (.map (some g)) (K.v k) comma).run P w= .ok (zPX vv z (vM K.eq m k) comma) w:=by
 obtain ⟨es,cl,ho,hb⟩:=h
 obtain ⟨d1,hu1,hd1⟩:=T.ok.desc hi
 obtain ⟨d2,hu2,hd2⟩:=T.ok.desc hj
 have h1:=TD.of_map (hd1.trans hdesc)
 subst h1
 have h2:=K.plain P kt d2 es.isEmpty k w hu2 (hd2.trans hjd)
 have ho':w.heap[g]? =some (.map es cl):=ho
 have hz0:=vU T.ok hl w
 have hg:(getObj g).run P w= .ok (.map es cl) w:=jB ho'
 rcases zDf K vv (hd2.trans hjd) k m es.toList 0 hb with ⟨g1,g2,_⟩ | ⟨i,b,g1,g2,_⟩
 ·simp [Instr.lookup,run_underlying hu1,hg,h2,Instr.findKey,run_underlying hu2,g2,g1,hz0,hz,zPX]
 ·simp [Instr.lookup,run_underlying hu1,hg,h2,Instr.findKey,run_underlying hu2,g2,g1,zPX]
theorem St.lookup [W:Walk P ops X] {α β:Type} {K:oC α} {vv:β→Value} {t kt e:Nat} {i j l:TI} {g:Nat} {m:List (α × β)} {x y:Operand} {comma:Bool} {u:Value} (z:β) (k:α) (hd:Nat.blt d nt=true) (hx:ev Γ x=some (.map (some g))) (hy:ev Γ y=some (K.v k)) (hm:As.res (nC K vv g m)∈F)
  (hi:yK T.tt t=some i) (hdesc:i.desc= .map kt e) (hj:yK T.tt kt=some j) (hjd:j.desc=K.td) (hl:yK T.tt e=some l) (hz:l.zero=vv z) (hu:zPX vv z (vM K.eq m k) comma=u)
  (c:St w0 nt ((d,u)::Γ) F (X rest)):St w0 nt Γ F (X (⟨some d, .lookup t x y comma,ty,pos,af,none⟩::rest)):=
 fun a w hs hdf ha hf hw=>by
  subst hu
  refine W.val _ _ _ _ _ (xO rfl _) (fun w' he=>?_) (c _ w (by simp [Act.put,hs]) hdf (ha.put (hs▸Nat.le_of_ble_eq_true hd)) hf hw)
  have:=gW (P:=P) z comma hi hdesc hj hjd hl hz k ((hf.ext he).res hm)
  simp [execOp,ha.eval hx,ha.eval hy,this]
theorem zGv {α β:Type} {K:oC α} {vv:β→Value} {t kt e:Nat} {i j:TI} {g:Nat} {m:List (α × β)} (hi:yK T.tt t=some i) (hdesc:i.desc= .map kt e) (hj:yK T.tt kt=some j) (hjd:j.desc=K.td)
  (k:α) (v:β) {w:World} (h:(nC K vv g m).p (hp w)):∃ w',(Instr.mapUpdate t (.map (some g)) (K.v k) (vv v)).run P w= .ok () w'∧sT [g] w w'∧(nC K vv g (nD K.eq m k v)).p (hp w'):=by
 obtain ⟨es,cl,ho,hb⟩:=h
 obtain ⟨d1,hu1,hd1⟩:=T.ok.desc hi
 obtain ⟨d2,hu2,hd2⟩:=T.ok.desc hj
 have h1:=TD.of_map (hd1.trans hdesc)
 subst h1
 have h2:=K.plain P kt d2 false k w hu2 (hd2.trans hjd)
 have ho':w.heap[g]? =some (.map es cl):=ho
 have hlt:=(Array.getElem?_eq_some_iff.1 ho').1
 have hg:(getObj g).run P w= .ok (.map es cl) w:=jB ho'
 have hset:∀ o:Obj,∃ w',(setObj g o).run P w= .ok () w'∧sT [g] w w'∧hp w' g=some o:=fun o=>by
  refine ⟨{ w with heap:=w.heap.setIfInBounds g o },zGd o ho',⟨⟨rfl,rfl,rfl,by simp⟩,fun i hi hn=>?_⟩,?_⟩
  ·simp only [List.mem_singleton] at hn
   show (w.heap.setIfInBounds g o)[i]? =w.heap[i]?
   rw [Array.getElem?_setIfInBounds_ne (fun h=>hn h.symm)]
  ·show (w.heap.setIfInBounds g o)[g]? =some o
   simp [hlt]
 rcases zDf K vv (hd2.trans hjd) k m es.toList 0 hb with ⟨g1,g2,g3⟩ | ⟨i,b,g1,g2,⟨e0,he0,hsb⟩,g4⟩
 ·obtain ⟨w',hr,hw,hh⟩:=hset (.map (es.push ⟨K.v k,vv v,cl⟩) (cl+1))
  refine ⟨w',?_,hw,_,_,hh,?_⟩
  ·simp [Instr.mapUpdate,run_underlying hu1,hg,h2,Instr.findKey,run_underlying hu2,g2,hr]
  ·simp [hb,zEl,g3 v]
 ·have hmod:(es.modify i fun e=> { e with key:=K.v k,val:=vv v }).toList=es.toList.modify i fun e=> { e with key:=K.v k,val:=vv v }:=Array.toList_modify
  obtain ⟨w',hr,hw,hh⟩:=hset (.map (es.modify i fun e=> { e with key:=K.v k,val:=vv v }) cl)
  refine ⟨w',?_,hw,_,_,hh,?_⟩
  ·have he1:es[i]? =some e0:=by simpa using he0
   simp only [Nat.zero_add] at g2
   simp [Instr.mapUpdate,run_underlying hu1,hg,h2,Instr.findKey,run_underlying hu2,g2,he1,Instr.keyThatStays,hsb,hr]
  ·rw [hmod]; exact g4 v
theorem St.mapUpdate {α β:Type} {K:oC α} {vv:β→Value} {t kt e:Nat} {i j:TI} {g:Nat} {m:List (α × β)} {x y z:Operand} (k:α) (v:β) (hx:ev Γ x=some (.map (some g))) (hy:ev Γ y=some (K.v k)) (hz:ev Γ z=some (vv v)) (hD:Del F (.res (nC K vv g m)) G)
    (hi:yK T.tt t=some i) (hdesc:i.desc= .map kt e) (hj:yK T.tt kt=some j) (hjd:j.desc=K.td)
    (c:St w0 nt Γ (.res (nC K vv g (nD K.eq m k v))::G) (wpList P ops Q rest)):St w0 nt Γ F (wpList P ops Q (⟨none, .mapUpdate t x y z,ty,pos,af,none⟩::rest)):=
  fun a w hs hdf ha hf hw=>wpList_plain rfl fun K' hK=>by
    have hf':=hf.front hD
    have h1:(nC K vv g m).p (hp w):=hf.res hD.mem
    obtain ⟨w',hr,hwr,hq⟩:=zGv (P:=P) hi hdesc hj hjd k v h1
    unfold Oper.wp
    have hrun:(execOp a.eval ⟨none, .mapUpdate t x y z,ty,pos,af,none⟩).run P w= .ok .skip w':=by
      simp [execOp,ha.eval hx,ha.eval hy,ha.eval hz,hr]
    rw [hrun]
    have hlt:g<w.heap.size:=hf.lt (kX.2 ⟨_,hD.mem,by simp [As.gs,nC]⟩)
    refine hK _ _ (c _ _ (by simpa [Act.put] using hs) hdf (ha.put_none) (hf'.exchange hwr (by simp [nC]) (fun k hk=>?_) hq) (hw.trans hwr.toSame))
    simp [nC] at hk
    subst hk
    exact ⟨Nat.lt_of_lt_of_le hlt hwr.size, .inl (by simp [nC])⟩
theorem zMa {f:FuncId} (he:Ent P f) {a:Act} {x:Operand} {xs:List Operand} {vs us:List Value} {ts:Array Nat} (hx:a.eval x= .func (.func f) #[] us.toArray) (hxs:xs.map a.eval=vs) (w:World) (dst:Option Nat) (g:Option (Nat × Bool)):
  (execOp a.eval ⟨dst, .call { callee:=.value x,args:=xs.toArray,argTypes:=ts },ty,pos,af,g⟩).run P w= .ok (.enter f (vs++us).toArray) w:=by
 obtain ⟨fn,h1,h2,h3⟩:=he
 subst hxs
 have hc:∀ args:Array Value,(callFunc f args).run P w= .ok (.enter f args) w:=fun args=>by
  unfold callFunc
  rw [Sem.run_bind,run_program]
  simp only [Result.andThen_ok,h1,h2,h3,Bool.false_eq_true,if_false,Sem.run_pure]
 simp [execOp,resolve,hx,Deferred.ofValue,invoke,hc]
theorem St.callC {f:FuncId} {args us:List Value} {G:List As} {x:Operand} {xs:List Operand} {ts:Array Nat} (h:Fun P f (args++us) G Post) (he:Ent P f) (hd:Nat.blt d nt=true) (hx:ev Γ x=some (.func (.func f) #[] us.toArray)) (hxs:evs Γ xs=some args)
  (hF:∀ w,Sat F w→Sat (G++R) w) (k:∀ v F',Post v F'→St w0 nt ((d,v)::Γ) (F'++R) (wpList P ops Q rest)):
  St w0 nt Γ F (wpList P ops Q (⟨some d, .call { callee:=.value x,args:=xs.toArray,argTypes:=ts },ty,pos,af,none⟩::rest)):=
 fun a w hs hdf ha hf hw=>wpList_plain rfl fun K hK=>by
  unfold Oper.wp
  rw [zMa he (ha.eval hx) (ha.evals hxs)]
  show Calls P f (args++us).toArray w _
  refine (h w R (hF w hf)).mono fun e w' ⟨v,F',h1,h2,h3,h4⟩=>?_
  subst h1
  exact hK _ _ (k v F' h2 _ _ (by simp [Act.put,hs]) hdf (ha.put (hs▸Nat.le_of_ble_eq_true hd)) h3 (hw.trans h4))
theorem St.rounds {c:Code} (n:Nat) (h:St w0 nt Γ F (Code.rounds P c Q n)):St w0 nt Γ F ((Code.loop c).wp P Q):=
 fun a w hs hd ha hf hw=>wp_loop_rounds n (h a w hs hd ha hf hw)
theorem St.round {c:Code} {n:Nat} (h:St w0 nt Γ F (c.wp P (Exit.then (Code.rounds P c Q n) Q))):St w0 nt Γ F (Code.rounds P c Q (n+1)):=h
theorem wZ {α:Type} {xs zs:List α} {q:Int} {v:α} {A:Option Addr} {c:Nat} (h:tH xs q v=some zs):some (Value.slice A xs.length c)=some (Value.slice A zs.length c):=by
 unfold tH at h
 split at h
 ·injection h with h
  subst h
  simp
 ·cases h
end
end Go.Proofs.YtplchdlgdjcojaaGreatDoor
end
section
namespace Go.Proofs.YtplchdlgdjcojaaGreatDoor
open Go Go.ChangeShapes Go.WideShapes Go.RowKit
set_option linter.unusedSectionVars false
theorem Tryz.own':ownKnob Tryz.prog.godebug=none:=by kernel_rfl
theorem Tryz.laid':laidOutB Tryz.prog=true:=by kernel_rfl
theorem zRC {w w':World} (h:Ext w w') (may:MemPlace→Prop):w.keptBut w' may:=by
 refine ⟨h.os,h.output,fun i hi=>?_⟩
 have:=(World.keptBut_refl w may).2.2 i hi
 rw [h.block i hi]
 exact this
theorem zOn {w:World}:∀ (rs:List Ro),(∀ r∈rs,r.p (hp w))→Sat (rs.map As.ro) w
 | [],_=>Sat.nil w
 | r::rs,h=>by
  refine (zOn rs fun x hx=>h x (List.mem_cons_of_mem _ hx)).add_ro r ?_
  have hb:zW (rs.map As.ro)= []:=lB fun x hx=>by
   obtain ⟨y,_,rfl⟩:=List.mem_map.1 hx
   rfl
  rw [hb]
  have:frz [] w=hp w:=by funext k; simp [frz,hp]
  rw [this]
  exact h r (List.mem_cons_self ..)
section
variable {H:Type} {enc:TypeId × Value→H} {P:Program} {w:World} {base:Nat} {sp:Nat→Bool} {held:Bool} {fuel:Nat} {cs:List Value} {x:DataW H × List MemPlace}
theorem zUm {w w':World} (h:Ext w w') {p:MemPlace} (hp:p.block<w.heap.size):w.sameAt w' p:=by
 cases p with
 | cell b off=>exact World.cell?_of_block (h.block b hp)
 | map b=>exact h.block b hp
theorem zBb (hl:laidOutB P=true) {W W':World} {sp':Nat→Bool}:∀ {ts:List TypeId} {vs:List Value} {ds:List (DataW H)} {ps:List MemPlace},(∀ t∈ts,P.readableRec t=true∧t<P.types.size)→
  DataW.TrodAll enc P W 0 (fun _=>true) true ts vs ds ps→(∀ p∈ps,W.sameAt W' p)→(∀ p∈ps,sp' p.block=true)→DataW.TrodAll enc P W' 0 sp' true ts vs ds ps
 | [],_,_,_,_,h,_,_=>by
  obtain ⟨rfl,rfl,rfl⟩:=trodAll_nil h
  rfl
 | t::ts,_,_,_,ht,h,h1,h2=>by
  obtain ⟨v,vs,d,ds,p,q,rfl,rfl,rfl,k1,k2⟩:=trodAll_cons h
  have g:=ht t (List.mem_cons_self ..)
  exact ⟨p,q,WideElems.Trod_stays hl g.1 g.2 k1 (fun p hp=>h1 p (List.mem_append_left _ hp)) (fun p hp=>h2 p (List.mem_append_left _ hp)),
   zBb hl (fun t ht'=>ht t (List.mem_cons_of_mem _ ht')) k2 (fun p hp=>h1 p (List.mem_append_right _ hp)) (fun p hp=>h2 p (List.mem_append_right _ hp)),rfl⟩
theorem zQA (hl:laidOutB P=true) {f:Func} {s:ChangeSpec} {apart fresh handsOn:Bool} {W W':World} {args:Array Value} {ds:List (DataW H)} {before:List MemPlace} {tb:TypeId}
  (hv:s.vars= []) (hr:f.resultTypes= #[tb]) (hb:P.underlying tb=some .bool) (hp:(f.params.toList.all fun t=>P.readableRec t&&decide (t<P.types.size))=true)
  (hs:s.fn H (ds++ [])= { results:= [.lit (.bool true)],args:=ds }) (hW:DataW.Whole enc P f.params.toList s.vars apart W args.toList ds [] before) (he:Ext W W'):
  s.post enc P f apart fresh handsOn false W args (.bool true) W':=by
 have hlt:∀ p∈before,p.block<W.heap.size:=fun p hp=>hW.lt p hp
 refine ⟨ds, [],before, [],before, [],hW,?_,?_,?_,zRC he _,fun h=>by cases h⟩
 ·rw [hr,hs]
  exact trodAll_mk1 ⟨1,by simp [DataW.trod,Value.cells,hb]⟩
 ·obtain ⟨p,q,hA,hV,rfl,_,_⟩:=hW
  rw [hv] at hV
  obtain ⟨_,rfl⟩:=trodVars_none hV
  rw [hs]
  simp only [List.append_nil] at hlt ⊢
  refine zBb hl (fun t ht=>?_) hA (fun x hx=>zUm he (hlt x hx)) (fun x hx=>by simpa using hlt x hx)
  have:=List.all_eq_true.1 hp t ht
  simpa using this
 ·rw [hs,hv]
  rfl
end
end Go.Proofs.YtplchdlgdjcojaaGreatDoor
end
section
namespace Go.Proofs.YtplchdlgdjcojaaGreatDoor
open Go
set_option linter.unusedSectionVars false
set_option linter.unusedVariables false
inductive Tg where
 | fl | fx | qc | ef
 deriving DecidableEq
structure kP where
 t:Tg
 i:Nat
 o:Oper
def NoQ:Exit→Act→World→Prop:=fun _ _ _=>False
section
variable {P:Program} {ops:Array Oper} {C:World→Prop} {Q:Act→World→Prop}
def qR (P:Program) (ops:Array Oper) (C:World→Prop) (z:kP) (a:Act) (w:World) (K:Act→World→Prop):Prop:=
 if Region.wanted z.o (yielded ops a.tmps)=true then
  match z.t with
  | .fl=>∃ v,(∀ w',C w'→(execOp a.eval z.o).run P w'= .ok (.value v) w')∧K (a.put z.o.dst v) w
  | .fx=>∃ v,(∀ w',Ext w w'→(execOp a.eval z.o).run P w'= .ok (.value v) w')∧K (a.put z.o.dst v) w
  | .qc=>∃ v f args,(∀ w',C w'→(execOp a.eval z.o).run P w'= .ok (.enter f args) w')∧(∀ w',C w'→Calls P f args w' fun e w''=>e= .returned v∧Ext w' w'')∧K (a.put z.o.dst v) w
  | .ef=>∀ w',Ext w w'→z.o.wp P a w' (fun a' w''=>C w''∧K a' w'') NoQ
 else K (a.put z.o.dst undef) w
inductive Tr where
 | nil
 | st (z:kP) (t:Tr)
 | alt (t u:Tr)
def wpX (P:Program) (ops:Array Oper) (C:World→Prop) (Q:Act→World→Prop):Tr→Act→World→Prop
 | .nil,a,w=>∀ w',Ext w w'→Q a w'
 | .st z t,a,w=>qR P ops C z a w (wpX P ops C Q t)
 | .alt t u,a,w=>wpX P ops C Q t a w∧wpX P ops C Q u a w
theorem bA:∀ {r:Tr} {a:Act} {w w':World},wpX P ops C Q r a w→Ext w w'→wpX P ops C Q r a w'
 | .nil,a,w,w',h,he=>fun w'' h2=>h w'' (he.trans h2)
 | .alt t u,a,w,w',h,he=>⟨bA h.1 he,bA h.2 he⟩
 | .st z rest,a,w,w',h,he=>by
  unfold wpX qR at h ⊢
  split
  ·rename_i hw
   rw [if_pos hw] at h
   cases ht:z.t with
   | fl=>
    rw [ht] at h
    obtain ⟨v,h1,h2⟩:=h
    exact ⟨v,h1,bA h2 he⟩
   | fx=>
    rw [ht] at h
    obtain ⟨v,h1,h2⟩:=h
    exact ⟨v,fun w'' h3=>h1 w'' (he.trans h3),bA h2 he⟩
   | qc=>
    rw [ht] at h
    obtain ⟨v,f,args,h1,h2,h3⟩:=h
    exact ⟨v,f,args,h1,h2,bA h3 he⟩
   | ef=>
    rw [ht] at h
    exact fun w'' h3=>h w'' (he.trans h3)
  ·rename_i hw
   rw [if_neg hw] at h
   exact bA h he
theorem zSH {o:Oper} {a:Act} {w:World} {K K':Act→World→Prop} {Q':Exit→Act→World→Prop} (h:∀ a w,K a w→K' a w) (hh:o.wp P a w K NoQ):o.wp P a w K' Q':=by
 unfold Oper.wp at*
 generalize (execOp a.eval o).run P w=r at*
 cases r with
 | ok n w'=>
  cases n <;> simp only [Oper.upon] at hh ⊢
  case value v=>exact h _ _ hh
  case skip=>exact h _ _ hh
  case defer d=>exact h _ _ hh
  case enter f args=>
   refine hh.mono fun e w'' he=>?_
   cases e with
   | returned v=>exact h _ _ he
   | panicked ch=>exact he.elim
   | outgrown=>obtain ⟨_,_,hf⟩:=he; exact hf.elim
  case row r args=>exact hh.mono fun v w'' hv=>h _ _ hv
 | halt x w'=>
  cases x <;> simp only [Oper.upon] at hh ⊢
  exact hh.elim
theorem zMx {z:kP} {a:Act} {w:World} {K K':Act→World→Prop} (h:∀ a w,K a w→K' a w) (hk:qR P ops C z a w K):qR P ops C z a w K':=by
 unfold qR at hk ⊢
 split
 ·rename_i hw
  rw [if_pos hw] at hk
  cases ht:z.t with
  | fl=>
   rw [ht] at hk
   obtain ⟨v,h1,h2⟩:=hk
   exact ⟨v,h1,h _ _ h2⟩
  | fx=>
   rw [ht] at hk
   obtain ⟨v,h1,h2⟩:=hk
   exact ⟨v,h1,h _ _ h2⟩
  | qc=>
   rw [ht] at hk
   obtain ⟨v,f,args,h1,h2,h3⟩:=hk
   exact ⟨v,f,args,h1,h2,h _ _ h3⟩
  | ef=>
   rw [ht] at hk
   exact fun w' hw'=>zSH (fun a w hh=>⟨hh.1,h a w hh.2⟩) (hk w' hw')
 ·rename_i hw
  rw [if_neg hw] at hk
  exact h _ _ hk
def pre:List kP→Tr→Tr
 | [],t=>t
 | x::xs,t=>.st x (pre xs t)
theorem cD:∀ (xs ys:List kP) (t:Tr),pre (xs++ys) t=pre xs (pre ys t)
 | [],_,_=>rfl
 | x::xs,ys,t=>by simp [pre,cD xs ys t]
theorem zLg {t t':Tr} (h:∀ a w,wpX P ops C Q t a w→wpX P ops C Q t' a w):∀ (xs:List kP) (a:Act) (w:World),wpX P ops C Q (pre xs t) a w→wpX P ops C Q (pre xs t') a w
 | [],a,w,hk=>h a w hk
 | _::xs,_,_,hk=>zMx (fun a w=>zLg h xs a w) hk
theorem zPw {o:Oper} {a:Act} {d:Option Tmp} {v:Value} {w:World} {K K':Act→World→Prop} (hs:∀ cs b,o.op≠.select cs b) (hd:∀ t,d=some t→t∉o.looksAt ops)
  (h:∀ (b:Act) u w',b.tmps=a.tmps→K ((b.put d v).put o.dst u) w'→K' (b.put o.dst u) w') (hh:o.wp P (a.put d v) w K NoQ):o.wp P a w K' NoQ:=by
 unfold Oper.wp at*
 rw [execOp_put (ops:=ops) o hs a d v hd] at hh
 generalize (execOp a.eval o).run P w=r at*
 cases r with
 | ok n w'=>
  cases n <;> simp only [Oper.upon] at hh ⊢
  case value u=>exact h a u w' rfl hh
  case skip=>exact h a undef w' rfl hh
  case defer df=>
   refine h { a with defers:=df::a.defers } undef w' rfl ?_
   rw [Act.put_defers] at hh
   exact hh
  case enter f args=>
   refine hh.mono fun e w'' he=>?_
   cases e with
   | returned u=>exact h a u w'' rfl he
   | panicked ch=>exact he.elim
   | outgrown=>obtain ⟨_,_,hf⟩:=he; exact hf.elim
  case row r args=>exact hh.mono fun u w'' hv=>h a u w'' rfl hv
 | halt x w'=>
  cases x <;> simp only [Oper.upon] at hh ⊢
  exact hh.elim
theorem zPA {a b:Act} (h:b.tmps=a.tmps):b.eval=a.eval:=by
 funext x
 cases x <;> simp [Act.eval,h]
structure zFo (ops:Array Oper) (x z:kP):Prop where
 apart:x.o.apart ops z.o=true
 noef:x.t≠.ef
 fl:z.t= .ef→x.t≠.fx
theorem zIC {x z:kP} {a b:Act} {w w':World} {v u:Value} {K:Act→World→Prop} (hsx:∀ cs b,x.o.op≠.select cs b) (ho:zFo ops x z) (hb:b.tmps=a.tmps) (hw:Region.wanted x.o (yielded ops a.tmps)=true)
  (hrun:(x.t= .fl∧(∀ w',C w'→(execOp a.eval x.o).run P w'= .ok (.value v) w'))∨(x.t= .fx∧w'=w∧(∀ w',Ext w w'→(execOp a.eval x.o).run P w'= .ok (.value v) w'))∨(x.t= .qc∧∃ f args,(∀ w',C w'→(execOp a.eval x.o).run P w'= .ok (.enter f args) w')∧(∀ w',C w'→Calls P f args w' fun e w''=>e= .returned v∧Ext w' w'')))
  (hk:K ((b.put x.o.dst v).put z.o.dst u) w'):qR P ops C x (b.put z.o.dst u) w' K:=by
 obtain ⟨h1,h2,h3⟩:=Oper.apart_spec ho.apart
 have he:execOp (b.put z.o.dst u).eval x.o=execOp a.eval x.o:=by
  rw [execOp_put (ops:=ops) x.o hsx b z.o.dst u h3,zPA hb]
 have hwb:Region.wanted x.o (yielded ops (b.put z.o.dst u).tmps)=true:=by
  rw [wanted_put (ops:=ops) x.o b z.o.dst u h3,hb]
  exact hw
 have hput:(b.put x.o.dst v).put z.o.dst u=(b.put z.o.dst u).put x.o.dst v:=Act.put_comm b v u h2
 rw [hput] at hk
 unfold qR
 rw [if_pos hwb]
 rcases hrun with ⟨ht,hr⟩ | ⟨ht,rfl,hr⟩ | ⟨ht,f,args,hr,hc⟩
 ·rw [ht]
  exact ⟨v,fun w' hc=>by rw [he]; exact hr w' hc,hk⟩
 ·rw [ht]
  exact ⟨v,fun w' hc=>by rw [he]; exact hr w' hc,hk⟩
 ·rw [ht]
  exact ⟨v,f,args,fun w' hcw=>by rw [he]; exact hr w' hcw,hc,hk⟩
theorem zKb {x z:kP} {a b:Act} {w':World} {u:Value} {K:Act→World→Prop} (ho:zFo ops x z) (hb:b.tmps=a.tmps) (hw:¬ Region.wanted x.o (yielded ops a.tmps)=true)
  (hk:K ((b.put x.o.dst undef).put z.o.dst u) w'):qR P ops C x (b.put z.o.dst u) w' K:=by
 obtain ⟨h1,h2,h3⟩:=Oper.apart_spec ho.apart
 have hwb:¬ Region.wanted x.o (yielded ops (b.put z.o.dst u).tmps)=true:=by
  rw [wanted_put (ops:=ops) x.o b z.o.dst u h3,hb]
  exact hw
 have hput:(b.put x.o.dst undef).put z.o.dst u=(b.put z.o.dst u).put x.o.dst undef:=Act.put_comm b undef u h2
 rw [hput] at hk
 unfold qR
 rw [if_neg hwb]
 exact hk
theorem zVt {z:kP} {t:Tr} (hsz:∀ cs b,z.o.op≠.select cs b):∀ (xs:List kP) (a:Act) (w:World),(∀ x∈xs,zFo ops x z∧∀ cs b,x.o.op≠.select cs b)→wpX P ops C Q (pre xs (.st z t)) a w→
  qR P ops C z a w (wpX P ops C Q (pre xs t))
 | [],a,w,_,h=>h
 | x::xs,a,w,hx,h=>by
  obtain ⟨ho,hsx⟩:=hx x (List.mem_cons_self ..)
  obtain ⟨h1,h2,h3⟩:=Oper.apart_spec ho.apart
  have hx':∀ y∈xs,zFo ops y z∧∀ cs b,y.o.op≠.select cs b:=fun y hy=>hx y (List.mem_cons_of_mem _ hy)
  have main:∀ (v:Value),wpX P ops C Q (pre xs (.st z t)) (a.put x.o.dst v) w→
    (∀ (b:Act) (u:Value) (w':World),b.tmps=a.tmps→(w'=w∨z.t= .ef)→wpX P ops C Q (pre xs t) ((b.put x.o.dst v).put z.o.dst u) w'→qR P ops C x (b.put z.o.dst u) w' (wpX P ops C Q (pre xs t)))→
    qR P ops C z a w (wpX P ops C Q (pre (x::xs) t)):=by
   intro v hv hafter
   have ih:=zVt hsz xs (a.put x.o.dst v) w hx' hv
   unfold qR at ih ⊢
   rw [wanted_put (ops:=ops) z.o a x.o.dst v h1] at ih
   split
   ·rename_i hwz
    rw [if_pos hwz] at ih
    cases htz:z.t with
    | fl=>
     rw [htz] at ih
     obtain ⟨u,hu,hk⟩:=ih
     exact ⟨u,fun w' hc=>by rw [←execOp_put (ops:=ops) z.o hsz a x.o.dst v h1]; exact hu w' hc,hafter a u w rfl (.inl rfl) hk⟩
    | fx=>
     rw [htz] at ih
     obtain ⟨u,hu,hk⟩:=ih
     exact ⟨u,fun w' hc=>by rw [←execOp_put (ops:=ops) z.o hsz a x.o.dst v h1]; exact hu w' hc,hafter a u w rfl (.inl rfl) hk⟩
    | qc=>
     rw [htz] at ih
     obtain ⟨u,f,args,hu,hcalls,hk⟩:=ih
     exact ⟨u,f,args,fun w' hc=>by rw [←execOp_put (ops:=ops) z.o hsz a x.o.dst v h1]; exact hu w' hc,hcalls,hafter a u w rfl (.inl rfl) hk⟩
    | ef=>
     rw [htz] at ih
     exact fun w1 he1=>zPw (ops:=ops) hsz h1 (fun b u w' hb hk=>⟨hk.1,hafter b u w' hb (.inr htz) hk.2⟩) (ih w1 he1)
   ·rename_i hwz
    rw [if_neg hwz] at ih
    exact hafter a undef w rfl (.inl rfl) ih
  have h':qR P ops C x a w (wpX P ops C Q (pre xs (.st z t))):=h
  unfold qR at h'
  by_cases hwx:Region.wanted x.o (yielded ops a.tmps)=true
  ·rw [if_pos hwx] at h'
   cases htx:x.t with
   | fl=>
    rw [htx] at h'
    obtain ⟨v,hv,hk⟩:=h'
    exact main v hk fun b u w' hb _ hw'=>zIC (w:=w) hsx ho hb hwx (.inl ⟨htx,hv⟩) hw'
   | fx=>
    rw [htx] at h'
    obtain ⟨v,hv,hk⟩:=h'
    refine main v hk fun b u w' hb hor hw'=>zIC (w:=w) hsx ho hb hwx (.inr (.inl ⟨htx,?_,hv⟩)) hw'
    rcases hor with h | h
    ·exact h
    ·exact absurd htx (ho.fl h)
   | qc=>
    rw [htx] at h'
    obtain ⟨v,f,args,hv,hcalls,hk⟩:=h'
    exact main v hk fun b u w' hb _ hw'=>zIC (w:=w) hsx ho hb hwx (.inr (.inr ⟨htx,f,args,hv,hcalls⟩)) hw'
   | ef=>exact absurd htx ho.noef
  ·rw [if_neg hwx] at h'
   exact main undef h' fun b u w' hb _ hw'=>zKb ho hb hwx hw'
inductive mV (ops:Array Oper):Nat→Nat→Prop
 | edge {i:Nat} {o:Oper} {e:Edge} (ho:ops[i]? =some o) (he:e∈o.after) (hb:Region.binds .any e=true):mV ops i e.on
 | trans {i j k:Nat} (h:mV ops i j) (h2:mV ops j k):mV ops i k
def zFf (ops:Array Oper) (listed:Array Bool):Prop:=∀ i,listed.getD i false=true→∀ o,ops[i]? =some o→∀ e∈o.after,Region.binds .any e=true→listed.getD e.on false=true
theorem mV.listed {listed:Array Bool} (hc:zFf ops listed):∀ {i j:Nat},mV ops i j→listed.getD i false=true→listed.getD j false=true
 | _,_, .edge ho he hb,hi=>hc _ hi _ ho _ he hb
 | _,_, .trans h h2,hi=>mV.listed hc h2 (mV.listed hc h hi)
theorem mV.ready {listed:Array Bool} (hc:zFf ops listed) {z:Nat} {o:Oper} (ho:ops[z]? =some o) (hr:∀ e∈o.after,Region.binds .any e=true→listed.getD e.on false=true):∀ {i j:Nat},mV ops i j→i=z→listed.getD j false=true
 | _,_, .edge ho' he hb,hi=>by
  subst hi
  rw [ho] at ho'
  injection ho' with ho'
  subst ho'
  exact hr _ he hb
 | _,_, .trans h h2,hi=>mV.listed hc h2 (mV.ready hc ho hr h hi)
structure zTe (ops:Array Oper) (p q:kP):Prop where
 ne:p.i≠q.i
 noedge:∀ e∈p.o.after,Region.binds .any e=true→e.on≠q.i
 rel:mV ops q.i p.i∨zFo ops p q
structure zOi (ops:Array Oper) (p:kP):Prop where
 at_:ops[p.i]? =some p.o
 nosel:∀ cs b,p.o.op≠.select cs b
 noself:∀ e∈p.o.after,Region.binds .any e=true→e.on≠p.i∧e.on<ops.size
def oE:Tr→List (kP × Tr)
 | .nil=> []
 | .st z t=> [(z,t)]
 | .alt t u=>oE t++oE u
def uP:Tr→List kP
 | .nil=> []
 | .st z t=>z::uP t
 | .alt t u=>uP t++uP u
def zDj:Tr→List Nat
 | .nil=> []
 | .st z _=> [z.i]
 | .alt t u=>zDj t++zDj u
def cov:Tr→Nat→Prop
 | .nil,_=>False
 | .st z t,i=>z.i=i∨cov t i
 | .alt t u,i=>cov t i∧cov u i
def zGR:Tr→Nat→Prop
 | .nil,n=>n=0
 | .st _ _,0=>False
 | .st _ t,n+1=>zGR t n
 | .alt t u,n=>zGR t n∧zGR u n
def zVb (t:Tr):Prop:=∀ p∈oE t,p.1.t= .ef
def okT (ops:Array Oper):List Nat→Tr→Prop
 | _, .nil=>True
 | H, .st z t=>(∀ q∈uP t,z.i≠q.i∧(∀ e∈z.o.after,Region.binds .any e=true→e.on≠q.i)∧(mV ops q.i z.i∨(z.t= .ef∧∃ h∈H,h=q.i∨mV ops q.i h)∨zFo ops z q))∧okT ops (zDj t) t
 | H, .alt t u=>zVb (.alt t u)∧okT ops H t∧okT ops H u
theorem cZ:∀ {t:Tr} {i:Nat},i∈zDj t↔∃ p∈oE t,p.1.i=i
 | .nil,i=>by simp [zDj,oE]
 | .st z t,i=>by simp [zDj,oE,eq_comm]
 | .alt t u,i=>by simp only [zDj,oE,List.mem_append,cZ (t:=t),cZ (t:=u)]; exact ⟨fun h=>h.elim (fun ⟨p,h1,h2⟩=>⟨p, .inl h1,h2⟩) fun ⟨p,h1,h2⟩=>⟨p, .inr h1,h2⟩,fun ⟨p,h1,h2⟩=>h1.elim (fun h=>.inl ⟨p,h,h2⟩) fun h=>.inr ⟨p,h,h2⟩⟩
theorem lK:∀ {t:Tr} {z:kP} {t':Tr},(z,t')∈oE t→z∈uP t∧∀ q∈uP t',q∈uP t
 | .nil,_,_,h=>by cases h
 | .st z t,_,_,h=>by
  simp only [oE,List.mem_singleton,Prod.mk.injEq] at h
  obtain ⟨rfl,rfl⟩:=h
  exact ⟨List.mem_cons_self ..,fun q hq=>List.mem_cons_of_mem _ hq⟩
 | .alt t u,z,t',h=>by
  rcases List.mem_append.1 h with h | h
  ·exact ⟨List.mem_append_left _ (lK h).1,fun q hq=>List.mem_append_left _ ((lK h).2 q hq)⟩
  ·exact ⟨List.mem_append_right _ (lK h).1,fun q hq=>List.mem_append_right _ ((lK h).2 q hq)⟩
theorem zJF:∀ {t:Tr} {z:kP} {t':Tr},(z,t')∈oE t→∀ {a:Act} {w:World},wpX P ops C Q t a w→wpX P ops C Q (.st z t') a w
 | .nil,_,_,h,_,_=>by cases h
 | .st z t,_,_,h,_,_=>by
  simp only [oE,List.mem_singleton,Prod.mk.injEq] at h
  obtain ⟨rfl,rfl⟩:=h
  exact fun h=>h
 | .alt t u,z,t',h,a,w=>by
  intro hk
  rcases List.mem_append.1 h with h | h
  ·exact zJF h hk.1
  ·exact zJF h hk.2
theorem aW:∀ {t:Tr} {z:kP} {t':Tr} {i:Nat},(z,t')∈oE t→cov t i→z.i=i∨cov t' i
 | .nil,_,_,_,h,_=>by cases h
 | .st z t,_,_,_,h,hc=>by
  simp only [oE,List.mem_singleton,Prod.mk.injEq] at h
  obtain ⟨rfl,rfl⟩:=h
  exact hc
 | .alt t u,z,t',i,h,hc=>by
  rcases List.mem_append.1 h with h | h
  ·exact aW h hc.1
  ·exact aW h hc.2
theorem zFh:∀ {t:Tr} {z:kP} {t':Tr} {n:Nat},(z,t')∈oE t→zGR t n→∃ m,n=m+1∧zGR t' m
 | .nil,_,_,_,h,_=>by cases h
 | .st z t,_,_,n,h,hc=>by
  simp only [oE,List.mem_singleton,Prod.mk.injEq] at h
  obtain ⟨rfl,rfl⟩:=h
  cases n with
  | zero=>exact hc.elim
  | succ n=>exact ⟨n,rfl,hc⟩
 | .alt t u,z,t',n,h,hc=>by
  rcases List.mem_append.1 h with h | h
  ·exact zFh h hc.1
  ·exact zFh h hc.2
theorem zCy:∀ {t:Tr} {z:kP} {t':Tr} {H:List Nat},(z,t')∈oE t→okT ops H t→(∀ q∈uP t',z.i≠q.i∧(∀ e∈z.o.after,Region.binds .any e=true→e.on≠q.i)∧(mV ops q.i z.i∨(z.t= .ef∧∃ h∈H,h=q.i∨mV ops q.i h)∨zFo ops z q))∧okT ops (zDj t') t'
 | .nil,_,_,_,h,_=>by cases h
 | .st z t,_,_,_,h,hc=>by
  simp only [oE,List.mem_singleton,Prod.mk.injEq] at h
  obtain ⟨rfl,rfl⟩:=h
  exact hc
 | .alt t u,z,t',_,h,hc=>by
  rcases List.mem_append.1 h with h | h
  ·exact zCy h hc.2.1
  ·exact zCy h hc.2.2
theorem zAh:∀ {t:Tr} {i:Nat},cov t i→∃ q∈uP t,q.i=i
 | .nil,_,h=>h.elim
 | .st z t,i,h=>by
  rcases h with h | h
  ·exact ⟨z,List.mem_cons_self ..,h⟩
  ·obtain ⟨q,h1,h2⟩:=zAh h
   exact ⟨q,List.mem_cons_of_mem _ h1,h2⟩
 | .alt t u,i,h=>by
  obtain ⟨q,h1,h2⟩:=zAh h.1
  exact ⟨q,List.mem_append_left _ h1,h2⟩
theorem zGJ:∀ {t:Tr},zGR t 0→∀ i,¬ cov t i
 | .nil,_,_,h=>h
 | .st z t,h,_,_=>h.elim
 | .alt t u,h,i,hc=>zGJ h.1 i hc.1
theorem zNR:∀ {t:Tr},zGR t 0→∀ {a:Act} {w w':World},wpX P ops C Q t a w→Ext w w'→Q a w'
 | .nil,_,_,_,_,h,he=>h _ he
 | .st z t,h,_,_,_,_,_=>h.elim
 | .alt t u,h,_,_,_,hk,he=>zNR h.1 hk.1 he
theorem zGh:∀ {t:Tr} {n:Nat},zGR t (n+1)→∃ p,p∈oE t
 | .nil,n,h=>by cases h
 | .st z t,n,_=>⟨(z,t),by simp [oE]⟩
 | .alt t u,n,h=>by
  obtain ⟨p,hp⟩:=zGh h.1
  exact ⟨p,List.mem_append_left _ hp⟩
structure zXe (ops:Array Oper) (xs:List kP) (t:Tr) (n:Nat) (listed:Array Bool):Prop where
 len:∃ m,zGR t m∧xs.length+m=n
 pw:xs.Pairwise (zTe ops)
 fr:∀ x∈xs,∀ q∈uP t,zTe ops x q
 ok:okT ops (zDj t) t
 ent:∀ p∈xs++uP t,zOi ops p
 sz:listed.size=ops.size
 all:∀ i,i<ops.size→listed.getD i false=true∨(∃ p∈xs,p.i=i)∨cov t i
 no:∀ p∈xs++uP t,listed.getD p.i true=false
 cl:zFf ops listed
theorem zDi {listed:Array Bool} {i:Nat} (hi:i<listed.size) (h1:listed.getD i false=true) (h2:listed.getD i true=false):False:=by
 simp only [Array.getD_eq_getD_getElem?] at h1 h2
 rw [Array.getElem?_eq_getElem hi] at h1 h2
 simp at h1 h2
 rw [h2] at h1
 cases h1
theorem zDP {listed:Array Bool} {z:Nat} {o:Oper} (hcl:zFf ops listed) (ho:ops[z]? =some o) (hr:∀ e∈o.after,Region.binds .any e=true→listed.getD e.on false=true):zFf ops (listed.setIfInBounds z true):=fun j hj oj hoj e hem hb=>by
 by_cases hjz:z=j
 ·subst hjz
  rw [ho] at hoj
  injection hoj with hoj
  subst hoj
  exact getD_set_true (hr e hem hb)
 ·rw [getD_set_ne _ hjz] at hj
  exact getD_set_true (hcl j hj oj hoj e hem hb)
theorem zJX {Q':Exit→Act→World→Prop} (hCE:∀ w w',C w→Ext w w'→C w') {z:kP} {o:Oper} {n:Nat} {listed:Array Bool} {a:Act} {w:World} {t:Tr} (ho:ops[z.i]? =some z.o) (hc:C w) (hstep:qR P ops C z a w (wpX P ops C Q t))
  (next:∀ a' w',C w'→wpX P ops C Q t a' w'→wpAny P .any ops Q' n (listed.setIfInBounds z.i true) a' w'):wpOp P ops Q' z.i (wpAny P .any ops Q' n (listed.setIfInBounds z.i true)) a w:=by
 unfold wpOp
 rw [ho]
 unfold qR at hstep
 simp only
 split
 ·rename_i hwz
  rw [if_pos hwz] at hstep
  left
  cases htz:z.t with
  | fl=>
   rw [htz] at hstep
   obtain ⟨v,hv,hk⟩:=hstep
   unfold Oper.wp
   rw [hv w hc]
   exact next _ _ hc hk
  | fx=>
   rw [htz] at hstep
   obtain ⟨v,hv,hk⟩:=hstep
   unfold Oper.wp
   rw [hv w (Ext.refl w)]
   exact next _ _ hc hk
  | qc=>
   rw [htz] at hstep
   obtain ⟨v,f,args,hv,hcalls,hk⟩:=hstep
   unfold Oper.wp
   rw [hv w hc]
   exact (hcalls w hc).mono fun e w'' he=>by
    obtain ⟨rfl,hext⟩:=he
    exact next _ _ (hCE _ _ hc hext) (bA hk hext)
  | ef=>
   rw [htz] at hstep
   exact zSH (fun a' w' hk=>next a' w' hk.1 hk.2) (hstep w (Ext.refl w))
 ·rename_i hwz
  rw [if_neg hwz] at hstep
  exact next _ _ hc hstep
theorem zCo {Q':Exit→Act→World→Prop} (hCE:∀ w w',C w→Ext w w'→C w') (hQ:∀ a w,Q a w→Q' .normal a w):∀ (n:Nat) (t:Tr) (xs:List kP) (listed:Array Bool) (a:Act) (w:World),zXe ops xs t n listed→C w→wpX P ops C Q (pre xs t) a w→wpAny P .any ops Q' n listed a w
  | 0,t,xs,listed,a,w,hw,hc,h=>by
    obtain ⟨m,hm,hlen⟩:=hw.len
    have hx:xs= []:=List.eq_nil_of_length_eq_zero (by omega)
    have hm0:m=0:=by omega
    subst hx
    subst hm0
    have h1:=zGJ hm
    refine ⟨?_,hQ _ _ (zNR hm h (Ext.refl w))⟩
    rw [List.eq_nil_iff_forall_not_mem]
    intro i hi
    obtain ⟨g1,o,ho,_⟩:=mem_ready.1 hi
    have hlt:=(Array.getElem?_eq_some_iff.1 ho).1
    rcases hw.all i hlt with h3 | ⟨p,hp,_⟩ | h3
    · exact zDi (by rw [hw.sz]; exact hlt) h3 g1
    · cases hp
    · exact h1 i h3
  | n+1,t,xs,listed,a,w,hw,hc,h=>by
    by_cases hq:∃ z t',t= .st z t'∧z.t≠.ef
    · obtain ⟨z, t', rfl, hz⟩ := hq
      have hok:=hw.ok
      have hfz:∀ q∈uP t',zTe ops z q:=fun q hq=>by
        obtain ⟨g1,g2,g3⟩:=hok.1 q hq
        refine ⟨g1,g2,?_⟩
        rcases g3 with g3 | g3 | g3
        · exact .inl g3
        · exact absurd g3.1 hz
        · exact .inr g3
      have hmem:∀ p,p∈(xs++ [z])++uP t'→p∈xs++uP (.st z t'):=fun p hp=>by
        simp only [List.mem_append,List.mem_singleton] at hp
        simp only [uP,List.mem_append,List.mem_cons]
        rcases hp with (hp | hp) | hp
        · exact .inl hp
        · exact .inr (.inl hp)
        · exact .inr (.inr hp)
      refine zCo hCE hQ (n+1) t' (xs++ [z]) listed a w ⟨?_,?_,?_,hok.2,fun p hp=>hw.ent p (hmem p hp),hw.sz,fun i hi=>?_,fun p hp=>hw.no p (hmem p hp),hw.cl⟩ hc (by rw [cD]; exact h)
      · obtain ⟨m, hm, hl⟩ := hw.len
        cases m with
        | zero=>exact hm.elim
        | succ m=>exact ⟨m,hm,by simp; omega⟩
      · refine List.pairwise_append.2 ⟨hw.pw, List.pairwise_singleton _ _, fun x hx y hy => ?_⟩
        simp only [List.mem_singleton] at hy
        subst hy
        exact hw.fr x hx _ (List.mem_cons_self ..)
      · intro x hx q hq
        rcases List.mem_append.1 hx with hx | hx
        · exact hw.fr x hx q (List.mem_cons_of_mem _ hq)
        · simp only [List.mem_singleton] at hx
          subst hx
          exact hfz q hq
      · rcases hw.all i hi with g | ⟨p, hp, g⟩ | g
        · exact .inl g
        · exact .inr (.inl ⟨p,List.mem_append_left _ hp,g⟩)
        · rcases g with g | g
          · exact .inr (.inl ⟨z,by simp,g⟩)
          · exact .inr (.inr g)
    · -- the oE write
      have hef:∀ p∈oE t,p.1.t= .ef:=by
        cases t with
        | nil=>intro p hp; cases hp
        | st z t'=>
          intro p hp
          simp only [oE,List.mem_singleton] at hp
          subst hp
          by_cases hz:z.t= .ef
          · exact hz
          · exact absurd ⟨z,t',rfl,hz⟩ hq
        | alt t u=>exact hw.ok.1
      have hinent:∀ p∈xs,zOi ops p:=fun p hp=>hw.ent p (List.mem_append_left _ hp)
      have hlt_of:∀ p,zOi ops p→p.i<ops.size:=fun p hp=>(Array.getElem?_eq_some_iff.1 hp.at_).1
      -- something is ready
      have first:∃ i,i∈Region.ready .any ops listed:=by
        have mk:∀ z:kP,z∈xs++uP t→(∀ e∈z.o.after,Region.binds .any e=true→∀ q,q∈xs→e.on≠q.i)→(∀ e∈z.o.after,Region.binds .any e=true→¬ cov t e.on)→z.i∈Region.ready .any ops listed:=fun z hz h1 h2=>by
          have hz0:=hw.ent z hz
          refine mem_ready.2 ⟨hw.no z hz,z.o,hz0.at_,fun e hem hb=>?_⟩
          obtain ⟨hn1,hn2⟩:=hz0.noself e hem hb
          rcases hw.all e.on hn2 with h3 | ⟨p,hp,hpi⟩ | h3
          · exact h3
          · exact absurd hpi.symm (h1 e hem hb p hp)
          · exact absurd h3 (h2 e hem hb)
        cases xs with
        | cons x0 r0=>
          refine ⟨x0.i,mk x0 (by simp) (fun e he hb q hq=>?_) (fun e he hb hcv=>?_)⟩
          · rcases List.mem_cons.1 hq with rfl | hq
            · exact ((hw.ent q (by simp)).noself e he hb).1
            · exact ((List.pairwise_cons.1 hw.pw).1 q hq).noedge e he hb
          · obtain ⟨q, hq1, hq2⟩ := zAh hcv
            exact (hw.fr x0 (by simp) q hq1).noedge e he hb hq2.symm
        | nil=>
          obtain ⟨m,hm,hl⟩:=hw.len
          simp at hl
          subst hl
          obtain ⟨⟨z,t'⟩,hzt⟩:=zGh hm
          have hz:=lK hzt
          refine ⟨z.i,mk z (by simpa using hz.1) (fun e he hb q hq=>by cases hq) (fun e he hb hcv=>?_)⟩
          rcases aW hzt hcv with h4 | h4
          · exact ((hw.ent z (by simpa using hz.1)).noself e he hb).1 h4.symm
          · obtain ⟨q, hq1, hq2⟩ := zAh h4
            exact ((zCy hzt hw.ok).1 q hq1).2.1 e he hb hq2.symm
      obtain ⟨i0,hi0⟩:=first
      refine ⟨(fun hn=>by rw [hn] at hi0; cases hi0),fun i hi=>?_⟩
      obtain ⟨h1,o,ho,hr⟩:=mem_ready.1 hi
      have hlt:=(Array.getElem?_eq_some_iff.1 ho).1
      have notPath:∀ p∈xs++uP t,¬ mV ops i p.i:=fun p hp hpath=>by
        have h5:=mV.ready hw.cl ho hr hpath rfl
        exact zDi (by rw [hw.sz]; exact hlt_of p (hw.ent p hp)) h5 (hw.no p hp)
      rcases hw.all i hlt with h2 | ⟨z,hz,hzi⟩ | h2
      · exact (zDi (by rw [hw.sz]; exact hlt) h2 h1).elim
      · -- one that reads
        subst hzi
        obtain ⟨l,r,hs⟩:=List.append_of_mem hz
        subst hs
        have hpw:=List.pairwise_append.1 hw.pw
        have hzok:=hinent z hz
        have hov:∀ x∈l,zFo ops x z∧∀ cs b,x.o.op≠.select cs b:=fun x hx=>by
          refine ⟨?_,(hinent x (List.mem_append_left _ hx)).nosel⟩
          rcases (hpw.2.2 x hx z (List.mem_cons_self ..)).rel with hp | hp
          · exact absurd hp (notPath x (by simp [hx]))
          · exact hp
        have hpre:pre (l++z::r) t=pre l (.st z (pre r t)):=cD l (z::r) t
        rw [hpre] at h
        have hstep:=zVt hzok.nosel l a w hov h
        rw [←cD] at hstep
        have hsub:(l++r).Sublist (l++z::r):=List.Sublist.append_left (List.sublist_cons_self _ _) _
        have hne:∀ p∈(l++r)++uP t,p.i≠z.i:=fun p hpm=>by
          rcases List.mem_append.1 hpm with hpm | hpm
          · rcases List.mem_append.1 hpm with h2 | h2
            · exact (hpw.2.2 p h2 z (List.mem_cons_self ..)).ne
            · exact fun e=>((List.pairwise_cons.1 hpw.2.1).1 p h2).ne e.symm
          · exact fun e=>(hw.fr z hz p hpm).ne e.symm
        have hin:∀ p∈(l++r)++uP t,p∈(l++z::r)++uP t:=fun p hp=>by
          rcases List.mem_append.1 hp with hp | hp
          · exact List.mem_append_left _ (hsub.subset hp)
          · exact List.mem_append_right _ hp
        refine zJX (o:=z.o) hCE hzok.at_ hc hstep fun a' w' hc' hk=>zCo hCE hQ n t (l++r) _ a' w' ⟨?_,hw.pw.sublist hsub,fun x hx=>hw.fr x (hsub.subset hx),hw.ok,fun p hp=>hw.ent p (hin p hp),by simpa using hw.sz,fun j hj=>?_,fun p hp=>?_,zDP hw.cl hzok.at_ (by
          have hoo:o=z.o:=by
            have:=hzok.at_
            rw [ho] at this
            injection this
          subst hoo
          exact hr)⟩ hc' hk
        · obtain ⟨m, hm, hl⟩ := hw.len
          exact ⟨m,hm,by simp at hl ⊢; omega⟩
        · by_cases hjz : z.i = j
          · left
            subst hjz
            simp [Array.getD_eq_getD_getElem?,hw.sz,hj]
          · rcases hw.all j hj with g | ⟨p, hp, g⟩ | g
            · left; rw [getD_set_ne _ hjz]; exact g
            · right; left
              refine ⟨p,?_,g⟩
              rcases List.mem_append.1 hp with h3 | h3
              · exact List.mem_append_left _ h3
              · rcases List.mem_cons.1 h3 with rfl | h3
                · exact absurd g hjz
                · exact List.mem_append_right _ h3
            · exact .inr (.inr g)
        · rw [getD_set_ne _ (fun e => hne p hp e.symm)]
          exact hw.no p (hin p hp)
      · -- one that writes
        have hhead:∃ p∈oE t,p.1.i=i:=by
          obtain ⟨m,hm,hl⟩:=hw.len
          have hm1:∃ k,m=k+1:=by
            cases m with
            | zero=>exact absurd h2 (zGJ hm i)
            | succ k=>exact ⟨k,rfl⟩
          obtain ⟨k,rfl⟩:=hm1
          obtain ⟨⟨z1,t1⟩,hz1⟩:=zGh hm
          rcases aW hz1 h2 with h3 | h3
          · exact ⟨_,hz1,h3⟩
          · obtain ⟨q, hq1, hq2⟩ := zAh h3
            obtain ⟨_,_,g3⟩:=(zCy hz1 hw.ok).1 q hq1
            rcases g3 with g3 | g3 | g3
            · rw [hq2] at g3
              exact absurd g3 (notPath z1 (List.mem_append_right _ (lK hz1).1))
            · obtain ⟨h, hh, h4 | h4⟩ := g3.2
              · rw [← hq2, ← h4]
                exact cZ.1 hh
              · obtain ⟨⟨zz, tt⟩, hp, hpi⟩ := cZ.1 hh
                simp only at hpi
                rw [hq2,←hpi] at h4
                exact absurd h4 (notPath zz (List.mem_append_right _ (lK hp).1))
            · exact absurd (hef _ hz1) g3.noef
        obtain ⟨⟨z,t'⟩,hzt,hzi⟩:=hhead
        simp only at hzi
        subst hzi
        have hze:=lK hzt
        have hzok:=hw.ent z (List.mem_append_right _ hze.1)
        have hov:∀ x∈xs,zFo ops x z∧∀ cs b,x.o.op≠.select cs b:=fun x hx=>by
          refine ⟨?_,(hinent x hx).nosel⟩
          rcases (hw.fr x hx z hze.1).rel with hp | hp
          · exact absurd hp (notPath x (List.mem_append_left _ hx))
          · exact hp
        have hstep:=zVt hzok.nosel xs a w hov (zLg (fun a w hk=>zJF hzt hk) xs a w h)
        have hzc:=zCy hzt hw.ok
        have hne:∀ p∈xs++uP t',p.i≠z.i:=fun p hp=>by
          rcases List.mem_append.1 hp with hp | hp
          · exact (hw.fr p hp z hze.1).ne
          · exact fun e=>(hzc.1 p hp).1 e.symm
        have hin:∀ p∈xs++uP t',p∈xs++uP t:=fun p hp=>by
          rcases List.mem_append.1 hp with hp | hp
          · exact List.mem_append_left _ hp
          · exact List.mem_append_right _ (hze.2 p hp)
        refine zJX (o:=z.o) hCE hzok.at_ hc hstep fun a' w' hc' hk=>zCo hCE hQ n t' xs _ a' w' ⟨?_,hw.pw,fun x hx q hq=>hw.fr x hx q (hze.2 q hq),hzc.2,fun p hp=>hw.ent p (hin p hp),by simpa using hw.sz,fun j hj=>?_,fun p hp=>?_,zDP hw.cl hzok.at_ (by
          have hoo:o=z.o:=by
            have:=hzok.at_
            rw [ho] at this
            injection this
          subst hoo
          exact hr)⟩ hc' hk
        · obtain ⟨m, hm, hl⟩ := hw.len
          obtain ⟨k,rfl,hk⟩:=zFh hzt hm
          exact ⟨k,hk,by omega⟩
        · by_cases hjz : z.i = j
          · left
            subst hjz
            simp [Array.getD_eq_getD_getElem?,hw.sz,hj]
          · rcases hw.all j hj with g | g | g
            · left; rw [getD_set_ne _ hjz]; exact g
            · exact .inr (.inl g)
            · rcases aW hzt g with g | g
              · exact absurd g hjz
              · exact .inr (.inr g)
        · rw [getD_set_ne _ (fun e => hne p hp e.symm)]
          exact hw.no p (hin p hp)
  termination_by n t=>(n,SizeOf.sizeOf t)
end
end Go.Proofs.YtplchdlgdjcojaaGreatDoor
end
section
namespace Go.Proofs.YtplchdlgdjcojaaGreatDoor
open Go
set_option linter.unusedSectionVars false
set_option linter.unusedVariables false
def zLi:List (Nat × Nat)→Nat→Nat
 | [],_=>0
 | x::r,i=>bif Nat.beq x.1 i then x.2 else zLi r i
def cC (tbl:List (Nat × Nat)):List Nat→Nat
 | []=>0
 | e::r=>(2 ^ e|||zLi tbl e)|||cC tbl r
def zMN:Tg→Tg→Bool
 | .ef,_=>false
 | .fx, .ef=>false
 | _,_=>true
def zQo:Tg→Bool
 | .ef=>true
 | _=>false
def zRr (m i:Nat):List Nat→Bool
 | []=>false
 | h::r=>bif Nat.beq h i then true else bif m.testBit h then true else zRr m i r
theorem zIq {m i:Nat}:∀ {l:List Nat},zRr m i l=true→∃ h∈l,h=i∨m.testBit h=true
 | [],h=>by simp [zRr] at h
 | x::r,h=>by
  simp only [zRr] at h
  cases h1:Nat.beq x i
  ·simp only [h1,cond_false] at h
   cases h2:m.testBit x
   ·simp only [h2,cond_false] at h
    obtain ⟨y,hy,h3⟩:=zIq h
    exact ⟨y,List.mem_cons_of_mem _ hy,h3⟩
   ·exact ⟨x,List.mem_cons_self .., .inr h2⟩
  ·exact ⟨x,List.mem_cons_self .., .inl (Nat.eq_of_beq_eq_true h1)⟩
def zMJ (ops:Array Oper) (m:Nat) (p:kP × List Nat) (z:kP):Bool:=bif m.testBit p.1.i then true else bif zQo p.1.t then zRr m z.i p.2 else bif p.1.o.apart ops z.o then zMN p.1.t z.t else false
def zKQ {α:Type} (f:α→Bool):List α→Bool
 | []=>true
 | x::r=>bif f x then zKQ f r else false
theorem zAz {α:Type} {f:α→Bool}:∀ {l:List α},zKQ f l=true→∀ x∈l,f x=true
 | [],_,_,h=>by cases h
 | y::r,h,x,hx=>by
  simp only [zKQ] at h
  cases hb:f y
  ·simp [hb] at h
  ·simp only [hb,cond_true] at h
   cases hx with
   | head=>exact hb
   | tail _ hx=>exact zAz h x hx
def eK:Tr→Bool
 | .nil=>true
 | .st z _=>zQo z.t
 | .alt t u=>bif eK t then eK u else false
theorem cW:∀ {t:Tr},eK t=true→zVb t
 | .nil,_=>fun p hp=>by cases hp
 | .st z t,h=>fun p hp=>by
  simp only [oE,List.mem_singleton] at hp
  subst hp
  simp only [eK] at h
  cases hz:z.t <;> simp_all [zQo]
 | .alt t u,h=>fun p hp=>by
  simp only [eK] at h
  cases ht:eK t <;> simp only [ht,cond_true,cond_false] at h <;> try cases h
  rcases List.mem_append.1 hp with hp | hp
  ·exact cW ht p hp
  ·exact cW h p hp
def zGQ (ops:Array Oper):Tr→List Nat→List (kP × List Nat)→List (Nat × Nat)→Nat→Nat→Bool
 | .nil,_,_,_,done,k=>bif Nat.beq k ops.size then zKQ (fun i=>done.testBit i) (List.range ops.size) else false
 | .st z r,H,prev,tbl,done,k=>
  bif zKQ (fun e=>done.testBit e) (sY z.o) then bif done.testBit z.i then false else bif zIJ z.o.op then
   bif zKQ (fun p=>zMJ ops (cC tbl (sY z.o)) p z) prev then zGQ ops r (zDj r) ((z,H)::prev) ((z.i,cC tbl (sY z.o))::tbl) (done|||2 ^ z.i) (k+1) else false else false else false
 | .alt t u,H,prev,tbl,done,k=>bif eK (.alt t u) then bif zGQ ops t H prev tbl done k then zGQ ops u H prev tbl done k else false else false
theorem zFy {ops:Array Oper}:∀ {tbl:List (Nat × Nat)},(∀ x∈tbl,∀ j,x.2.testBit j=true→mV ops x.1 j)→∀ i j,(zLi tbl i).testBit j=true→mV ops i j
 | [],_,i,j,h=>by simp [zLi] at h
 | x::r,ht,i,j,h=>by
  simp only [zLi] at h
  cases hb:Nat.beq x.1 i
  ·simp only [hb,cond_false] at h
   exact zFy (fun y hy=>ht y (List.mem_cons_of_mem _ hy)) i j h
  ·simp only [hb,cond_true] at h
   have:=Nat.eq_of_beq_eq_true hb
   rw [←this]
   exact ht x (List.mem_cons_self ..) j h
theorem zDQ {ops:Array Oper} {tbl:List (Nat × Nat)} (ht:∀ x∈tbl,∀ j,x.2.testBit j=true→mV ops x.1 j) {i:Nat}:∀ (es:List Nat),(∀ e∈es,mV ops i e)→∀ j,(cC tbl es).testBit j=true→mV ops i j
 | [],_,j,h=>by simp [cC] at h
 | e::r,he,j,h=>by
  simp only [cC,Nat.testBit_or,Bool.or_eq_true] at h
  rcases h with (h | h) | h
  ·rw [Nat.testBit_two_pow] at h
   simp only [decide_eq_true_eq] at h
   subst h
   exact he _ (List.mem_cons_self ..)
  ·exact (he e (List.mem_cons_self ..)).trans (zFy ht e j h)
  ·exact zDQ ht r (fun x hx=>he x (List.mem_cons_of_mem _ hx)) j h
theorem zLj {p z:Tg} (h:zMN p z=true):p≠.ef∧(z= .ef→p≠.fx):=by
 cases p <;> cases z <;> simp_all [zMN]
theorem zEB {ops:Array Oper}:∀ (r:Tr) (H:List Nat) (prev:List (kP × List Nat)) (tbl:List (Nat × Nat)) (done k:Nat),(∀ z∈uP r,ops[z.i]? =some z.o)→(∀ z∈prev,ops[z.1.i]? =some z.1.o)→(∀ x∈tbl,∀ j,x.2.testBit j=true→mV ops x.1 j)→(∀ j,done.testBit j=true↔∃ p∈prev,p.1.i=j)→
  zGQ ops r H prev tbl done k=true→okT ops H r∧(∀ p∈prev,∀ q∈uP r,p.1.i≠q.i∧(mV ops q.i p.1.i∨(p.1.t= .ef∧∃ h∈p.2,h=q.i∨mV ops q.i h)∨zFo ops p.1 q))∧(∀ p∈uP r,zOi ops p)∧(∀ i,i<ops.size→(∃ p∈prev,p.1.i=i)∨cov r i)∧∃ m,zGR r m∧k+m=ops.size
 | .nil,H,prev,tbl,done,k,hr,hp,ht,hd,h=>by
  simp only [zGQ] at h
  cases h0:Nat.beq k ops.size <;> simp only [h0,cond_true,cond_false] at h <;> try cases h
  refine ⟨trivial,(fun _ _ _ h=>by cases h),(fun _ h=>by cases h),fun i hi=>?_,0,rfl,Nat.eq_of_beq_eq_true h0⟩
  exact .inl ((hd i).1 (zAz h i (List.mem_range.2 hi)))
 | .alt t u,H,prev,tbl,done,k,hr,hp,ht,hd,h=>by
  simp only [zGQ] at h
  cases h1:eK (.alt t u) <;> simp only [h1,cond_true,cond_false] at h <;> try cases h
  cases h2:zGQ ops t H prev tbl done k <;> simp only [h2,cond_true,cond_false] at h <;> try cases h
  obtain ⟨a1,a2,a3,a4,m1,a5,a6⟩:=zEB t H prev tbl done k (fun z hz=>hr z (List.mem_append_left _ hz)) hp ht hd h2
  obtain ⟨b1,b2,b3,b4,m2,b5,b6⟩:=zEB u H prev tbl done k (fun z hz=>hr z (List.mem_append_right _ hz)) hp ht hd h
  have hm:m1=m2:=by omega
  subst hm
  refine ⟨⟨cW h1,a1,b1⟩,fun p hpm q hq=>?_,fun p hpm=>?_,fun i hi=>?_,m1,⟨a5,b5⟩,a6⟩
  ·rcases List.mem_append.1 hq with hq | hq
   ·exact a2 p hpm q hq
   ·exact b2 p hpm q hq
  ·rcases List.mem_append.1 hpm with hpm | hpm
   ·exact a3 p hpm
   ·exact b3 p hpm
  ·rcases a4 i hi with h3 | h3
   ·exact .inl h3
   ·rcases b4 i hi with h4 | h4
    ·exact .inl h4
    ·exact .inr ⟨h3,h4⟩
 | .st z r,H,prev,tbl,done,k,hr,hp,ht,hd,h=>by
  simp only [zGQ] at h
  cases h1:zKQ (fun e=>done.testBit e) (sY z.o) <;> simp only [h1,cond_true,cond_false] at h <;> try cases h
  cases h2:done.testBit z.i <;> simp only [h2,cond_true,cond_false] at h <;> try cases h
  cases h3:zIJ z.o.op <;> simp only [h3,cond_true,cond_false] at h <;> try cases h
  cases h4:zKQ (fun p=>zMJ ops (cC tbl (sY z.o)) p z) prev <;> simp only [h4,cond_true,cond_false] at h <;> try cases h
  have hzo:=hr z (List.mem_cons_self ..)
  have hmask:∀ j,(cC tbl (sY z.o)).testBit j=true→mV ops z.i j:=zDQ ht _ fun e he=>by
   obtain ⟨e',he',hb,rfl⟩:=eJ.1 he
   exact .edge hzo he' hb
  have hedge:∀ e∈z.o.after,Region.binds .any e=true→∃ p∈prev,p.1.i=e.on:=fun e he hb=>(hd _).1 (zAz h1 _ (eJ.2 ⟨e,he,hb,rfl⟩))
  have hzn:¬ ∃ p∈prev,p.1.i=z.i:=fun hc=>by
   have:=(hd _).2 hc
   rw [h2] at this
   cases this
  obtain ⟨g1,g2,g3,g4,m,g5,g6⟩:=zEB r (zDj r) ((z,H)::prev) _ _ _ (fun y hy=>hr y (List.mem_cons_of_mem _ hy)) (fun y hy=>by
    rcases List.mem_cons.1 hy with rfl | hy
    ·exact hzo
    ·exact hp y hy) (fun x hx j hj=>by
    rcases List.mem_cons.1 hx with rfl | hx
    ·exact hmask j hj
    ·exact ht x hx j hj) (fun j=>by
    simp only [Nat.testBit_or,Bool.or_eq_true,hd,Nat.testBit_two_pow,decide_eq_true_eq,List.mem_cons,exists_eq_or_imp]
    exact ⟨fun hh=>hh.elim (fun h=>.inr h) fun h=>.inl h,fun hh=>hh.elim (fun h=>.inr h) fun h=>.inl h⟩) h
  have hpz:∀ p∈prev,p.1.i≠z.i∧(mV ops z.i p.1.i∨(p.1.t= .ef∧∃ h∈p.2,h=z.i∨mV ops z.i h)∨zFo ops p.1 z):=fun p hpm=>by
   refine ⟨fun e=>hzn ⟨p,hpm,e⟩,?_⟩
   have h5:=zAz h4 p hpm
   unfold zMJ at h5
   cases hm:(cC tbl (sY z.o)).testBit p.1.i
   ·simp only [hm,cond_false] at h5
    cases he:zQo p.1.t
    ·simp only [he,cond_false] at h5
     cases ha:p.1.o.apart ops z.o
     ·simp [ha] at h5
     ·simp only [ha,cond_true] at h5
      have:=zLj h5
      exact .inr (.inr ⟨ha,this.1,this.2⟩)
    ·simp only [he,cond_true] at h5
     have hex:∃ h∈p.2,h=z.i∨mV ops z.i h:=by
      obtain ⟨h,hh,h6⟩:=zIq h5
      exact ⟨h,hh,h6.elim .inl fun h6=>.inr (hmask _ h6)⟩
     refine .inr (.inl ⟨?_,hex⟩)
     cases ht:p.1.t <;> simp_all [zQo]
   ·exact .inl (hmask _ hm)
  refine ⟨⟨fun q hq=>?_,g1⟩,fun p hpm q hq=>?_,fun p hpm=>?_,fun i hi=>?_,m+1,g5,by omega⟩
  ·have h5:=g2 (z,H) (List.mem_cons_self ..) q hq
   refine ⟨h5.1,fun e he hb hc=>?_,h5.2⟩
   obtain ⟨p,hpm,hpi⟩:=hedge e he hb
   exact (g2 p (List.mem_cons_of_mem _ hpm) q hq).1 (hpi.trans hc)
  ·rcases List.mem_cons.1 hq with rfl | hq
   ·exact hpz p hpm
   ·exact g2 p (List.mem_cons_of_mem _ hpm) q hq
  ·rcases List.mem_cons.1 hpm with rfl | hpm
   ·refine ⟨hzo,(fun cs b hop=>by rw [hop] at h3; cases h3),fun e he hb=>?_⟩
    obtain ⟨q,hqm,hqi⟩:=hedge e he hb
    refine ⟨fun hc=>hzn ⟨q,hqm,hqi.trans hc⟩,?_⟩
    rw [←hqi]
    exact (Array.getElem?_eq_some_iff.1 (hp q hqm)).1
   ·exact g3 p hpm
  ·rcases g4 i hi with ⟨p,hpm,hpi⟩ | h5
   ·rcases List.mem_cons.1 hpm with rfl | hpm
    ·exact .inr (.inl hpi)
    ·exact .inl ⟨p,hpm,hpi⟩
   ·exact .inr (.inr h5)
inductive ITr where
 | nil
 | st (t:Tg) (i:Nat) (r:ITr)
 | alt (t u:ITr)
def iL:List (Tg × Nat)→ITr→ITr
 | [],t=>t
 | x::r,t=>.st x.1 x.2 (iL r t)
def fY (l:List Oper):ITr→Tr
 | .nil=>.nil
 | .st g i r=>match l[i]? with
  | some o=>.st ⟨g,i,o⟩ (fY l r)
  | none=>fY l r
 | .alt t u=>.alt (fY l t) (fY l u)
theorem dJ (l:List Oper):∀ (tg:ITr),∀ z∈uP (fY l tg),l.toArray[z.i]? =some z.o
 | .nil,z,h=>by cases h
 | .st g i r,z,h=>by
  simp only [fY] at h
  split at h
  ·rename_i o ho
   rcases List.mem_cons.1 h with rfl | h
   ·simpa using ho
   ·exact dJ l r z h
  ·exact dJ l r z h
 | .alt t u,z,h=>by
  rcases List.mem_append.1 h with h | h
  ·exact dJ l t z h
  ·exact dJ l u z h
theorem zKH {P:Program} {Q:Exit→Act→World→Prop} {C:World→Prop} {id:Nat} {l:List Oper} {a:Act} {w:World} (tg:ITr) (hm:P.follows .mixedOrders=true) (hB:zGQ l.toArray (fY l tg) (zDj (fY l tg)) [] [] 0 0=true) (hCE:∀ w w',C w→Ext w w'→C w') (hC:C { w with drawn:=w.drawn+1 })
  (h:wpX P l.toArray C (Q .normal) (fY l tg) a { w with drawn:=w.drawn+1 }):(Code.region id l.toArray true).wp P Q a w:=by
 obtain ⟨g1,_,g3,g4,m,g5,g6⟩:=zEB (fY l tg) _ [] [] 0 0 (dJ l tg) (fun _ h=>by cases h) (fun _ h=>by cases h) (fun j=>by simp) hB
 refine wp_region_any hm ?_
 refine zCo (P:=P) (C:=C) (Q:=Q .normal) (Q':=Q) hCE (fun _ _ h=>h) l.toArray.size (fY l tg) [] (Array.replicate l.toArray.size false) a { w with drawn:=w.drawn+1 } ⟨⟨m,g5,by simpa using g6⟩,List.Pairwise.nil,(fun _ h=>by cases h),g1,(fun p hp=>g3 p (by simpa using hp)),(by simp),(fun i hi=>.inr ?_),(fun p hp=>?_),(fun i hi=>?_)⟩ hC h
 ·rcases g4 i hi with ⟨p,hp,_⟩ | h1
  ·cases hp
  ·exact .inr h1
 ·have:=(Array.getElem?_eq_some_iff.1 (dJ l tg p (by simpa using hp))).1
  simp only [List.size_toArray] at this
  simp [Array.getD_eq_getD_getElem?,this]
 ·simp only [Array.getD_eq_getD_getElem?] at hi
  by_cases h:i<l.length
  ·simp [h] at hi
  ·simp [h] at hi
section
variable {P:Program} [T:HasTT P] {w0:World} {nt:Nat} {Γ Γ':Env} {F F' F₀ F₁ G R:List As} {Q:Exit→Act→World→Prop} {ops:Array Oper} {rest:Tr} {Qn:Act→World→Prop} {C:World→Prop}
variable {d i:Nat} {op:Op} {ty:Nat} {pos:String} {af:Array Edge}
theorem St.regionX {id:Nat} {l:List Oper} (tg:ITr) (F₀:List As) (hm:P.follows .mixedOrders=true) (hB:zGQ l.toArray (fY l tg) (zDj (fY l tg)) [] [] 0 0=true) (hF:∀ w,Sat F w→Sat F₀ w)
  (h:St w0 nt Γ F (wpX P l.toArray (Sat F₀) (Q .normal) (fY l tg))):St w0 nt Γ F ((Code.region id l.toArray true).wp P Q):=
 fun a w hs hd ha hf hw=>zKH tg hm hB (fun _ _ h he=>h.ext he) ((hF w hf).ext (Ext.drew w)) (h a w.drew hs hd ha (hf.ext (Ext.drew w)) (hw.trans (Ext.drew w).toSame))
def Rd (P:Program) (F:List As) (Γ:Env) (op:Op) (v:Value):Prop:=∀ (a:Act) (w:World) (d:Option Nat) (ty:Nat) (pos:String) (af:Array Edge) (g:Option (Nat × Bool)),At a Γ→Sat F w→(execOp a.eval ⟨d,op,ty,pos,af,g⟩).run P w= .ok (.value v) w
theorem St.xfl {v:Value} (hc:∀ w,C w→Sat F₁ w) (hr:Rd P F₁ Γ op v) (hd:Nat.blt d nt=true) (k:St w0 nt ((d,v)::Γ) F (wpX P ops C Qn rest)):St w0 nt Γ F (wpX P ops C Qn (.st ⟨.fl,i,⟨some d,op,ty,pos,af,none⟩⟩ rest)):=
 fun a w hs hdf ha hf hw=>by
  show qR P ops C _ a _ _
  unfold qR
  rw [if_pos (xO rfl _)]
  exact ⟨v,fun w' hcw=>hr a w' _ _ _ _ _ ha (hc w' hcw),k _ w (by simp [Act.put,hs]) hdf (ha.put (hs▸Nat.le_of_ble_eq_true hd)) hf hw⟩
theorem St.xfx {v:Value} (hr:Rd P F Γ op v) (hd:Nat.blt d nt=true) (k:St w0 nt ((d,v)::Γ) F (wpX P ops C Qn rest)):St w0 nt Γ F (wpX P ops C Qn (.st ⟨.fx,i,⟨some d,op,ty,pos,af,none⟩⟩ rest)):=
 fun a w hs hdf ha hf hw=>by
  show qR P ops C _ a _ _
  unfold qR
  rw [if_pos (xO rfl _)]
  exact ⟨v,fun w' he=>hr a w' _ _ _ _ _ ha (hf.ext he),k _ w (by simp [Act.put,hs]) hdf (ha.put (hs▸Nat.le_of_ble_eq_true hd)) hf hw⟩
theorem zWi {o:Oper} {a:Act} {w0' w:World} (hg:o.guard=none) (h1:wpList P ops (fun e a w=>e= .normal∧C w∧wpX P ops C Qn rest a w) [o] a w):o.wp P a w (fun a' w''=>C w''∧wpX P ops C Qn rest a' w'') NoQ:=by
 unfold wpList at h1
 rw [if_pos (xO hg _)] at h1
 rcases h1 with h1 | ⟨_,a',w',h2,_⟩
 ·unfold Oper.wp at*
  generalize (execOp a.eval o).run P w=r at*
  cases r with
  | ok n w'=>
   cases n <;> simp only [Oper.upon,wpList] at h1 ⊢
   case value v=>exact h1.2
   case skip=>exact h1.2
   case defer d=>exact h1.2
   case enter f args=>
    refine h1.mono fun e w'' he=>?_
    cases e with
    | returned v=>exact he.2
    | panicked ch=>exact (by cases he.1)
    | outgrown=>obtain ⟨_,_,hf,_⟩:=he; cases hf
   case row r args=>exact h1.mono fun v w'' hv=>hv.2
  | halt x w'=>
   cases x <;> simp only [Oper.upon] at h1 ⊢
   cases h1.1
 ·cases h2
theorem St.xef {dst:Option Nat} (h:St w0 nt Γ F (wpList P ops (fun e a w=>e= .normal∧C w∧wpX P ops C Qn rest a w) [⟨dst,op,ty,pos,af,none⟩])):St w0 nt Γ F (wpX P ops C Qn (.st ⟨.ef,i,⟨dst,op,ty,pos,af,none⟩⟩ rest)):=
 fun a w0' hs hdf ha hf hw=>by
  show qR P ops C _ a _ _
  unfold qR
  rw [if_pos (xO rfl _)]
  intro w hew
  exact zWi (w0':=w0') rfl (h a w hs hdf ha (hf.ext hew) (hw.trans hew.toSame))
theorem St.xk (hC:∀ w,Sat F w→C w) (k:St w0 nt Γ F (wpX P ops C Qn rest)):St w0 nt Γ F (wpList P ops (fun e a w=>e= .normal∧C w∧wpX P ops C Qn rest a w) []):=
 St.done fun a w hs hdf ha hf hw=>⟨rfl,hC w hf,k a w hs hdf ha hf hw⟩
theorem St.xdone (k:St w0 nt Γ F Qn):St w0 nt Γ F (wpX P ops C Qn .nil):=fun a w hs hdf ha hf hw w' he=>k a w' hs hdf ha (hf.ext he) (hw.trans he.toSame)
theorem St.xqc {f:FuncId} {args:List Value} {Gs:List As} {v:Value} {x:Operand} {xs:List Operand} {ts:Array Nat} (hc:∀ w,C w→Sat F₁ w) (h:Fun P f args Gs (Val v)) (he:Ent P f) (hd:Nat.blt d nt=true) (hx:ev Γ x=some (.func (.func f) #[] #[])) (hxs:evs Γ xs=some args)
  (hro:nP Gs=true) (hin:nO Gs F₁) (k:St w0 nt ((d,v)::Γ) F (wpX P ops C Qn rest)):
  St w0 nt Γ F (wpX P ops C Qn (.st ⟨.qc,i,⟨some d, .call { callee:=.value x,args:=xs.toArray,argTypes:=ts },ty,pos,af,none⟩⟩ rest)):=
 fun a w hs hdf ha hf hw=>by
  show qR P ops C _ a _ _
  unfold qR
  rw [if_pos (xO rfl _)]
  exact ⟨v,f,args.toArray,fun w' hcw=>zAN he (ha.eval hx) (ha.evals hxs) w' _ _,fun w' hcw=>h.quiet hro hin (hc w' hcw),k _ w (by simp [Act.put,hs]) hdf (ha.put (hs▸Nat.le_of_ble_eq_true hd)) hf hw⟩
theorem Rd.p {v:Value} (hv:pev T.tt Γ op=some v):Rd P F Γ op v:=fun a w d ty pos af g ha _=>zNV T.ok ha (o:=⟨d,op,ty,pos,af,g⟩) hv w
theorem Rd.loadB {t:Nat} {x:Operand} {g t':Nat} (off:Nat) {p:Nat} {cs:List Value} {v:Value} (hx:ev Γ x=some (.pointer (some ⟨g,p,none⟩))) (hm:As.res (Box g t' cs)∈F) (hp:p=off) (hv:pP T.tt t cs off=some v):Rd P F Γ (.load t x) v:=
  fun a w d ty pos af gg ha hf=>by
    exact qW (P:=P) (a:=a) (x:=x) (b:=g) (o:=0) (off:=off) T.ok (by rw [ha.eval hx,hp,Nat.zero_add]) hv (w:=w) (fun i u hu=>by
      rw [Nat.zero_add]
      exact Box.cell (hf.res hm) hu) _ _
theorem Rd.load {t:Nat} {x:Operand} {b p:Nat} (o:Nat) (off:Nat) {cs:List Value} {v:Value} (hx:ev Γ x=some (.pointer (some ⟨b,p,none⟩))) (hm:As.ro (hM b o cs)∈F) (hp:p=o+off) (hv:pP T.tt t cs off=some v):Rd P F Γ (.load t x) v:=
 fun a w d ty pos af gg ha hf=>qW (P:=P) (a:=a) (x:=x) T.ok (by rw [ha.eval hx,hp]) hv (w:=w) (fun i u hu=>by
  have:=hf.ro_hp hm i u hu
  rw [zAc] at this
  exact this) _ _
theorem St.openA {X:Act→World→Prop} {α:Type} {E:Enc α} {A:Option Addr} {c:Nat} {xs:List α} {q:Int} {y:α} (hm:As.ro (SlL E A c xs)∈F) (hy:elt xs q=some y) (k:∀ b o,(∃ oA,A=some ⟨b,oA,none⟩∧o=oA+q.toNat*E.sz)→St w0 nt Γ F X):St w0 nt Γ F X:=
  fun a w hs hdf ha hf hw=>by
    obtain ⟨h0,h1,h2⟩:=uT hy
    have hsl:=hf.ro_hp hm
    cases A with
    | none=>
      have:=hsl.2.2.1 rfl
      subst this
      simp at h2
    | some ad=>
      obtain ⟨hspot,_⟩:=hsl.2.2.2 ad rfl _ _ h2
      obtain ⟨b,o,s⟩:=ad
      simp only at hspot
      subst hspot
      exact k b _ ⟨o,rfl,rfl⟩ a w hs hdf ha hf hw
theorem Sat.addC {α:Type} {E:Enc α} {A:Option Addr} {c:Nat} {xs:List α} {q:Int} {y:α} {b o:Nat} {w:World} (hA:∃ oA,A=some ⟨b,oA,none⟩∧o=oA+q.toNat*E.sz) (hm:As.ro (SlL E A c xs)∈F) (hy:elt xs q=some y) (hf:Sat F w):Sat (.ro (hM b o (E.enc y))::F) w:=by
 obtain ⟨oA,rfl,rfl⟩:=hA
 obtain ⟨h0,h1,h2⟩:=uT hy
 refine hf.add_ro _ ?_
 obtain ⟨_,cs,hrel,hc⟩:=(hf.ro hm).2.2.2 _ rfl _ _ h2
 have:cs=E.enc y:=hrel
 subst this
 exact hc
theorem Rd.ixL {α:Type} {E:Enc α} {t e:Nat} {i j:TI} {x ix:Operand} {A:Option Addr} {n c:Nat} {kk:IntKind} {q:Int} {xs:List α} {y:α} {b o:Nat} (hA:∃ oA,A=some ⟨b,oA,none⟩∧o=oA+q.toNat*E.sz) (hy:elt xs q=some y) (hx:ev Γ x=some (.slice A n c)) (hq:ev Γ ix=some (.int kk q))
    (hlen:n=xs.length) (hi:yK T.tt t=some i) (hdesc:i.desc= .slice e) (hj:yK T.tt e=some j) (hn:j.size=E.sz):Rd P F Γ (.indexAddr t x ix) (.pointer (some ⟨b,o,none⟩)):=
  fun a w d ty pos af gg ha hf=>by
    obtain ⟨oA,rfl,rfl⟩:=hA
    obtain ⟨h0,h1,h2⟩:=uT hy
    subst hlen
    obtain ⟨dd,hu,hdd⟩:=T.ok.desc hi
    have hadd:(⟨b,oA,none⟩:Addr).add (q.toNat*E.sz)=⟨b,oA+q.toNat*E.sz,none⟩:=by
      unfold Addr.add
      split
      · rename_i hz; rw [hz]; rfl
      · rfl
    simp [execOp,Instr.indexAt,ha.eval hx,ha.eval hq,asIntOf,run_underlying hu,TD.of_slice (hdd.trans hdesc),yJ T.ok hj,hn,h0,h1,hadd]
theorem Rd.ixO {α:Type} {E:Enc α} {t e:Nat} {i j:TI} {x ix:Operand} {n c g:Nat} {kk:IntKind} {q:Int} {xs:List α} {y:α} (hy:elt xs q=some y) (hx:ev Γ x=some (.slice (some ⟨g,0,none⟩) n c)) (hq:ev Γ ix=some (.int kk q))
  (hlen:n=xs.length) (hi:yK T.tt t=some i) (hdesc:i.desc= .slice e) (hj:yK T.tt e=some j) (hn:j.size=E.sz):Rd P F Γ (.indexAddr t x ix) (.pointer (some ⟨g,q.toNat*E.sz,none⟩)):=
 fun a w d ty pos af gg ha hf=>by
  obtain ⟨h0,h1,h2⟩:=uT hy
  subst hlen
  obtain ⟨dd,hu,hdd⟩:=T.ok.desc hi
  have hadd:(⟨g,0,none⟩:Addr).add (q.toNat*E.sz)=⟨g,q.toNat*E.sz,none⟩:=sC g _
  simp [execOp,Instr.indexAt,ha.eval hx,ha.eval hq,asIntOf,run_underlying hu,TD.of_slice (hdd.trans hdesc),yJ T.ok hj,hn,h0,h1,hadd]
theorem Rd.ldO {α:Type} {E:Enc α} {t e c g p:Nat} {x:Operand} {q:Int} {y:α} (off:Nat) {xs:List α} {v:Value} (hy:elt xs q=some y) (hx:ev Γ x=some (.pointer (some ⟨g,p,none⟩))) (hm:As.res (zM E e (some ⟨g,0,none⟩) c xs)∈F)
  (hpp:p=q.toNat*E.sz+off) (hv:pP T.tt t (E.enc y) off=some v):Rd P F Γ (.load t x) v:=
 fun a w d ty pos af gg ha hf=>qW (P:=P) (a:=a) (x:=x) (b:=g) (o:=q.toNat*E.sz) (off:=off) T.ok (by rw [ha.eval hx,hpp]) hv (w:=w) (fun i u hu=>eQ (hf.res hm) (zFr hy) i u hu) _ _
theorem St.openO {X:Act→World→Prop} {α:Type} {E:Enc α} {A:Option Addr} {c e:Nat} {xs:List α} {q:Int} {y:α} (hm:As.res (zM E e A c xs)∈F) (hy:elt xs q=some y) (k:∀ g,A=some ⟨g,0,none⟩→St w0 nt Γ F X):St w0 nt Γ F X:=
 fun a w hs hdf ha hf hw=>by
  obtain ⟨h0,h1,h2⟩:=uT hy
  have hown:mC E.sz e A xs.length c (xs.map E.enc) (hp w):=hf.res hm
  rcases hown.2.2 with ⟨h,_⟩ | ⟨g,cur,fr,_,hA,_⟩
  ·omega
  ·exact k g hA a w hs hdf ha hf hw
theorem Rd.lookup {α β:Type} {K:oC α} {vv:β→Value} {t kt e:Nat} {i j l:TI} {g:Nat} {m:List (α × β)} {x y:Operand} {comma:Bool} {u:Value} (z:β) (k:α) (hx:ev Γ x=some (.map (some g))) (hy:ev Γ y=some (K.v k)) (hm:As.res (nC K vv g m)∈F)
  (hi:yK T.tt t=some i) (hdesc:i.desc= .map kt e) (hj:yK T.tt kt=some j) (hjd:j.desc=K.td) (hl:yK T.tt e=some l) (hz:l.zero=vv z) (hu:zPX vv z (vM K.eq m k) comma=u):Rd P F Γ (.lookup t x y comma) u:=
 fun a w d ty pos af gg ha hf=>by
  subst hu
  have:=gW (P:=P) z comma hi hdesc hj hjd hl hz k (hf.res hm)
  simp [execOp,ha.eval hx,ha.eval hy,this]
end
end Go.Proofs.YtplchdlgdjcojaaGreatDoor
end
