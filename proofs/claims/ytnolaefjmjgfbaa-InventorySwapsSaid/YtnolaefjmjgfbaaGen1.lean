/-
  Models of functions of the program, and that the functions compute them.
  Conditions: none.
-/
import Derived.Test.YtnolaefjmjgfbaaTypes
import Derived.Test.YtnolaefjmjgfbaaCoreY
namespace Go.Proofs.Ytnolaefjmjgfbaa
open Go
set_option linter.unusedVariables false

structure T_Known where
  Slot : Int
  Good : Bool
  Serial : ByteArray
  Sum : Int

def e_Known : Enc T_Known := ⟨4, fun x => [.int .i64 x.Slot, .bool x.Good, .string x.Serial, .int .u32 x.Sum], fun _ => rfl, fun _ => List.all_eq_true.1 rfl⟩

structure T_Difference where
  Kind : Int
  Slot : Int
  From : Int

def e_Difference : Enc T_Difference := ⟨3, fun x => [.int .i64 x.Kind, .int .i64 x.Slot, .int .i64 x.From], fun _ => rfl, fun _ => List.all_eq_true.1 rfl⟩

structure T_Dice where
  L : (List Int)
  At : Int

structure Arr6 (α : Type) where
  e0 : α
  e1 : α
  e2 : α
  e3 : α
  e4 : α
  e5 : α

structure Arr2 (α : Type) where
  e0 : α
  e1 : α

structure Arr3 (α : Type) where
  e0 : α
  e1 : α
  e2 : α

structure T_Event where
  ID : Int
  Time : Int
  Generator : Int
  SensorType : Int
  Sensor : Int
  Type_ : Int
  Deassert : Bool
  Data : (Arr3 Int)

def e_Event : Enc T_Event := ⟨10, fun x => [.int .u16 x.ID, .int .u32 x.Time, .int .u16 x.Generator, .int .u8 x.SensorType, .int .u8 x.Sensor, .int .u8 x.Type_, .bool x.Deassert, .int .u8 x.Data.e0, .int .u8 x.Data.e1, .int .u8 x.Data.e2], fun _ => rfl, fun _ => List.all_eq_true.1 rfl⟩

structure Arr8 (α : Type) where
  e0 : α
  e1 : α
  e2 : α
  e3 : α
  e4 : α
  e5 : α
  e6 : α
  e7 : α

structure T_Setting where
  Key : Int
  Value : (List Int)
  Delete : Bool

theorem ent9 : Ent Try.prog 9 := ⟨_, Try.func9, by kernel_rfl, by kernel_rfl⟩

noncomputable def m_law19_light (l_p0 : (List T_Known)) : Option Bool :=
  bif decide ((l_p0.length : Int) > 40) then (some false) else (bnd (loopM (τ := Bool ⊕ Unit) (fun (s1 : Int) => bif decide (s1 < (l_p0.length : Int)) then (bnd (elt l_p0 s1) fun x1 => bif decide ((x1.Serial.size : Int) > 60) then (some (.done (.inl false))) else (some (.next (IntKind.wrap .i64 (s1 + 1))))) else (some (.done (.inr ())))) 0) fun o1 => retOr o1 fun o2 => some true)

theorem c_law19_light {l_p0 : (List T_Known)} {A1 : Option Addr} {c1 : Nat} {r : Bool} (h : m_law19_light l_p0 = some r) :
    Fun Try.prog 9 [.slice A1 l_p0.length c1] [.ro (SlL e_Known A1 c1 l_p0)] (Val (.bool r)) := by
  unfold m_law19_light at h
  refine Fun.intro Try.func9 rfl rfl rfl fun w R => ?_
  refine St.seq ?_
  refine St.region ?_
  refine St.p rfl rfl ?_
  refine St.done ?_
  refine St.thenN ?_
  refine St.prune (Γ' := [(0, _)]) ⟨rfl, trivial⟩ (.k .z) ?_
  refine St.seq ?_
  refine St.seq ?_
  refine St.region ?_
  iterate 3 refine St.p rfl rfl ?_
  refine St.done ?_
  refine St.thenN ?_
  refine St.prune (Γ' := [(0, _), (6, _)]) ⟨rfl, rfl, trivial⟩ (.k .z) ?_
  refine St.cond _ rfl (fun hb1 => ?_) (fun hb1 => ?_)
  · replace h := bif_t hb1 h
    refine St.seq ?_
    refine St.region ?_
    refine St.p rfl rfl ?_
    refine St.done ?_
    refine St.thenN ?_
    refine St.prune (Γ' := [(2, _)]) ⟨rfl, trivial⟩ (.d .z) ?_
    refine St.ret ?_
    repeat (first | refine St.thenR ?_ | refine St.blkR ?_)
    injection h with h
    subst h
    exact St.finR Try.results9 (.tmp rfl .nil) rfl [] ⟨rfl, rfl⟩ (fun _ w => (.z : Keep _ _).sat w)
  · replace h := bif_f hb1 h
    refine St.skip ?_
    refine St.thenN ?_
    refine St.prune (Γ' := [(0, _)]) ⟨rfl, trivial⟩ (.k .z) ?_
    refine St.seq ?_
    refine St.seq ?_
    refine St.region ?_
    refine St.p rfl rfl ?_
    refine St.done ?_
    refine St.thenN ?_
    obtain ⟨o1, hl1, h⟩ := bnd_e h
    refine St.cutI (fun (o2 : Unit) (e2 : Unit) => []) (fun o2 e2 => R) (fun o2 => o1 = .inr o2) ?_ ?_
    · refine St.block ?_
      refine St.loop hl1 (fun (s1 : Int) (e1 : Unit) => [(0, .slice A1 l_p0.length c1), (3, .int .i64 s1)]) (fun s1 e1 => .ro (SlL e_Known A1 c1 l_p0) :: R) (fun _ _ => True) () trivial ⟨rfl, rfl, trivial⟩ (fun _ w => ((.k .z) : Keep _ _).sat w) ?_
      rintro s1 e1 - hit1
      obtain ⟨st1, hm1, hd1⟩ := iter_e hit1
      have h1 := hm1
      refine St.seq ?_
      refine St.seq ?_
      refine St.region ?_
      iterate 4 refine St.p rfl rfl ?_
      refine St.done ?_
      refine St.thenN ?_
      refine St.prune (Γ' := [(0, _), (3, _), (10, _)]) ⟨rfl, rfl, rfl, trivial⟩ (.k .z) ?_
      refine St.cond _ rfl (fun hb2 => ?_) (fun hb2 => ?_)
      · replace h1 := bif_t hb2 h1
        refine St.skip ?_
        refine St.thenN ?_
        refine St.prune (Γ' := [(0, _), (3, _)]) ⟨rfl, rfl, trivial⟩ (.k .z) ?_
        refine St.seq ?_
        refine St.block ?_
        refine St.seq ?_
        refine St.region ?_
        refine St.p rfl rfl ?_
        refine St.p rfl rfl ?_
        obtain ⟨x1, hx1, h1⟩ := bnd_e h1
        refine St.ixL hx1 rfl rfl rfl (.head _) rfl rfl rfl rfl rfl fun b1 ob1 => ?_
        refine St.p rfl rfl ?_
        refine St.load ob1 2 rfl rfl (.head _) rfl rfl ?_
        refine St.p rfl rfl ?_
        refine St.p rfl rfl ?_
        refine St.done ?_
        refine St.thenN ?_
        refine St.prune (Γ' := [(0, _), (3, _), (19, _)]) ⟨rfl, rfl, rfl, trivial⟩ (.d (.k .z)) ?_
        refine St.cond _ rfl (fun hb3 => ?_) (fun hb3 => ?_)
        · replace h1 := bif_t hb3 h1
          refine St.seq ?_
          refine St.region ?_
          refine St.p rfl rfl ?_
          refine St.done ?_
          refine St.thenN ?_
          refine St.prune (Γ' := [(2, _)]) ⟨rfl, trivial⟩ (.d .z) ?_
          refine St.ret ?_
          repeat (first | refine St.thenR ?_ | refine St.blkR ?_)
          injection h1 with h1
          subst h1
          have ho := hd1 _ rfl
          subst ho
          have h : some _ = some _ := h
          injection h with h
          subst h
          exact St.finR Try.results9 (.tmp rfl .nil) rfl [] ⟨rfl, rfl⟩ (fun _ w => (.z : Keep _ _).sat w)
        · replace h1 := bif_f hb3 h1
          refine St.skip ?_
          refine St.blkN ?_
          refine St.thenN ?_
          refine St.prune (Γ' := [(0, _), (3, _)]) ⟨rfl, rfl, trivial⟩ (.k .z) ?_
          refine St.region ?_
          iterate 3 refine St.p rfl rfl ?_
          refine St.done ?_
          injection h1 with h1
          subst h1
          refine St.thenN ?_
          exact St.again _ () hm1 trivial ⟨rfl, rfl, trivial⟩ (fun _ w => ((.k .z) : Keep _ _).sat w)
      · replace h1 := bif_f hb2 h1
        refine St.exit ?_
        repeat (first | refine St.thenX ?_ | refine St.blkMiss rfl ?_)
        refine St.blkHit ?_
        injection h1 with h1
        subst h1
        have ho := hd1 _ rfl
        subst ho
        refine St.thenN ?_
        exact St.hereI () () rfl trivial (fun _ w => ((.d .z) : Keep _ _).sat w)
    · rintro o2 e2 ho
      subst ho
      have h : _ = some _ := h
      refine St.seq ?_
      refine St.region ?_
      refine St.p rfl rfl ?_
      refine St.done ?_
      refine St.thenN ?_
      refine St.ret ?_
      repeat (first | refine St.thenR ?_ | refine St.blkR ?_)
      injection h with h
      subst h
      exact St.finR Try.results9 (.tmp rfl .nil) rfl [] ⟨rfl, rfl⟩ (fun _ w => (.z : Keep _ _).sat w)

theorem ent10 : Ent Try.prog 10 := ⟨_, Try.func10, by kernel_rfl, by kernel_rfl⟩

noncomputable def m_made_Light (l_p0 : (List Int)) : Option Bool :=
  some (decide ((l_p0.length : Int) ≤ 600))

theorem c_made_Light {l_p0 : (List Int)} {A1 : Option Addr} {c1 : Nat} {r : Bool} (h : m_made_Light l_p0 = some r) :
    Fun Try.prog 10 [.slice A1 l_p0.length c1] [.ro (SlL ei64 A1 c1 l_p0)] (Val (.bool r)) := by
  unfold m_made_Light at h
  refine Fun.intro Try.func10 rfl rfl rfl fun w R => ?_
  refine St.seq ?_
  refine St.region ?_
  refine St.p rfl rfl ?_
  refine St.done ?_
  refine St.thenN ?_
  refine St.prune (Γ' := [(0, _)]) ⟨rfl, trivial⟩ (.k .z) ?_
  refine St.seq ?_
  refine St.region ?_
  iterate 4 refine St.p rfl rfl ?_
  refine St.done ?_
  refine St.thenN ?_
  refine St.prune (Γ' := [(2, _)]) ⟨rfl, trivial⟩ (.d .z) ?_
  refine St.ret ?_
  repeat (first | refine St.thenR ?_ | refine St.blkR ?_)
  injection h with h
  subst h
  exact St.finR Try.results10 (.tmp rfl .nil) rfl [] ⟨rfl, rfl⟩ (fun _ w => (.z : Keep _ _).sat w)

theorem ent39 : Ent Try.prog 39 := ⟨_, Try.func39, by kernel_rfl, by kernel_rfl⟩

noncomputable def m_inventory_slotted (slot : Int) : Option Bool :=
  bnd ((bif decide (slot ≥ 0) then (some (decide (slot < 16))) else (some false) : Option Bool)) fun o1 => some o1

theorem c_inventory_slotted {slot : Int} {r : Bool} (h : m_inventory_slotted slot = some r) :
    Fun Try.prog 39 [.int .i64 slot] [] (Val (.bool r)) := by
  unfold m_inventory_slotted at h
  refine Fun.intro Try.func39 rfl rfl rfl fun w R => ?_
  refine St.seq ?_
  refine St.region ?_
  refine St.p rfl rfl ?_
  refine St.done ?_
  refine St.thenN ?_
  refine St.prune (Γ' := [(0, _)]) ⟨rfl, trivial⟩ .z ?_
  refine St.seq ?_
  obtain ⟨o1, hj1, h⟩ := bnd_e h
  refine St.cutE (fun (e1 : Unit) => [(2, .bool o1)]) (fun e1 => R) ?_ ?_
  · refine St.region ?_
    iterate 3 refine St.p rfl rfl ?_
    refine St.gSplit (dj := 5) _ rfl (fun hb1 => ?_) (fun hb1 => ?_)
    · replace hj1 := bif_t hb1 hj1
      refine St.gOn (dj := 5) rfl rfl ?_
      refine St.p rfl rfl ?_
      refine St.gOn (dj := 5) rfl rfl ?_
      iterate 3 refine St.p rfl rfl ?_
      refine St.done ?_
      injection hj1 with hj1
      subst hj1
      refine St.thenN ?_
      exact St.hereE () ⟨rfl, trivial⟩ (fun _ w => (.z : Keep _ _).sat w)
    · replace hj1 := bif_f hb1 hj1
      refine St.gOff (dj := 5) rfl rfl rfl rfl ?_
      refine St.gOff (dj := 5) rfl rfl rfl rfl ?_
      refine St.p rfl rfl ?_
      refine St.p rfl rfl ?_
      refine St.done ?_
      injection hj1 with hj1
      subst hj1
      refine St.thenN ?_
      exact St.hereE () ⟨rfl, trivial⟩ (fun _ w => (.z : Keep _ _).sat w)
  · rintro e1
    refine St.ret ?_
    repeat (first | refine St.thenR ?_ | refine St.blkR ?_)
    injection h with h
    subst h
    exact St.finR Try.results39 (.tmp rfl .nil) rfl [] ⟨rfl, rfl⟩ (fun _ w => (.z : Keep _ _).sat w)

theorem ent17 : Ent Try.prog 17 := ⟨_, Try.func17, by kernel_rfl, by kernel_rfl⟩

noncomputable def m_inventory_Valid (l_p0 : (List T_Known)) : Option Bool :=
  bnd (loopM (τ := Bool ⊕ Unit) (fun (s1 : Int) => bif decide (s1 < (l_p0.length : Int)) then (bnd (elt l_p0 s1) fun x1 => bnd ((bnd (m_inventory_slotted x1.Slot) fun r1 => bif !r1 then (some true) else (bif decide (s1 > 0) then (bnd (elt l_p0 (IntKind.wrap .i64 (s1 - 1))) fun x2 => bif decide (x1.Slot ≤ x2.Slot) then (some true) else (bif decide ((x1.Serial.size : Int) > 23) then (some true) else (bif !x1.Good then (some (!(x1.Serial.toList == ((⟨#[]⟩) : ByteArray).toList))) else (some false)))) else (bif decide ((x1.Serial.size : Int) > 23) then (some true) else (bif !x1.Good then (some (!(x1.Serial.toList == ((⟨#[]⟩) : ByteArray).toList))) else (some false)))) : Option Bool)) fun o3 => bif o3 then (some (.done (.inl false))) else (some (.next (IntKind.wrap .i64 (s1 + 1))))) else (some (.done (.inr ())))) 0) fun o1 => retOr o1 fun o2 => some true

theorem c_inventory_Valid {l_p0 : (List T_Known)} {A1 : Option Addr} {c1 : Nat} {r : Bool} (h : m_inventory_Valid l_p0 = some r) :
    Fun Try.prog 17 [.slice A1 l_p0.length c1] [.ro (SlL e_Known A1 c1 l_p0)] (Val (.bool r)) := by
  unfold m_inventory_Valid at h
  refine Fun.intro Try.func17 rfl rfl rfl fun w R => ?_
  refine St.seq ?_
  refine St.region ?_
  refine St.p rfl rfl ?_
  refine St.done ?_
  refine St.thenN ?_
  refine St.prune (Γ' := [(0, _)]) ⟨rfl, trivial⟩ (.k .z) ?_
  refine St.seq ?_
  refine St.seq ?_
  refine St.region ?_
  iterate 3 refine St.p rfl rfl ?_
  refine St.done ?_
  refine St.thenN ?_
  obtain ⟨o1, hl1, h⟩ := bnd_e h
  refine St.cutI (fun (o2 : Unit) (e2 : Unit) => []) (fun o2 e2 => R) (fun o2 => o1 = .inr o2) ?_ ?_
  · refine St.block ?_
    refine St.loop hl1 (fun (s1 : Int) (e1 : Unit) => [(0, .slice A1 l_p0.length c1), (5, .slice A1 l_p0.length c1), (6, .int .i64 (l_p0.length : Int)), (7, .int .i64 s1)]) (fun s1 e1 => .ro (SlL e_Known A1 c1 l_p0) :: R) (fun _ _ => True) () trivial ⟨rfl, rfl, rfl, rfl, trivial⟩ (fun _ w => ((.k .z) : Keep _ _).sat w) ?_
    rintro s1 e1 - hit1
    obtain ⟨st1, hm1, hd1⟩ := iter_e hit1
    have h1 := hm1
    refine St.seq ?_
    refine St.region ?_
    refine St.p rfl rfl ?_
    refine St.done ?_
    refine St.thenN ?_
    refine St.seq ?_
    refine St.cond _ rfl (fun hb1 => ?_) (fun hb1 => ?_)
    · replace h1 := bif_t hb1 h1
      refine St.skip ?_
      refine St.thenN ?_
      refine St.prune (Γ' := [(0, _), (5, _), (6, _), (7, _)]) ⟨rfl, rfl, rfl, rfl, trivial⟩ (.k .z) ?_
      refine St.seq ?_
      refine St.block ?_
      refine St.seq ?_
      refine St.region ?_
      refine St.p rfl rfl ?_
      obtain ⟨x1, hx1, h1⟩ := bnd_e h1
      refine St.ixL hx1 rfl rfl rfl (.head _) rfl rfl rfl rfl rfl fun b1 ob1 => ?_
      refine St.load ob1 0 rfl rfl (.head _) rfl rfl ?_
      refine St.alloc rfl rfl fun g1 => ?_
      refine St.p rfl rfl ?_
      refine St.store 0 rfl rfl rfl rfl rfl rfl .z rfl ?_
      refine St.done ?_
      refine St.thenN ?_
      refine St.prune (Γ' := [(0, _), (3, _), (4, _), (5, _), (6, _), (7, _)]) ⟨rfl, rfl, rfl, rfl, rfl, rfl, trivial⟩ (.k (.d (.k .z))) ?_
      refine St.seq ?_
      obtain ⟨o3, hj1, h1⟩ := bnd_e h1
      refine St.cutE (fun (e3 : Unit) => [(0, .slice A1 l_p0.length c1), (5, .slice A1 l_p0.length c1), (6, .int .i64 (l_p0.length : Int)), (7, .int .i64 s1), (46, .bool o3)]) (fun e3 => .ro (SlL e_Known A1 c1 l_p0) :: R) ?_ ?_
      · refine St.regionF mixed (by kernel_rfl) ?_
        refine St.p rfl rfl ?_
        refine St.loadB 0 rfl rfl (.head _) rfl rfl ?_
        obtain ⟨r1, hr1, hj1⟩ := bnd_e hj1
        refine St.callV (c_inventory_slotted hr1) ent39 rfl rfl rfl rfl trivial ?_
        refine St.p rfl rfl ?_
        refine St.p rfl rfl ?_
        refine St.gSplit (dj := 16) _ rfl (fun hb2 => ?_) (fun hb2 => ?_)
        · replace hj1 := bif_t hb2 hj1
          refine St.gOff (dj := 16) rfl rfl rfl rfl ?_
          refine St.gOff (dj := 16) rfl rfl rfl rfl ?_
          refine St.gOff (dj := 16) rfl rfl rfl rfl ?_
          refine St.gOff (dj := 19) rfl rfl rfl rfl ?_
          refine St.gOff (dj := 19) rfl rfl rfl rfl ?_
          refine St.gOff (dj := 19) rfl rfl rfl rfl ?_
          refine St.gOff (dj := 19) rfl rfl rfl rfl ?_
          refine St.gOff (dj := 19) rfl rfl rfl rfl ?_
          refine St.gOff (dj := 19) rfl rfl rfl rfl ?_
          refine St.gOff (dj := 19) rfl rfl rfl rfl ?_
          refine St.gOff (dj := 19) rfl rfl rfl rfl ?_
          refine St.gOff (dj := 19) rfl rfl rfl rfl ?_
          refine St.gOff (dj := 16) rfl rfl rfl rfl ?_
          refine St.p rfl rfl ?_
          refine St.p rfl rfl ?_
          refine St.gOff (dj := 31) rfl rfl rfl rfl ?_
          refine St.gOff (dj := 31) rfl rfl rfl rfl ?_
          refine St.gOff (dj := 31) rfl rfl rfl rfl ?_
          refine St.gOff (dj := 31) rfl rfl rfl rfl ?_
          refine St.p rfl rfl ?_
          refine St.p rfl rfl ?_
          refine St.gOff (dj := 37) rfl rfl rfl rfl ?_
          refine St.gOff (dj := 37) rfl rfl rfl rfl ?_
          refine St.gOff (dj := 37) rfl rfl rfl rfl ?_
          refine St.gOff (dj := 37) rfl rfl rfl rfl ?_
          refine St.gOff (dj := 41) rfl rfl rfl rfl ?_
          refine St.gOff (dj := 41) rfl rfl rfl rfl ?_
          refine St.gOff (dj := 41) rfl rfl rfl rfl ?_
          refine St.gOff (dj := 37) rfl rfl rfl rfl ?_
          refine St.p rfl rfl ?_
          refine St.doneQ ?_
          injection hj1 with hj1
          subst hj1
          refine St.thenN ?_
          exact St.hereE () ⟨rfl, rfl, rfl, rfl, rfl, trivial⟩ (fun _ w => ((.d (.k .z)) : Keep _ _).sat w)
        · replace hj1 := bif_f hb2 hj1
          refine St.gOn (dj := 16) rfl rfl ?_
          refine St.p rfl rfl ?_
          refine St.gOn (dj := 16) rfl rfl ?_
          refine St.p rfl rfl ?_
          refine St.gOn (dj := 16) rfl rfl ?_
          refine St.p rfl rfl ?_
          refine St.gSplit (dj := 19) _ rfl (fun hb3 => ?_) (fun hb3 => ?_)
          · replace hj1 := bif_t hb3 hj1
            refine St.gOn (dj := 19) rfl rfl ?_
            refine St.p rfl rfl ?_
            refine St.gOn (dj := 19) rfl rfl ?_
            refine St.loadB 0 rfl rfl (.head _) rfl rfl ?_
            refine St.gOn (dj := 19) rfl rfl ?_
            refine St.p rfl rfl ?_
            refine St.gOn (dj := 19) rfl rfl ?_
            refine St.p rfl rfl ?_
            refine St.gOn (dj := 19) rfl rfl ?_
            refine St.p rfl rfl ?_
            refine St.gOn (dj := 19) rfl rfl ?_
            obtain ⟨x2, hx2, hj1⟩ := bnd_e hj1
            refine St.ixL hx2 rfl rfl rfl (.tail _ (.head _)) rfl rfl rfl rfl rfl fun b2 ob2 => ?_
            refine St.gOn (dj := 19) rfl rfl ?_
            refine St.p rfl rfl ?_
            refine St.gOn (dj := 19) rfl rfl ?_
            refine St.load ob2 0 rfl rfl (.head _) rfl rfl ?_
            refine St.gOn (dj := 19) rfl rfl ?_
            refine St.p rfl rfl ?_
            refine St.gOn (dj := 16) rfl rfl ?_
            iterate 3 refine St.p rfl rfl ?_
            refine St.gSplit (dj := 31) _ rfl (fun hb4 => ?_) (fun hb4 => ?_)
            · replace hj1 := bif_t hb4 hj1
              refine St.gOff (dj := 31) rfl rfl rfl rfl ?_
              refine St.gOff (dj := 31) rfl rfl rfl rfl ?_
              refine St.gOff (dj := 31) rfl rfl rfl rfl ?_
              refine St.gOff (dj := 31) rfl rfl rfl rfl ?_
              refine St.p rfl rfl ?_
              refine St.p rfl rfl ?_
              refine St.gOff (dj := 37) rfl rfl rfl rfl ?_
              refine St.gOff (dj := 37) rfl rfl rfl rfl ?_
              refine St.gOff (dj := 37) rfl rfl rfl rfl ?_
              refine St.gOff (dj := 37) rfl rfl rfl rfl ?_
              refine St.gOff (dj := 41) rfl rfl rfl rfl ?_
              refine St.gOff (dj := 41) rfl rfl rfl rfl ?_
              refine St.gOff (dj := 41) rfl rfl rfl rfl ?_
              refine St.gOff (dj := 37) rfl rfl rfl rfl ?_
              refine St.p rfl rfl ?_
              refine St.doneQ ?_
              injection hj1 with hj1
              subst hj1
              refine St.thenN ?_
              exact St.hereE () ⟨rfl, rfl, rfl, rfl, rfl, trivial⟩ (fun _ w => ((.d (.d (.k .z))) : Keep _ _).sat w)
            · replace hj1 := bif_f hb4 hj1
              refine St.gOn (dj := 31) rfl rfl ?_
              refine St.p rfl rfl ?_
              refine St.gOn (dj := 31) rfl rfl ?_
              refine St.loadB 2 rfl rfl (.tail _ (.head _)) rfl rfl ?_
              refine St.gOn (dj := 31) rfl rfl ?_
              refine St.p rfl rfl ?_
              refine St.gOn (dj := 31) rfl rfl ?_
              iterate 3 refine St.p rfl rfl ?_
              refine St.gSplit (dj := 37) _ rfl (fun hb5 => ?_) (fun hb5 => ?_)
              · replace hj1 := bif_t hb5 hj1
                refine St.gOff (dj := 37) rfl rfl rfl rfl ?_
                refine St.gOff (dj := 37) rfl rfl rfl rfl ?_
                refine St.gOff (dj := 37) rfl rfl rfl rfl ?_
                refine St.gOff (dj := 37) rfl rfl rfl rfl ?_
                refine St.gOff (dj := 41) rfl rfl rfl rfl ?_
                refine St.gOff (dj := 41) rfl rfl rfl rfl ?_
                refine St.gOff (dj := 41) rfl rfl rfl rfl ?_
                refine St.gOff (dj := 37) rfl rfl rfl rfl ?_
                refine St.p rfl rfl ?_
                refine St.doneQ ?_
                injection hj1 with hj1
                subst hj1
                refine St.thenN ?_
                exact St.hereE () ⟨rfl, rfl, rfl, rfl, rfl, trivial⟩ (fun _ w => ((.d (.d (.k .z))) : Keep _ _).sat w)
              · replace hj1 := bif_f hb5 hj1
                refine St.gOn (dj := 37) rfl rfl ?_
                refine St.p rfl rfl ?_
                refine St.gOn (dj := 37) rfl rfl ?_
                refine St.loadB 1 rfl rfl (.tail _ (.head _)) rfl rfl ?_
                refine St.gOn (dj := 37) rfl rfl ?_
                refine St.p rfl rfl ?_
                refine St.gOn (dj := 37) rfl rfl ?_
                refine St.p rfl rfl ?_
                refine St.gSplit (dj := 41) _ rfl (fun hb6 => ?_) (fun hb6 => ?_)
                · replace hj1 := bif_t hb6 hj1
                  refine St.gOn (dj := 41) rfl rfl ?_
                  refine St.p rfl rfl ?_
                  refine St.gOn (dj := 41) rfl rfl ?_
                  refine St.loadB 2 rfl rfl (.tail _ (.head _)) rfl rfl ?_
                  refine St.gOn (dj := 41) rfl rfl ?_
                  refine St.p rfl rfl ?_
                  refine St.gOn (dj := 37) rfl rfl ?_
                  refine St.p rfl rfl ?_
                  refine St.p rfl rfl ?_
                  refine St.doneQ ?_
                  injection hj1 with hj1
                  subst hj1
                  refine St.thenN ?_
                  exact St.hereE () ⟨rfl, rfl, rfl, rfl, rfl, trivial⟩ (fun _ w => ((.d (.d (.k .z))) : Keep _ _).sat w)
                · replace hj1 := bif_f hb6 hj1
                  refine St.gOff (dj := 41) rfl rfl rfl rfl ?_
                  refine St.gOff (dj := 41) rfl rfl rfl rfl ?_
                  refine St.gOff (dj := 41) rfl rfl rfl rfl ?_
                  refine St.gOn (dj := 37) rfl rfl ?_
                  refine St.p rfl rfl ?_
                  refine St.p rfl rfl ?_
                  refine St.doneQ ?_
                  injection hj1 with hj1
                  subst hj1
                  refine St.thenN ?_
                  exact St.hereE () ⟨rfl, rfl, rfl, rfl, rfl, trivial⟩ (fun _ w => ((.d (.d (.k .z))) : Keep _ _).sat w)
          · replace hj1 := bif_f hb3 hj1
            refine St.gOff (dj := 19) rfl rfl rfl rfl ?_
            refine St.gOff (dj := 19) rfl rfl rfl rfl ?_
            refine St.gOff (dj := 19) rfl rfl rfl rfl ?_
            refine St.gOff (dj := 19) rfl rfl rfl rfl ?_
            refine St.gOff (dj := 19) rfl rfl rfl rfl ?_
            refine St.gOff (dj := 19) rfl rfl rfl rfl ?_
            refine St.gOff (dj := 19) rfl rfl rfl rfl ?_
            refine St.gOff (dj := 19) rfl rfl rfl rfl ?_
            refine St.gOff (dj := 19) rfl rfl rfl rfl ?_
            refine St.gOn (dj := 16) rfl rfl ?_
            iterate 3 refine St.p rfl rfl ?_
            refine St.gOn (dj := 31) rfl rfl ?_
            refine St.p rfl rfl ?_
            refine St.gOn (dj := 31) rfl rfl ?_
            refine St.loadB 2 rfl rfl (.head _) rfl rfl ?_
            refine St.gOn (dj := 31) rfl rfl ?_
            refine St.p rfl rfl ?_
            refine St.gOn (dj := 31) rfl rfl ?_
            iterate 3 refine St.p rfl rfl ?_
            refine St.gSplit (dj := 37) _ rfl (fun hb7 => ?_) (fun hb7 => ?_)
            · replace hj1 := bif_t hb7 hj1
              refine St.gOff (dj := 37) rfl rfl rfl rfl ?_
              refine St.gOff (dj := 37) rfl rfl rfl rfl ?_
              refine St.gOff (dj := 37) rfl rfl rfl rfl ?_
              refine St.gOff (dj := 37) rfl rfl rfl rfl ?_
              refine St.gOff (dj := 41) rfl rfl rfl rfl ?_
              refine St.gOff (dj := 41) rfl rfl rfl rfl ?_
              refine St.gOff (dj := 41) rfl rfl rfl rfl ?_
              refine St.gOff (dj := 37) rfl rfl rfl rfl ?_
              refine St.p rfl rfl ?_
              refine St.doneQ ?_
              injection hj1 with hj1
              subst hj1
              refine St.thenN ?_
              exact St.hereE () ⟨rfl, rfl, rfl, rfl, rfl, trivial⟩ (fun _ w => ((.d (.k .z)) : Keep _ _).sat w)
            · replace hj1 := bif_f hb7 hj1
              refine St.gOn (dj := 37) rfl rfl ?_
              refine St.p rfl rfl ?_
              refine St.gOn (dj := 37) rfl rfl ?_
              refine St.loadB 1 rfl rfl (.head _) rfl rfl ?_
              refine St.gOn (dj := 37) rfl rfl ?_
              refine St.p rfl rfl ?_
              refine St.gOn (dj := 37) rfl rfl ?_
              refine St.p rfl rfl ?_
              refine St.gSplit (dj := 41) _ rfl (fun hb8 => ?_) (fun hb8 => ?_)
              · replace hj1 := bif_t hb8 hj1
                refine St.gOn (dj := 41) rfl rfl ?_
                refine St.p rfl rfl ?_
                refine St.gOn (dj := 41) rfl rfl ?_
                refine St.loadB 2 rfl rfl (.head _) rfl rfl ?_
                refine St.gOn (dj := 41) rfl rfl ?_
                refine St.p rfl rfl ?_
                refine St.gOn (dj := 37) rfl rfl ?_
                refine St.p rfl rfl ?_
                refine St.p rfl rfl ?_
                refine St.doneQ ?_
                injection hj1 with hj1
                subst hj1
                refine St.thenN ?_
                exact St.hereE () ⟨rfl, rfl, rfl, rfl, rfl, trivial⟩ (fun _ w => ((.d (.k .z)) : Keep _ _).sat w)
              · replace hj1 := bif_f hb8 hj1
                refine St.gOff (dj := 41) rfl rfl rfl rfl ?_
                refine St.gOff (dj := 41) rfl rfl rfl rfl ?_
                refine St.gOff (dj := 41) rfl rfl rfl rfl ?_
                refine St.gOn (dj := 37) rfl rfl ?_
                refine St.p rfl rfl ?_
                refine St.p rfl rfl ?_
                refine St.doneQ ?_
                injection hj1 with hj1
                subst hj1
                refine St.thenN ?_
                exact St.hereE () ⟨rfl, rfl, rfl, rfl, rfl, trivial⟩ (fun _ w => ((.d (.k .z)) : Keep _ _).sat w)
      · rintro e3
        refine St.cond _ rfl (fun hb9 => ?_) (fun hb9 => ?_)
        · replace h1 := bif_t hb9 h1
          refine St.seq ?_
          refine St.region ?_
          refine St.p rfl rfl ?_
          refine St.done ?_
          refine St.thenN ?_
          refine St.prune (Γ' := [(2, _)]) ⟨rfl, trivial⟩ (.d .z) ?_
          refine St.ret ?_
          repeat (first | refine St.thenR ?_ | refine St.blkR ?_)
          injection h1 with h1
          subst h1
          have ho := hd1 _ rfl
          subst ho
          have h : some _ = some _ := h
          injection h with h
          subst h
          exact St.finR Try.results17 (.tmp rfl .nil) rfl [] ⟨rfl, rfl⟩ (fun _ w => (.z : Keep _ _).sat w)
        · replace h1 := bif_f hb9 h1
          refine St.skip ?_
          refine St.blkN ?_
          refine St.thenN ?_
          refine St.prune (Γ' := [(0, _), (5, _), (6, _), (7, _)]) ⟨rfl, rfl, rfl, rfl, trivial⟩ (.k .z) ?_
          refine St.region ?_
          refine St.p rfl rfl ?_
          refine St.p rfl rfl ?_
          refine St.done ?_
          injection h1 with h1
          subst h1
          refine St.thenN ?_
          exact St.again _ () hm1 trivial ⟨rfl, rfl, rfl, rfl, trivial⟩ (fun _ w => ((.k .z) : Keep _ _).sat w)
    · replace h1 := bif_f hb1 h1
      refine St.exit ?_
      repeat (first | refine St.thenX ?_ | refine St.blkMiss rfl ?_)
      refine St.blkHit ?_
      injection h1 with h1
      subst h1
      have ho := hd1 _ rfl
      subst ho
      refine St.thenN ?_
      exact St.hereI () () rfl trivial (fun _ w => ((.d .z) : Keep _ _).sat w)
  · rintro o2 e2 ho
    subst ho
    have h : _ = some _ := h
    refine St.seq ?_
    refine St.region ?_
    refine St.p rfl rfl ?_
    refine St.done ?_
    refine St.thenN ?_
    refine St.ret ?_
    repeat (first | refine St.thenR ?_ | refine St.blkR ?_)
    injection h with h
    subst h
    exact St.finR Try.results17 (.tmp rfl .nil) rfl [] ⟨rfl, rfl⟩ (fun _ w => (.z : Keep _ _).sat w)

theorem ent48 : Ent Try.prog 48 := ⟨_, Try.func48, by kernel_rfl, by kernel_rfl⟩

noncomputable def m_inventory_identified (l_p0 : (List T_Known)) : Option (List (ByteArray × Int)) :=
  bnd (loopM (τ := (List (ByteArray × Int))) (fun (s1 : Int × (List (ByteArray × Int))) => bif decide (s1.1 < (l_p0.length : Int)) then (bnd (elt l_p0 s1.1) fun x1 => some (.next (IntKind.wrap .i64 (s1.1 + 1), mset kstr.eq s1.2 x1.Serial (IntKind.wrap .i64 (((mget kstr.eq s1.2 x1.Serial).getD 0) + 1))))) else (some (.done s1.2))) (0, [])) fun o1 => bnd (loopM (τ := (List (ByteArray × Int))) (fun (s2 : Int × (List (ByteArray × Int))) => bif decide (s2.1 < (l_p0.length : Int)) then (bnd (elt l_p0 s2.1) fun x2 => bnd ((bif !(x2.Serial.toList == ((⟨#[]⟩) : ByteArray).toList) then (some (((mget kstr.eq o1 x2.Serial).getD 0) == 1)) else (some false) : Option Bool)) fun o3 => bif o3 then (some (.next (IntKind.wrap .i64 (s2.1 + 1), mset kstr.eq s2.2 x2.Serial x2.Slot))) else (some (.next (IntKind.wrap .i64 (s2.1 + 1), s2.2)))) else (some (.done s2.2))) (0, [])) fun o2 => some o2

theorem c_inventory_identified {l_p0 : (List T_Known)} {A1 : Option Addr} {c1 : Nat} {r : (List (ByteArray × Int))} (h : m_inventory_identified l_p0 = some r) :
    Fun Try.prog 48 [.slice A1 l_p0.length c1] [.ro (SlL e_Known A1 c1 l_p0)] (fun v_ F_ => ∃ (g1 : Nat), v_ = .map (some g1) ∧ F_ = [.res (MapB kstr (fun x => .int .i64 x) g1 r)]) := by
  unfold m_inventory_identified at h
  refine Fun.intro Try.func48 rfl rfl rfl fun w R => ?_
  refine St.seq ?_
  refine St.region ?_
  refine St.p rfl rfl ?_
  refine St.done ?_
  refine St.thenN ?_
  refine St.prune (Γ' := [(0, _)]) ⟨rfl, trivial⟩ (.k .z) ?_
  refine St.seq ?_
  refine St.region ?_
  refine St.makeMap (K := kstr) (vv := (fun x => .int .i64 x)) rfl fun g1 => ?_
  refine St.p rfl rfl ?_
  refine St.done ?_
  refine St.thenN ?_
  refine St.prune (Γ' := [(0, _), (3, _)]) ⟨rfl, rfl, trivial⟩ (.k (.k .z)) ?_
  refine St.seq ?_
  refine St.seq ?_
  refine St.region ?_
  iterate 3 refine St.p rfl rfl ?_
  refine St.done ?_
  refine St.thenN ?_
  obtain ⟨o1, hl1, h⟩ := bnd_e h
  refine St.cutE (fun (e2 : Unit) => [(0, .slice A1 l_p0.length c1), (3, .map (some g1))]) (fun e2 => .res (MapB kstr (fun x => .int .i64 x) g1 o1) :: .ro (SlL e_Known A1 c1 l_p0) :: R) ?_ ?_
  · refine St.block ?_
    refine St.loop hl1 (fun (s1 : Int × (List (ByteArray × Int))) (e1 : Unit) => [(0, .slice A1 l_p0.length c1), (3, .map (some g1)), (10, .slice A1 l_p0.length c1), (11, .int .i64 (l_p0.length : Int)), (12, .int .i64 s1.1)]) (fun s1 e1 => .res (MapB kstr (fun x => .int .i64 x) g1 s1.2) :: .ro (SlL e_Known A1 c1 l_p0) :: R) (fun _ _ => True) () trivial ⟨rfl, rfl, rfl, rfl, rfl, trivial⟩ (fun _ w => ((.k (.k .z)) : Keep _ _).sat w) ?_
    rintro s1 e1 - hit1
    obtain ⟨st1, hm1, hd1⟩ := iter_e hit1
    have h1 := hm1
    refine St.seq ?_
    refine St.region ?_
    refine St.p rfl rfl ?_
    refine St.done ?_
    refine St.thenN ?_
    refine St.seq ?_
    refine St.cond _ rfl (fun hb1 => ?_) (fun hb1 => ?_)
    · replace h1 := bif_t hb1 h1
      refine St.skip ?_
      refine St.thenN ?_
      refine St.prune (Γ' := [(0, _), (3, _), (10, _), (11, _), (12, _)]) ⟨rfl, rfl, rfl, rfl, rfl, trivial⟩ (.k (.k .z)) ?_
      refine St.seq ?_
      refine St.block ?_
      refine St.seq ?_
      refine St.region ?_
      obtain ⟨x1, hx1, h1⟩ := bnd_e h1
      refine St.ixL hx1 rfl rfl rfl (.tail _ (.head _)) rfl rfl rfl rfl rfl fun b1 ob1 => ?_
      refine St.load ob1 0 rfl rfl (.head _) rfl rfl ?_
      refine St.alloc rfl rfl fun g2 => ?_
      refine St.store 0 rfl rfl rfl rfl rfl rfl .z rfl ?_
      refine St.done ?_
      refine St.thenN ?_
      refine St.prune (Γ' := [(0, _), (3, _), (5, _), (10, _), (11, _), (12, _)]) ⟨rfl, rfl, rfl, rfl, rfl, rfl, trivial⟩ (.k (.d (.k (.k .z)))) ?_
      refine St.region ?_
      refine St.p rfl rfl ?_
      refine St.p rfl rfl ?_
      refine St.loadB 2 rfl rfl (.head _) rfl rfl ?_
      refine St.lookup (K := kstr) (vv := (fun x => .int .i64 x)) (u := .int .i64 ((mget kstr.eq s1.2 x1.Serial).getD 0)) 0 x1.Serial rfl rfl rfl (.tail _ (.head _)) rfl rfl rfl rfl rfl rfl rfl ?_
      refine St.p rfl rfl ?_
      refine St.mapUpdate (K := kstr) (vv := (fun x => .int .i64 x)) x1.Serial (IntKind.wrap .i64 (((mget kstr.eq s1.2 x1.Serial).getD 0) + 1)) rfl rfl rfl (.s .z) rfl rfl rfl rfl ?_
      refine St.done ?_
      refine St.blkN ?_
      refine St.thenN ?_
      refine St.prune (Γ' := [(0, _), (3, _), (10, _), (11, _), (12, _)]) ⟨rfl, rfl, rfl, rfl, rfl, trivial⟩ (.k (.d (.k .z))) ?_
      refine St.region ?_
      refine St.p rfl rfl ?_
      refine St.p rfl rfl ?_
      refine St.done ?_
      injection h1 with h1
      subst h1
      refine St.thenN ?_
      exact St.again _ () hm1 trivial ⟨rfl, rfl, rfl, rfl, rfl, trivial⟩ (fun _ w => ((.k (.k .z)) : Keep _ _).sat w)
    · replace h1 := bif_f hb1 h1
      refine St.exit ?_
      repeat (first | refine St.thenX ?_ | refine St.blkMiss rfl ?_)
      refine St.blkHit ?_
      injection h1 with h1
      subst h1
      have ho := hd1 _ rfl
      subst ho
      refine St.thenN ?_
      exact St.hereE () ⟨rfl, rfl, trivial⟩ (fun _ w => ((.k (.k .z)) : Keep _ _).sat w)
  · rintro e2
    refine St.seq ?_
    refine St.region ?_
    refine St.makeMap (K := kstr) (vv := (fun x => .int .i64 x)) rfl fun g3 => ?_
    refine St.p rfl rfl ?_
    refine St.done ?_
    refine St.thenN ?_
    refine St.prune (Γ' := [(0, _), (3, _), (6, _)]) ⟨rfl, rfl, rfl, trivial⟩ (.k (.k (.k .z))) ?_
    refine St.seq ?_
    refine St.seq ?_
    refine St.region ?_
    iterate 3 refine St.p rfl rfl ?_
    refine St.done ?_
    refine St.thenN ?_
    refine St.prune (Γ' := [(3, _), (6, _), (23, _), (24, _), (25, _)]) ⟨rfl, rfl, rfl, rfl, rfl, trivial⟩ (.k (.k (.k .z))) ?_
    obtain ⟨o2, hl2, h⟩ := bnd_e h
    refine St.cutE (fun (e4 : Unit) => [(6, .map (some g3))]) (fun e4 => .res (MapB kstr (fun x => .int .i64 x) g3 o2) :: R) ?_ ?_
    · refine St.block ?_
      refine St.loop hl2 (fun (s2 : Int × (List (ByteArray × Int))) (e3 : Unit) => [(3, .map (some g1)), (6, .map (some g3)), (23, .slice A1 l_p0.length c1), (24, .int .i64 (l_p0.length : Int)), (25, .int .i64 s2.1)]) (fun s2 e3 => .res (MapB kstr (fun x => .int .i64 x) g3 s2.2) :: .res (MapB kstr (fun x => .int .i64 x) g1 o1) :: .ro (SlL e_Known A1 c1 l_p0) :: R) (fun _ _ => True) () trivial ⟨rfl, rfl, rfl, rfl, rfl, trivial⟩ (fun _ w => ((.k (.k (.k .z))) : Keep _ _).sat w) ?_
      rintro s2 e3 - hit2
      obtain ⟨st2, hm2, hd2⟩ := iter_e hit2
      have h2 := hm2
      refine St.seq ?_
      refine St.region ?_
      refine St.p rfl rfl ?_
      refine St.done ?_
      refine St.thenN ?_
      refine St.seq ?_
      refine St.cond _ rfl (fun hb2 => ?_) (fun hb2 => ?_)
      · replace h2 := bif_t hb2 h2
        refine St.skip ?_
        refine St.thenN ?_
        refine St.prune (Γ' := [(3, _), (6, _), (23, _), (24, _), (25, _)]) ⟨rfl, rfl, rfl, rfl, rfl, trivial⟩ (.k (.k (.k .z))) ?_
        refine St.seq ?_
        refine St.block ?_
        refine St.seq ?_
        refine St.region ?_
        obtain ⟨x2, hx2, h2⟩ := bnd_e h2
        refine St.ixL hx2 rfl rfl rfl (.tail _ (.tail _ (.head _))) rfl rfl rfl rfl rfl fun b2 ob2 => ?_
        refine St.load ob2 0 rfl rfl (.head _) rfl rfl ?_
        refine St.alloc rfl rfl fun g4 => ?_
        refine St.store 0 rfl rfl rfl rfl rfl rfl .z rfl ?_
        refine St.done ?_
        refine St.thenN ?_
        refine St.prune (Γ' := [(3, _), (6, _), (8, _), (23, _), (24, _), (25, _)]) ⟨rfl, rfl, rfl, rfl, rfl, rfl, trivial⟩ (.k (.d (.k (.k (.k .z))))) ?_
        refine St.seq ?_
        obtain ⟨o3, hj1, h2⟩ := bnd_e h2
        refine St.cutE (fun (e5 : Unit) => [(3, .map (some g1)), (6, .map (some g3)), (8, .pointer (some ⟨g4, 0, none⟩)), (23, .slice A1 l_p0.length c1), (24, .int .i64 (l_p0.length : Int)), (25, .int .i64 s2.1), (38, .bool o3)]) (fun e5 => .res (Box g4 45 [.int .i64 x2.Slot, .bool x2.Good, .string x2.Serial, .int .u32 x2.Sum]) :: .res (MapB kstr (fun x => .int .i64 x) g3 s2.2) :: .res (MapB kstr (fun x => .int .i64 x) g1 o1) :: .ro (SlL e_Known A1 c1 l_p0) :: R) ?_ ?_
        · refine St.region ?_
          refine St.p rfl rfl ?_
          refine St.loadB 2 rfl rfl (.head _) rfl rfl ?_
          refine St.p rfl rfl ?_
          refine St.p rfl rfl ?_
          refine St.gSplit (dj := 32) _ rfl (fun hb3 => ?_) (fun hb3 => ?_)
          · replace hj1 := bif_t hb3 hj1
            refine St.gOn (dj := 32) rfl rfl ?_
            refine St.p rfl rfl ?_
            refine St.gOn (dj := 32) rfl rfl ?_
            refine St.p rfl rfl ?_
            refine St.gOn (dj := 32) rfl rfl ?_
            refine St.loadB 2 rfl rfl (.head _) rfl rfl ?_
            refine St.gOn (dj := 32) rfl rfl ?_
            refine St.lookup (K := kstr) (vv := (fun x => .int .i64 x)) (u := .int .i64 ((mget kstr.eq o1 x2.Serial).getD 0)) 0 x2.Serial rfl rfl rfl (.tail _ (.tail _ (.head _))) rfl rfl rfl rfl rfl rfl rfl ?_
            refine St.gOn (dj := 32) rfl rfl ?_
            refine St.p rfl rfl ?_
            refine St.p rfl rfl ?_
            refine St.done ?_
            injection hj1 with hj1
            subst hj1
            refine St.thenN ?_
            exact St.hereE () ⟨rfl, rfl, rfl, rfl, rfl, rfl, rfl, trivial⟩ (fun _ w => ((.k (.k (.k (.k .z)))) : Keep _ _).sat w)
          · replace hj1 := bif_f hb3 hj1
            refine St.gOff (dj := 32) rfl rfl rfl rfl ?_
            refine St.gOff (dj := 32) rfl rfl rfl rfl ?_
            refine St.gOff (dj := 32) rfl rfl rfl rfl ?_
            refine St.gOff (dj := 32) rfl rfl rfl rfl ?_
            refine St.gOff (dj := 32) rfl rfl rfl rfl ?_
            refine St.p rfl rfl ?_
            refine St.done ?_
            injection hj1 with hj1
            subst hj1
            refine St.thenN ?_
            exact St.hereE () ⟨rfl, rfl, rfl, rfl, rfl, rfl, rfl, trivial⟩ (fun _ w => ((.k (.k (.k (.k .z)))) : Keep _ _).sat w)
        · rintro e5
          refine St.cond _ rfl (fun hb4 => ?_) (fun hb4 => ?_)
          · replace h2 := bif_t hb4 h2
            refine St.region ?_
            refine St.p rfl rfl ?_
            refine St.p rfl rfl ?_
            refine St.loadB 2 rfl rfl (.head _) rfl rfl ?_
            refine St.p rfl rfl ?_
            refine St.loadB 0 rfl rfl (.head _) rfl rfl ?_
            refine St.mapUpdate (K := kstr) (vv := (fun x => .int .i64 x)) x2.Serial x2.Slot rfl rfl rfl (.s .z) rfl rfl rfl rfl ?_
            refine St.done ?_
            refine St.blkN ?_
            refine St.thenN ?_
            refine St.prune (Γ' := [(3, _), (6, _), (23, _), (24, _), (25, _)]) ⟨rfl, rfl, rfl, rfl, rfl, trivial⟩ (.k (.d (.k (.k .z)))) ?_
            refine St.region ?_
            refine St.p rfl rfl ?_
            refine St.p rfl rfl ?_
            refine St.done ?_
            injection h2 with h2
            subst h2
            refine St.thenN ?_
            exact St.again _ () hm2 trivial ⟨rfl, rfl, rfl, rfl, rfl, trivial⟩ (fun _ w => ((.k (.k (.k .z))) : Keep _ _).sat w)
          · replace h2 := bif_f hb4 h2
            refine St.skip ?_
            refine St.blkN ?_
            refine St.thenN ?_
            refine St.prune (Γ' := [(3, _), (6, _), (23, _), (24, _), (25, _)]) ⟨rfl, rfl, rfl, rfl, rfl, trivial⟩ (.d (.k (.k (.k .z)))) ?_
            refine St.region ?_
            refine St.p rfl rfl ?_
            refine St.p rfl rfl ?_
            refine St.done ?_
            injection h2 with h2
            subst h2
            refine St.thenN ?_
            exact St.again _ () hm2 trivial ⟨rfl, rfl, rfl, rfl, rfl, trivial⟩ (fun _ w => ((.k (.k (.k .z))) : Keep _ _).sat w)
      · replace h2 := bif_f hb2 h2
        refine St.exit ?_
        repeat (first | refine St.thenX ?_ | refine St.blkMiss rfl ?_)
        refine St.blkHit ?_
        injection h2 with h2
        subst h2
        have ho := hd2 _ rfl
        subst ho
        refine St.thenN ?_
        exact St.hereE () ⟨rfl, trivial⟩ (fun _ w => ((.k (.d (.d .z))) : Keep _ _).sat w)
    · rintro e4
      refine St.seq ?_
      refine St.region ?_
      refine St.p rfl rfl ?_
      refine St.p rfl rfl ?_
      refine St.done ?_
      refine St.thenN ?_
      refine St.prune (Γ' := [(2, _)]) ⟨rfl, trivial⟩ (.k .z) ?_
      refine St.ret ?_
      repeat (first | refine St.thenR ?_ | refine St.blkR ?_)
      injection h with h
      subst h
      exact St.finR Try.results48 (.tmp rfl .nil) rfl [.res (MapB kstr (fun x => .int .i64 x) g3 o2)] ⟨g3, rfl, rfl⟩ (fun _ w => ((.k .z) : Keep _ _).sat w)

theorem ent52 : Ent Try.prog 52 := ⟨_, Try.func52, by kernel_rfl, by kernel_rfl⟩

noncomputable def m_inventory_at_1 (k_p0 : T_Known) (cap0 : Int) : Option Bool :=
  some (k_p0.Slot == cap0)

theorem c_inventory_at_1 {k_p0 : T_Known} {cap0 : Int} {gb1 : Nat} {r : Bool} (h : m_inventory_at_1 k_p0 cap0 = some r) :
    Fun Try.prog 52 [.agg #[.int .i64 k_p0.Slot, .bool k_p0.Good, .string k_p0.Serial, .int .u32 k_p0.Sum], .pointer (some ⟨gb1, 0, none⟩)] [.res (Box gb1 3 [.int .i64 cap0])] (fun v_ F_ => v_ = .bool r ∧ F_ = [.res (Box gb1 3 [.int .i64 cap0])]) := by
  unfold m_inventory_at_1 at h
  refine Fun.intro Try.func52 rfl rfl rfl fun w R => ?_
  refine St.seq ?_
  refine St.region ?_
  refine St.box rfl rfl fun g1 => ?_
  refine St.p rfl rfl ?_
  refine St.done ?_
  refine St.thenN ?_
  refine St.prune (Γ' := [(1, _), (2, _)]) ⟨rfl, rfl, trivial⟩ (.k (.k .z)) ?_
  refine St.seq ?_
  refine St.region ?_
  refine St.p rfl rfl ?_
  refine St.loadB 0 rfl rfl (.head _) rfl rfl ?_
  refine St.loadB 0 rfl rfl (.tail _ (.head _)) rfl rfl ?_
  refine St.p rfl rfl ?_
  refine St.p rfl rfl ?_
  refine St.done ?_
  refine St.thenN ?_
  refine St.prune (Γ' := [(3, _)]) ⟨rfl, trivial⟩ (.d (.k .z)) ?_
  refine St.ret ?_
  repeat (first | refine St.thenR ?_ | refine St.blkR ?_)
  injection h with h
  subst h
  exact St.finR Try.results52 (.tmp rfl .nil) rfl [.res (Box gb1 3 [.int .i64 cap0])] ⟨rfl, rfl⟩ (fun _ w => ((.k .z) : Keep _ _).sat w)

theorem ent51 : Ent Try.prog 51 := ⟨_, Try.func51, by kernel_rfl, by kernel_rfl⟩

noncomputable def m_slices_IndexFunc__api_Known_api_Known_f52 (s_p0 : (List T_Known)) (f_p1_c0 : Int) : Option Int :=
  bnd (loopM (τ := Int ⊕ Unit) (fun (s1 : Int) => bif decide (s1 < (s_p0.length : Int)) then (bnd (elt s_p0 s1) fun x1 => bnd (m_inventory_at_1 x1 f_p1_c0) fun r1 => bif r1 then (some (.done (.inl s1))) else (some (.next (IntKind.wrap .i64 (s1 + 1))))) else (some (.done (.inr ())))) 0) fun o1 => retOr o1 fun o2 => some (-1)

theorem c_slices_IndexFunc__api_Known_api_Known_f52 {s_p0 : (List T_Known)} {f_p1_c0 : Int} {A1 : Option Addr} {c1 : Nat} {gb1 : Nat} {r : Int} (h : m_slices_IndexFunc__api_Known_api_Known_f52 s_p0 f_p1_c0 = some r) :
    Fun Try.prog 51 [.slice A1 s_p0.length c1, .func (.func 52) #[] #[.pointer (some ⟨gb1, 0, none⟩)]] [.ro (SlL e_Known A1 c1 s_p0), .res (Box gb1 3 [.int .i64 f_p1_c0])] (fun v_ F_ => v_ = .int .i64 r ∧ F_ = [.res (Box gb1 3 [.int .i64 f_p1_c0])]) := by
  unfold m_slices_IndexFunc__api_Known_api_Known_f52 at h
  refine Fun.intro Try.func51 rfl rfl rfl fun w R => ?_
  refine St.seq ?_
  refine St.region ?_
  refine St.p rfl rfl ?_
  refine St.done ?_
  refine St.thenN ?_
  refine St.prune (Γ' := [(0, _), (1, _)]) ⟨rfl, rfl, trivial⟩ (.k (.k .z)) ?_
  refine St.seq ?_
  refine St.seq ?_
  refine St.region ?_
  iterate 3 refine St.p rfl rfl ?_
  refine St.done ?_
  refine St.thenN ?_
  refine St.prune (Γ' := [(0, _), (1, _), (7, _), (8, _)]) ⟨rfl, rfl, rfl, rfl, trivial⟩ (.k (.k .z)) ?_
  obtain ⟨o1, hl1, h⟩ := bnd_e h
  refine St.cutI (fun (o2 : Unit) (e2 : Unit) => []) (fun o2 e2 => .res (Box gb1 3 [.int .i64 f_p1_c0]) :: R) (fun o2 => o1 = .inr o2) ?_ ?_
  · refine St.block ?_
    refine St.loop hl1 (fun (s1 : Int) (e1 : Unit) => [(0, .slice A1 s_p0.length c1), (1, .func (.func 52) #[] #[.pointer (some ⟨gb1, 0, none⟩)]), (7, .int .i64 (s_p0.length : Int)), (8, .int .i64 s1)]) (fun s1 e1 => .ro (SlL e_Known A1 c1 s_p0) :: .res (Box gb1 3 [.int .i64 f_p1_c0]) :: R) (fun _ _ => True) () trivial ⟨rfl, rfl, rfl, rfl, trivial⟩ (fun _ w => ((.k (.k .z)) : Keep _ _).sat w) ?_
    rintro s1 e1 - hit1
    obtain ⟨st1, hm1, hd1⟩ := iter_e hit1
    have h1 := hm1
    refine St.seq ?_
    refine St.region ?_
    refine St.p rfl rfl ?_
    refine St.done ?_
    refine St.thenN ?_
    refine St.seq ?_
    refine St.cond _ rfl (fun hb1 => ?_) (fun hb1 => ?_)
    · replace h1 := bif_t hb1 h1
      refine St.skip ?_
      refine St.thenN ?_
      refine St.prune (Γ' := [(0, _), (1, _), (7, _), (8, _)]) ⟨rfl, rfl, rfl, rfl, trivial⟩ (.k (.k .z)) ?_
      refine St.seq ?_
      refine St.block ?_
      refine St.seq ?_
      refine St.region ?_
      refine St.p rfl rfl ?_
      refine St.p rfl rfl ?_
      refine St.done ?_
      refine St.thenN ?_
      refine St.prune (Γ' := [(0, _), (1, _), (5, _), (7, _), (8, _)]) ⟨rfl, rfl, rfl, rfl, rfl, trivial⟩ (.k (.k .z)) ?_
      refine St.seq ?_
      refine St.region ?_
      iterate 3 refine St.p rfl rfl ?_
      obtain ⟨x1, hx1, h1⟩ := bnd_e h1
      refine St.ixL hx1 rfl rfl rfl (.head _) rfl rfl rfl rfl rfl fun b1 ob1 => ?_
      refine St.load ob1 0 rfl rfl (.head _) rfl rfl ?_
      obtain ⟨r1, hr1, h1⟩ := bnd_e h1
      refine St.callC (args := [.agg #[.int .i64 x1.Slot, .bool x1.Good, .string x1.Serial, .int .u32 x1.Sum]]) (us := [.pointer (some ⟨gb1, 0, none⟩)]) (c_inventory_at_1 hr1) ent52 rfl rfl rfl (fun _ w => (w.front (.s (.s .z)))) ?_
      rintro _ _ ⟨rfl, rfl⟩
      refine St.asrt (F' := .res (Box gb1 3 [.int .i64 f_p1_c0]) :: .ro (Cells b1 ob1 [.int .i64 x1.Slot, .bool x1.Good, .string x1.Serial, .int .u32 x1.Sum]) :: .ro (SlL e_Known A1 c1 s_p0) :: R) (fun _ w => w) ?_
      refine St.done ?_
      refine St.thenN ?_
      refine St.prune (Γ' := [(0, _), (1, _), (5, _), (7, _), (8, _), (16, _)]) ⟨rfl, rfl, rfl, rfl, rfl, rfl, trivial⟩ (.k (.d (.k .z))) ?_
      refine St.cond _ rfl (fun hb2 => ?_) (fun hb2 => ?_)
      · replace h1 := bif_t hb2 h1
        refine St.seq ?_
        refine St.region ?_
        refine St.p rfl rfl ?_
        refine St.p rfl rfl ?_
        refine St.done ?_
        refine St.thenN ?_
        refine St.prune (Γ' := [(4, _)]) ⟨rfl, trivial⟩ (.k (.d .z)) ?_
        refine St.ret ?_
        repeat (first | refine St.thenR ?_ | refine St.blkR ?_)
        injection h1 with h1
        subst h1
        have ho := hd1 _ rfl
        subst ho
        have h : some _ = some _ := h
        injection h with h
        subst h
        exact St.finR Try.results51 (.tmp rfl .nil) rfl [.res (Box gb1 3 [.int .i64 f_p1_c0])] ⟨rfl, rfl⟩ (fun _ w => ((.k .z) : Keep _ _).sat w)
      · replace h1 := bif_f hb2 h1
        refine St.skip ?_
        refine St.blkN ?_
        refine St.thenN ?_
        refine St.prune (Γ' := [(0, _), (1, _), (7, _), (8, _)]) ⟨rfl, rfl, rfl, rfl, trivial⟩ (.k (.k .z)) ?_
        refine St.region ?_
        refine St.p rfl rfl ?_
        refine St.p rfl rfl ?_
        refine St.done ?_
        injection h1 with h1
        subst h1
        refine St.thenN ?_
        exact St.again _ () hm1 trivial ⟨rfl, rfl, rfl, rfl, trivial⟩ (fun _ w => ((.k (.k .z)) : Keep _ _).sat ((w.front .z).front (.s .z)))
    · replace h1 := bif_f hb1 h1
      refine St.exit ?_
      repeat (first | refine St.thenX ?_ | refine St.blkMiss rfl ?_)
      refine St.blkHit ?_
      injection h1 with h1
      subst h1
      have ho := hd1 _ rfl
      subst ho
      refine St.thenN ?_
      exact St.hereI () () rfl trivial (fun _ w => ((.d (.k .z)) : Keep _ _).sat w)
  · rintro o2 e2 ho
    subst ho
    have h : _ = some _ := h
    refine St.seq ?_
    refine St.region ?_
    refine St.p rfl rfl ?_
    refine St.done ?_
    refine St.thenN ?_
    refine St.ret ?_
    repeat (first | refine St.thenR ?_ | refine St.blkR ?_)
    injection h with h
    subst h
    exact St.finR Try.results51 (.tmp rfl .nil) rfl [.res (Box gb1 3 [.int .i64 f_p1_c0])] ⟨rfl, rfl⟩ (fun _ w => ((.k .z) : Keep _ _).sat w)

theorem ent45 : Ent Try.prog 45 := ⟨_, Try.func45, by kernel_rfl, by kernel_rfl⟩

noncomputable def m_inventory_at (l_p0 : (List T_Known)) (slot : Int) : Option (T_Known × Bool) :=
  bnd (m_slices_IndexFunc__api_Known_api_Known_f52 l_p0 slot) fun r1 => bif decide (r1 < 0) then (some ((⟨0, false, ⟨#[]⟩, 0⟩ : T_Known), false)) else (bnd (elt l_p0 r1) fun x1 => some (x1, true))

theorem c_inventory_at {l_p0 : (List T_Known)} {slot : Int} {A1 : Option Addr} {c1 : Nat} {r : (T_Known × Bool)} (h : m_inventory_at l_p0 slot = some r) :
    Fun Try.prog 45 [.slice A1 l_p0.length c1, .int .i64 slot] [.ro (SlL e_Known A1 c1 l_p0)] (Val (.tuple #[.agg #[.int .i64 r.1.Slot, .bool r.1.Good, .string r.1.Serial, .int .u32 r.1.Sum], .bool r.2])) := by
  unfold m_inventory_at at h
  refine Fun.intro Try.func45 rfl rfl rfl fun w R => ?_
  refine St.seq ?_
  refine St.region ?_
  refine St.box rfl rfl fun g1 => ?_
  refine St.alloc rfl rfl fun g2 => ?_
  refine St.p rfl rfl ?_
  refine St.done ?_
  refine St.thenN ?_
  refine St.prune (Γ' := [(0, _), (3, _), (4, _)]) ⟨rfl, rfl, rfl, trivial⟩ (.k (.k (.k .z))) ?_
  refine St.seq ?_
  refine St.region ?_
  refine St.p rfl rfl ?_
  refine St.p rfl rfl ?_
  obtain ⟨r1, hr1, h⟩ := bnd_e h
  refine St.call (c_slices_IndexFunc__api_Known_api_Known_f52 hr1) ent51 rfl rfl rfl (fun _ w => Sat.dup (G := [.ro (SlL e_Known A1 c1 l_p0)]) rfl ⟨(.tail _ (.tail _ (.head _))), trivial⟩ (w.front (.s .z))) ?_
  rintro _ _ ⟨rfl, rfl⟩
  refine St.asrt (F' := .res (Box g1 3 [.int .i64 slot]) :: .res (Box g2 45 [.int .i64 0, .bool false, .string (⟨#[]⟩), .int .u32 0]) :: .ro (SlL e_Known A1 c1 l_p0) :: R) (fun _ w => w) ?_
  refine St.p rfl rfl ?_
  refine St.done ?_
  refine St.thenN ?_
  refine St.prune (Γ' := [(0, _), (4, _), (6, _)]) ⟨rfl, rfl, rfl, trivial⟩ (.d (.k (.k .z))) ?_
  refine St.seq ?_
  refine St.seq ?_
  refine St.region ?_
  refine St.p rfl rfl ?_
  refine St.p rfl rfl ?_
  refine St.done ?_
  refine St.thenN ?_
  refine St.prune (Γ' := [(0, _), (4, _), (6, _), (11, _)]) ⟨rfl, rfl, rfl, rfl, trivial⟩ (.k (.k .z)) ?_
  refine St.cond _ rfl (fun hb1 => ?_) (fun hb1 => ?_)
  · replace h := bif_t hb1 h
    refine St.seq ?_
    refine St.region ?_
    refine St.p rfl rfl ?_
    refine St.store 0 rfl rfl rfl rfl rfl rfl .z rfl ?_
    refine St.p rfl rfl ?_
    refine St.done ?_
    refine St.thenN ?_
    refine St.prune (Γ' := [(4, _), (5, _)]) ⟨rfl, rfl, trivial⟩ (.k (.d .z)) ?_
    refine St.ret ?_
    repeat (first | refine St.thenR ?_ | refine St.blkR ?_)
    injection h with h
    subst h
    exact St.finR Try.results45 (.cell rfl (.head _) rfl (.tmp rfl .nil)) rfl [] ⟨rfl, rfl⟩ (fun _ w => ((.d .z) : Keep _ _).sat w)
  · replace h := bif_f hb1 h
    refine St.skip ?_
    refine St.thenN ?_
    refine St.prune (Γ' := [(0, _), (4, _), (6, _)]) ⟨rfl, rfl, rfl, trivial⟩ (.k (.k .z)) ?_
    refine St.seq ?_
    refine St.region ?_
    refine St.p rfl rfl ?_
    refine St.p rfl rfl ?_
    obtain ⟨x1, hx1, h⟩ := bnd_e h
    refine St.ixL hx1 rfl rfl rfl (.tail _ (.head _)) rfl rfl rfl rfl rfl fun b1 ob1 => ?_
    refine St.load ob1 0 rfl rfl (.head _) rfl rfl ?_
    refine St.store 0 rfl rfl rfl rfl rfl rfl (.s .z) rfl ?_
    refine St.p rfl rfl ?_
    refine St.done ?_
    refine St.thenN ?_
    refine St.prune (Γ' := [(4, _), (5, _)]) ⟨rfl, rfl, trivial⟩ (.k (.d (.d .z))) ?_
    refine St.ret ?_
    repeat (first | refine St.thenR ?_ | refine St.blkR ?_)
    injection h with h
    subst h
    exact St.finR Try.results45 (.cell rfl (.head _) rfl (.tmp rfl .nil)) rfl [] ⟨rfl, rfl⟩ (fun _ w => ((.d .z) : Keep _ _).sat w)

theorem ent49 : Ent Try.prog 49 := ⟨_, Try.func49, by kernel_rfl, by kernel_rfl⟩

noncomputable def m_inventory_other (k_p0 : T_Known) (own : (List (ByteArray × Int))) (others : (List (ByteArray × Int))) : Option Int :=
  bnd ((bif !((mget kstr.eq own k_p0.Serial).isSome) then (some true) else (some (!((mget kstr.eq others k_p0.Serial).isSome))) : Option Bool)) fun o1 => bif o1 then (some (-1)) else (some ((mget kstr.eq others k_p0.Serial).getD 0))

theorem c_inventory_other {k_p0 : T_Known} {own : (List (ByteArray × Int))} {others : (List (ByteArray × Int))} {gb1 : Nat} {gb2 : Nat} {r : Int} (h : m_inventory_other k_p0 own others = some r) :
    Fun Try.prog 49 [.agg #[.int .i64 k_p0.Slot, .bool k_p0.Good, .string k_p0.Serial, .int .u32 k_p0.Sum], .map (some gb1), .map (some gb2)] [.res (MapB kstr (fun x => .int .i64 x) gb1 own), .res (MapB kstr (fun x => .int .i64 x) gb2 others)] (fun v_ F_ => v_ = .int .i64 r ∧ F_ = [.res (MapB kstr (fun x => .int .i64 x) gb1 own), .res (MapB kstr (fun x => .int .i64 x) gb2 others)]) := by
  unfold m_inventory_other at h
  refine Fun.intro Try.func49 rfl rfl rfl fun w R => ?_
  refine St.seq ?_
  refine St.region ?_
  refine St.box rfl rfl fun g1 => ?_
  refine St.p rfl rfl ?_
  refine St.done ?_
  refine St.thenN ?_
  refine St.prune (Γ' := [(1, _), (2, _), (3, _)]) ⟨rfl, rfl, rfl, trivial⟩ (.k (.k (.k .z))) ?_
  refine St.seq ?_
  refine St.region ?_
  refine St.p rfl rfl ?_
  refine St.p rfl rfl ?_
  refine St.loadB 2 rfl rfl (.head _) rfl rfl ?_
  refine St.lookup (K := kstr) (vv := (fun x => .int .i64 x)) (u := .tuple #[.int .i64 ((mget kstr.eq own k_p0.Serial).getD 0), .bool ((mget kstr.eq own k_p0.Serial).isSome)]) 0 k_p0.Serial rfl rfl rfl (.tail _ (.head _)) rfl rfl rfl rfl rfl rfl rfl ?_
  iterate 5 refine St.p rfl rfl ?_
  refine St.done ?_
  refine St.thenN ?_
  refine St.prune (Γ' := [(2, _), (3, _), (8, _)]) ⟨rfl, rfl, rfl, trivial⟩ (.k (.k (.k .z))) ?_
  refine St.seq ?_
  refine St.region ?_
  refine St.p rfl rfl ?_
  refine St.p rfl rfl ?_
  refine St.loadB 2 rfl rfl (.head _) rfl rfl ?_
  refine St.lookup (K := kstr) (vv := (fun x => .int .i64 x)) (u := .tuple #[.int .i64 ((mget kstr.eq others k_p0.Serial).getD 0), .bool ((mget kstr.eq others k_p0.Serial).isSome)]) 0 k_p0.Serial rfl rfl rfl (.tail _ (.tail _ (.head _))) rfl rfl rfl rfl rfl rfl rfl ?_
  iterate 5 refine St.p rfl rfl ?_
  refine St.done ?_
  refine St.thenN ?_
  refine St.prune (Γ' := [(8, _), (9, _), (10, _)]) ⟨rfl, rfl, rfl, trivial⟩ (.d (.k (.k .z))) ?_
  refine St.seq ?_
  refine St.seq ?_
  obtain ⟨o1, hj1, h⟩ := bnd_e h
  refine St.cutE (fun (e1 : Unit) => [(9, .int .i64 ((mget kstr.eq others k_p0.Serial).getD 0)), (30, .bool o1)]) (fun e1 => .res (MapB kstr (fun x => .int .i64 x) gb1 own) :: .res (MapB kstr (fun x => .int .i64 x) gb2 others) :: R) ?_ ?_
  · refine St.region ?_
    iterate 3 refine St.p rfl rfl ?_
    refine St.gSplit (dj := 27) _ rfl (fun hb1 => ?_) (fun hb1 => ?_)
    · replace hj1 := bif_t hb1 hj1
      refine St.gOff (dj := 27) rfl rfl rfl rfl ?_
      refine St.gOff (dj := 27) rfl rfl rfl rfl ?_
      refine St.p rfl rfl ?_
      refine St.done ?_
      injection hj1 with hj1
      subst hj1
      refine St.thenN ?_
      exact St.hereE () ⟨rfl, rfl, trivial⟩ (fun _ w => ((.k (.k .z)) : Keep _ _).sat w)
    · replace hj1 := bif_f hb1 hj1
      refine St.gOn (dj := 27) rfl rfl ?_
      refine St.p rfl rfl ?_
      refine St.gOn (dj := 27) rfl rfl ?_
      refine St.p rfl rfl ?_
      refine St.p rfl rfl ?_
      refine St.done ?_
      injection hj1 with hj1
      subst hj1
      refine St.thenN ?_
      exact St.hereE () ⟨rfl, rfl, trivial⟩ (fun _ w => ((.k (.k .z)) : Keep _ _).sat w)
  · rintro e1
    refine St.cond _ rfl (fun hb2 => ?_) (fun hb2 => ?_)
    · replace h := bif_t hb2 h
      refine St.seq ?_
      refine St.region ?_
      refine St.p rfl rfl ?_
      refine St.done ?_
      refine St.thenN ?_
      refine St.prune (Γ' := [(6, _)]) ⟨rfl, trivial⟩ (.k (.k .z)) ?_
      refine St.ret ?_
      repeat (first | refine St.thenR ?_ | refine St.blkR ?_)
      injection h with h
      subst h
      exact St.finR Try.results49 (.tmp rfl .nil) rfl [.res (MapB kstr (fun x => .int .i64 x) gb1 own), .res (MapB kstr (fun x => .int .i64 x) gb2 others)] ⟨rfl, rfl⟩ (fun _ w => ((.k (.k .z)) : Keep _ _).sat ((w.front (.s .z)).front (.s .z)))
    · replace h := bif_f hb2 h
      refine St.skip ?_
      refine St.thenN ?_
      refine St.prune (Γ' := [(9, _)]) ⟨rfl, trivial⟩ (.k (.k .z)) ?_
      refine St.seq ?_
      refine St.region ?_
      refine St.p rfl rfl ?_
      refine St.p rfl rfl ?_
      refine St.done ?_
      refine St.thenN ?_
      refine St.prune (Γ' := [(6, _)]) ⟨rfl, trivial⟩ (.k (.k .z)) ?_
      refine St.ret ?_
      repeat (first | refine St.thenR ?_ | refine St.blkR ?_)
      injection h with h
      subst h
      exact St.finR Try.results49 (.tmp rfl .nil) rfl [.res (MapB kstr (fun x => .int .i64 x) gb1 own), .res (MapB kstr (fun x => .int .i64 x) gb2 others)] ⟨rfl, rfl⟩ (fun _ w => ((.k (.k .z)) : Keep _ _).sat ((w.front (.s .z)).front (.s .z)))

theorem ent35 : Ent Try.prog 35 := ⟨_, Try.func35, by kernel_rfl, by kernel_rfl⟩

noncomputable def m_inventory_compare (old_p0 : (List T_Known)) (new_p1 : (List T_Known)) (slot : Int) : Option (List T_Difference) :=
  bnd (m_inventory_identified old_p0) fun r1 => bnd (m_inventory_identified new_p1) fun r2 => bnd (m_inventory_at old_p0 slot) fun r3 => bnd (m_inventory_at new_p1 slot) fun r4 => bnd ((bif r3.2 then (bnd (m_inventory_other r3.1 r1 r2) fun r5 => some (r5 == (-1))) else (some false) : Option Bool)) fun o1 => bnd ((bif r4.2 then (bnd (m_inventory_other r4.1 r2 r1) fun r6 => some r6) else (some (-1)) : Option Int)) fun o2 => bnd ((bnd ((bif o1 then (bif !r4.2 then (some true) else (some (o2 != (-1)))) else (some false) : Option Bool)) fun o4 => bif o4 then (bnd (app 24 ([]) ([(⟨2, slot, 0⟩ : T_Difference)])) fun l1 => some l1) else (some ([])) : Option (List T_Difference))) fun o3 => bif !r4.2 then (some o3) else (bnd ((bif (o2 != (-1)) then (some (o2 != slot)) else (some false) : Option Bool)) fun o5 => bif o5 then (bnd (app 24 o3 ([(⟨4, slot, o2⟩ : T_Difference)])) fun l2 => some l2) else (bif (o2 == slot) then (bif (r3.1.Sum != r4.1.Sum) then (bnd (app 24 o3 ([(⟨5, slot, 0⟩ : T_Difference)])) fun l3 => some l3) else (some o3)) else (bif !o1 then (bnd (app 24 o3 ([(⟨1, slot, 0⟩ : T_Difference)])) fun l4 => some l4) else (bif !((r3.1.Slot == r4.1.Slot) && ((r3.1.Good == r4.1.Good) && ((r3.1.Serial.toList == r4.1.Serial.toList) && ((r3.1.Sum == r4.1.Sum) && true)))) then (bnd (app 24 o3 ([(⟨3, slot, 0⟩ : T_Difference)])) fun l5 => some l5) else (some o3)))))

theorem c_inventory_compare {old_p0 : (List T_Known)} {new_p1 : (List T_Known)} {slot : Int} {A1 : Option Addr} {c1 : Nat} {A2 : Option Addr} {c2 : Nat} {r : (List T_Difference)} (h : m_inventory_compare old_p0 new_p1 slot = some r) :
    Fun Try.prog 35 [.slice A1 old_p0.length c1, .slice A2 new_p1.length c2, .int .i64 slot] [.ro (SlL e_Known A1 c1 old_p0), .ro (SlL e_Known A2 c2 new_p1)] (fun v_ F_ => ∃ (A1 : Option Addr) (c1 : Nat), v_ = .slice A1 r.length c1 ∧ F_ = [.res (OwnL e_Difference 40 A1 c1 r)]) := by
  unfold m_inventory_compare at h
  refine Fun.intro Try.func35 rfl rfl rfl fun w R => ?_
  refine St.seq ?_
  refine St.region ?_
  refine St.p rfl rfl ?_
  refine St.done ?_
  refine St.thenN ?_
  refine St.prune (Γ' := [(0, _), (1, _), (2, _)]) ⟨rfl, rfl, rfl, trivial⟩ (.k (.k .z)) ?_
  refine St.seq ?_
  refine St.region ?_
  refine St.p rfl rfl ?_
  obtain ⟨r1, hr1, h⟩ := bnd_e h
  refine St.call (c_inventory_identified hr1) ent48 rfl rfl rfl (fun _ w => Sat.dup (G := [.ro (SlL e_Known A1 c1 old_p0)]) rfl ⟨(.head _), trivial⟩ w) ?_
  rintro _ _ ⟨g1, rfl, rfl⟩
  refine St.asrt (F' := .res (MapB kstr (fun x => .int .i64 x) g1 r1) :: .ro (SlL e_Known A1 c1 old_p0) :: .ro (SlL e_Known A2 c2 new_p1) :: R) (fun _ w => w) ?_
  refine St.p rfl rfl ?_
  obtain ⟨r2, hr2, h⟩ := bnd_e h
  refine St.call (c_inventory_identified hr2) ent48 rfl rfl rfl (fun _ w => Sat.dup (G := [.ro (SlL e_Known A2 c2 new_p1)]) rfl ⟨(.tail _ (.tail _ (.head _))), trivial⟩ w) ?_
  rintro _ _ ⟨g2, rfl, rfl⟩
  refine St.asrt (F' := .res (MapB kstr (fun x => .int .i64 x) g2 r2) :: .res (MapB kstr (fun x => .int .i64 x) g1 r1) :: .ro (SlL e_Known A1 c1 old_p0) :: .ro (SlL e_Known A2 c2 new_p1) :: R) (fun _ w => w) ?_
  refine St.p rfl rfl ?_
  refine St.p rfl rfl ?_
  refine St.done ?_
  refine St.thenN ?_
  refine St.prune (Γ' := [(0, _), (1, _), (2, _), (7, _), (8, _)]) ⟨rfl, rfl, rfl, rfl, rfl, trivial⟩ (.k (.k (.k (.k .z)))) ?_
  refine St.seq ?_
  refine St.region ?_
  refine St.p rfl rfl ?_
  refine St.p rfl rfl ?_
  obtain ⟨r3, hr3, h⟩ := bnd_e h
  refine St.callV (c_inventory_at hr3) ent45 rfl rfl rfl rfl ⟨(.tail _ (.tail _ (.head _))), trivial⟩ ?_
  iterate 3 refine St.p rfl rfl ?_
  refine St.alloc rfl rfl fun g3 => ?_
  refine St.store 0 rfl rfl rfl rfl rfl rfl .z rfl ?_
  refine St.p rfl rfl ?_
  refine St.done ?_
  refine St.thenN ?_
  refine St.prune (Γ' := [(1, _), (2, _), (7, _), (8, _), (9, _), (10, _)]) ⟨rfl, rfl, rfl, rfl, rfl, rfl, trivial⟩ (.k (.k (.k (.d (.k .z))))) ?_
  refine St.seq ?_
  refine St.region ?_
  refine St.p rfl rfl ?_
  refine St.p rfl rfl ?_
  obtain ⟨r4, hr4, h⟩ := bnd_e h
  refine St.callV (c_inventory_at hr4) ent45 rfl rfl rfl rfl ⟨(.tail _ (.tail _ (.tail _ (.head _)))), trivial⟩ ?_
  iterate 3 refine St.p rfl rfl ?_
  refine St.alloc rfl rfl fun g4 => ?_
  refine St.store 0 rfl rfl rfl rfl rfl rfl .z rfl ?_
  refine St.p rfl rfl ?_
  refine St.done ?_
  refine St.thenN ?_
  refine St.prune (Γ' := [(2, _), (7, _), (8, _), (9, _), (10, _), (11, _), (12, _)]) ⟨rfl, rfl, rfl, rfl, rfl, rfl, rfl, trivial⟩ (.k (.k (.k (.k (.d .z))))) ?_
  refine St.seq ?_
  obtain ⟨o1, hj1, h⟩ := bnd_e h
  refine St.cutE (fun (e1 : Unit) => [(2, .int .i64 slot), (7, .map (some g1)), (8, .map (some g2)), (9, .pointer (some ⟨g3, 0, none⟩)), (11, .pointer (some ⟨g4, 0, none⟩)), (12, .bool r4.2), (13, .bool o1)]) (fun e1 => .res (Box g4 45 [.int .i64 r4.1.Slot, .bool r4.1.Good, .string r4.1.Serial, .int .u32 r4.1.Sum]) :: .res (Box g3 45 [.int .i64 r3.1.Slot, .bool r3.1.Good, .string r3.1.Serial, .int .u32 r3.1.Sum]) :: .res (MapB kstr (fun x => .int .i64 x) g2 r2) :: .res (MapB kstr (fun x => .int .i64 x) g1 r1) :: R) ?_ ?_
  · refine St.region ?_
    refine St.p rfl rfl ?_
    refine St.p rfl rfl ?_
    refine St.gSplit (dj := 33) _ rfl (fun hb1 => ?_) (fun hb1 => ?_)
    · replace hj1 := bif_t hb1 hj1
      refine St.gOn (dj := 33) rfl rfl ?_
      refine St.loadB 0 rfl rfl (.tail _ (.head _)) rfl rfl ?_
      refine St.gOn (dj := 33) rfl rfl ?_
      refine St.p rfl rfl ?_
      refine St.gOn (dj := 33) rfl rfl ?_
      refine St.p rfl rfl ?_
      refine St.gOn (dj := 33) rfl rfl ?_
      obtain ⟨r5, hr5, hj1⟩ := bnd_e hj1
      refine St.call (c_inventory_other hr5) ent49 rfl rfl rfl (fun _ w => ((w.front (.s (.s .z))).front (.s (.s (.s .z))))) ?_
      rintro _ _ ⟨rfl, rfl⟩
      refine St.asrt (F' := .res (MapB kstr (fun x => .int .i64 x) g1 r1) :: .res (MapB kstr (fun x => .int .i64 x) g2 r2) :: .res (Box g4 45 [.int .i64 r4.1.Slot, .bool r4.1.Good, .string r4.1.Serial, .int .u32 r4.1.Sum]) :: .res (Box g3 45 [.int .i64 r3.1.Slot, .bool r3.1.Good, .string r3.1.Serial, .int .u32 r3.1.Sum]) :: R) (fun _ w => w) ?_
      refine St.gOn (dj := 33) rfl rfl ?_
      iterate 3 refine St.p rfl rfl ?_
      refine St.done ?_
      injection hj1 with hj1
      subst hj1
      refine St.thenN ?_
      exact St.hereE () ⟨rfl, rfl, rfl, rfl, rfl, rfl, rfl, trivial⟩ (fun _ w => ((.k (.k (.k (.k .z)))) : Keep _ _).sat ((((w.front .z).front (.s .z)).front (.s (.s (.s .z)))).front (.s (.s (.s .z)))))
    · replace hj1 := bif_f hb1 hj1
      refine St.gOff (dj := 33) rfl rfl rfl rfl ?_
      refine St.gOff (dj := 33) rfl rfl rfl rfl ?_
      refine St.gOff (dj := 33) rfl rfl rfl rfl ?_
      refine St.gOff (dj := 33) rfl rfl rfl rfl ?_
      refine St.gOff (dj := 33) rfl rfl rfl rfl ?_
      refine St.p rfl rfl ?_
      refine St.p rfl rfl ?_
      refine St.done ?_
      injection hj1 with hj1
      subst hj1
      refine St.thenN ?_
      exact St.hereE () ⟨rfl, rfl, rfl, rfl, rfl, rfl, rfl, trivial⟩ (fun _ w => ((.k (.k (.k (.k .z)))) : Keep _ _).sat w)
  · rintro e1
    refine St.seq ?_
    refine St.region ?_
    refine St.p rfl rfl ?_
    refine St.done ?_
    refine St.thenN ?_
    refine St.seq ?_
    obtain ⟨o2, hj2, h⟩ := bnd_e h
    refine St.cutE (fun (e2 : Unit) => [(2, .int .i64 slot), (9, .pointer (some ⟨g3, 0, none⟩)), (11, .pointer (some ⟨g4, 0, none⟩)), (12, .bool r4.2), (13, .bool o1), (14, .int .i64 o2)]) (fun e2 => .res (Box g4 45 [.int .i64 r4.1.Slot, .bool r4.1.Good, .string r4.1.Serial, .int .u32 r4.1.Sum]) :: .res (Box g3 45 [.int .i64 r3.1.Slot, .bool r3.1.Good, .string r3.1.Serial, .int .u32 r3.1.Sum]) :: R) ?_ ?_
    · refine St.seq ?_
      refine St.region ?_
      refine St.p rfl rfl ?_
      refine St.done ?_
      refine St.thenN ?_
      refine St.cond _ rfl (fun hb2 => ?_) (fun hb2 => ?_)
      · replace hj2 := bif_t hb2 hj2
        refine St.region ?_
        refine St.loadB 0 rfl rfl (.head _) rfl rfl ?_
        refine St.p rfl rfl ?_
        refine St.p rfl rfl ?_
        obtain ⟨r6, hr6, hj2⟩ := bnd_e hj2
        refine St.call (c_inventory_other hr6) ent49 rfl rfl rfl (fun _ w => ((w.front (.s (.s (.s .z)))).front (.s (.s (.s .z))))) ?_
        rintro _ _ ⟨rfl, rfl⟩
        refine St.asrt (F' := .res (MapB kstr (fun x => .int .i64 x) g2 r2) :: .res (MapB kstr (fun x => .int .i64 x) g1 r1) :: .res (Box g4 45 [.int .i64 r4.1.Slot, .bool r4.1.Good, .string r4.1.Serial, .int .u32 r4.1.Sum]) :: .res (Box g3 45 [.int .i64 r3.1.Slot, .bool r3.1.Good, .string r3.1.Serial, .int .u32 r3.1.Sum]) :: R) (fun _ w => w) ?_
        refine St.p rfl rfl ?_
        refine St.done ?_
        injection hj2 with hj2
        subst hj2
        refine St.thenN ?_
        exact St.hereE () ⟨rfl, rfl, rfl, rfl, rfl, rfl, trivial⟩ (fun _ w => ((.d (.d (.k (.k .z)))) : Keep _ _).sat w)
      · replace hj2 := bif_f hb2 hj2
        refine St.skip ?_
        injection hj2 with hj2
        subst hj2
        refine St.thenN ?_
        exact St.hereE () ⟨rfl, rfl, rfl, rfl, rfl, rfl, trivial⟩ (fun _ w => ((.k (.k (.d (.d .z)))) : Keep _ _).sat w)
    · rintro e2
      refine St.seq ?_
      refine St.region ?_
      refine St.p rfl rfl ?_
      refine St.done ?_
      refine St.thenN ?_
      refine St.seq ?_
      obtain ⟨o3, hj3, h⟩ := bnd_e h
      refine St.cutE (fun (e3 : Option Addr × Nat) => [(2, .int .i64 slot), (9, .pointer (some ⟨g3, 0, none⟩)), (11, .pointer (some ⟨g4, 0, none⟩)), (12, .bool r4.2), (13, .bool o1), (14, .int .i64 o2), (15, .slice e3.1 o3.length e3.2)]) (fun e3 => .res (OwnL e_Difference 40 e3.1 e3.2 o3) :: .res (Box g4 45 [.int .i64 r4.1.Slot, .bool r4.1.Good, .string r4.1.Serial, .int .u32 r4.1.Sum]) :: .res (Box g3 45 [.int .i64 r3.1.Slot, .bool r3.1.Good, .string r3.1.Serial, .int .u32 r3.1.Sum]) :: R) ?_ ?_
      · refine St.seq ?_
        obtain ⟨o4, hj4, hj3⟩ := bnd_e hj3
        refine St.cutE (fun (e4 : Unit) => [(2, .int .i64 slot), (9, .pointer (some ⟨g3, 0, none⟩)), (11, .pointer (some ⟨g4, 0, none⟩)), (12, .bool r4.2), (13, .bool o1), (14, .int .i64 o2), (15, .slice none 0 0), (53, .bool o4)]) (fun e4 => .res (Box g4 45 [.int .i64 r4.1.Slot, .bool r4.1.Good, .string r4.1.Serial, .int .u32 r4.1.Sum]) :: .res (Box g3 45 [.int .i64 r3.1.Slot, .bool r3.1.Good, .string r3.1.Serial, .int .u32 r3.1.Sum]) :: R) ?_ ?_
        · refine St.region ?_
          refine St.p rfl rfl ?_
          refine St.p rfl rfl ?_
          refine St.gSplit (dj := 46) _ rfl (fun hb3 => ?_) (fun hb3 => ?_)
          · replace hj4 := bif_t hb3 hj4
            refine St.gOn (dj := 46) rfl rfl ?_
            refine St.p rfl rfl ?_
            refine St.gOn (dj := 46) rfl rfl ?_
            refine St.p rfl rfl ?_
            refine St.gOn (dj := 46) rfl rfl ?_
            refine St.p rfl rfl ?_
            refine St.gSplit (dj := 49) _ rfl (fun hb4 => ?_) (fun hb4 => ?_)
            · replace hj4 := bif_t hb4 hj4
              refine St.gOff (dj := 49) rfl rfl rfl rfl ?_
              refine St.gOff (dj := 49) rfl rfl rfl rfl ?_
              refine St.gOn (dj := 46) rfl rfl ?_
              refine St.p rfl rfl ?_
              refine St.p rfl rfl ?_
              refine St.done ?_
              injection hj4 with hj4
              subst hj4
              refine St.thenN ?_
              exact St.hereE () ⟨rfl, rfl, rfl, rfl, rfl, rfl, rfl, rfl, trivial⟩ (fun _ w => ((.k (.k .z)) : Keep _ _).sat w)
            · replace hj4 := bif_f hb4 hj4
              refine St.gOn (dj := 49) rfl rfl ?_
              refine St.p rfl rfl ?_
              refine St.gOn (dj := 49) rfl rfl ?_
              refine St.p rfl rfl ?_
              refine St.gOn (dj := 46) rfl rfl ?_
              refine St.p rfl rfl ?_
              refine St.p rfl rfl ?_
              refine St.done ?_
              injection hj4 with hj4
              subst hj4
              refine St.thenN ?_
              exact St.hereE () ⟨rfl, rfl, rfl, rfl, rfl, rfl, rfl, rfl, trivial⟩ (fun _ w => ((.k (.k .z)) : Keep _ _).sat w)
          · replace hj4 := bif_f hb3 hj4
            refine St.gOff (dj := 46) rfl rfl rfl rfl ?_
            refine St.gOff (dj := 46) rfl rfl rfl rfl ?_
            refine St.gOff (dj := 46) rfl rfl rfl rfl ?_
            refine St.gOff (dj := 49) rfl rfl rfl rfl ?_
            refine St.gOff (dj := 49) rfl rfl rfl rfl ?_
            refine St.gOff (dj := 46) rfl rfl rfl rfl ?_
            refine St.p rfl rfl ?_
            refine St.done ?_
            injection hj4 with hj4
            subst hj4
            refine St.thenN ?_
            exact St.hereE () ⟨rfl, rfl, rfl, rfl, rfl, rfl, rfl, rfl, trivial⟩ (fun _ w => ((.k (.k .z)) : Keep _ _).sat w)
        · rintro e4
          refine St.cond _ rfl (fun hb5 => ?_) (fun hb5 => ?_)
          · replace hj3 := bif_t hb5 hj3
            refine St.region ?_
            iterate 3 refine St.p rfl rfl ?_
            refine St.buildSlice rfl rfl rfl rfl rfl rfl rfl rfl fun g5 => ?_
            refine St.asrt (fun _ w => w.nilL e_Difference 40) ?_
            obtain ⟨l1, hl1, hj3⟩ := bnd_e hj3
            refine St.app (E := e_Difference) hl1 rfl rfl rfl .z rfl rfl rfl rfl rfl rfl rfl rfl (srcB (.tail _ (.head _)) rfl rfl) fun A4 c4 => ?_
            refine St.p rfl rfl ?_
            refine St.done ?_
            injection hj3 with hj3
            subst hj3
            refine St.thenN ?_
            exact St.hereE (A4, c4) ⟨rfl, rfl, rfl, rfl, rfl, rfl, rfl, trivial⟩ (fun _ w => ((.k (.d (.k (.k .z)))) : Keep _ _).sat w)
          · replace hj3 := bif_f hb5 hj3
            refine St.skip ?_
            refine St.asrt (fun _ w => w.nilL e_Difference 40) ?_
            injection hj3 with hj3
            subst hj3
            refine St.thenN ?_
            exact St.hereE (none, 0) ⟨rfl, rfl, rfl, rfl, rfl, rfl, rfl, trivial⟩ (fun _ w => ((.k (.k (.k .z))) : Keep _ _).sat w)
      · rintro ⟨A3, c3⟩
        refine St.seq ?_
        refine St.block ?_
        refine St.seq ?_
        refine St.region ?_
        iterate 3 refine St.p rfl rfl ?_
        refine St.done ?_
        refine St.thenN ?_
        refine St.prune (Γ' := [(2, _), (9, _), (11, _), (13, _), (14, _), (15, _), (59, _)]) ⟨rfl, rfl, rfl, rfl, rfl, rfl, rfl, trivial⟩ (.k (.k (.k .z))) ?_
        refine St.cond _ rfl (fun hb6 => ?_) (fun hb6 => ?_)
        · replace h := bif_t hb6 h
          refine St.skip ?_
          refine St.blkN ?_
          refine St.thenN ?_
          refine St.prune (Γ' := [(15, _)]) ⟨rfl, trivial⟩ (.k (.d (.d .z))) ?_
          refine St.seq ?_
          refine St.region ?_
          refine St.p rfl rfl ?_
          refine St.p rfl rfl ?_
          refine St.done ?_
          refine St.thenN ?_
          refine St.prune (Γ' := [(6, _)]) ⟨rfl, trivial⟩ (.k .z) ?_
          refine St.ret ?_
          repeat (first | refine St.thenR ?_ | refine St.blkR ?_)
          injection h with h
          subst h
          exact St.finR Try.results35 (.tmp rfl .nil) rfl [.res (OwnL e_Difference 40 A3 c3 o3)] ⟨A3, c3, rfl, rfl⟩ (fun _ w => ((.k .z) : Keep _ _).sat w)
        · replace h := bif_f hb6 h
          refine St.seq ?_
          obtain ⟨o5, hj5, h⟩ := bnd_e h
          refine St.cutE (fun (e5 : Unit) => [(2, .int .i64 slot), (9, .pointer (some ⟨g3, 0, none⟩)), (11, .pointer (some ⟨g4, 0, none⟩)), (13, .bool o1), (14, .int .i64 o2), (15, .slice A3 o3.length c3), (62, .bool o5)]) (fun e5 => .res (OwnL e_Difference 40 A3 c3 o3) :: .res (Box g4 45 [.int .i64 r4.1.Slot, .bool r4.1.Good, .string r4.1.Serial, .int .u32 r4.1.Sum]) :: .res (Box g3 45 [.int .i64 r3.1.Slot, .bool r3.1.Good, .string r3.1.Serial, .int .u32 r3.1.Sum]) :: R) ?_ ?_
          · refine St.region ?_
            iterate 3 refine St.p rfl rfl ?_
            refine St.gSplit (dj := 65) _ rfl (fun hb7 => ?_) (fun hb7 => ?_)
            · replace hj5 := bif_t hb7 hj5
              refine St.gOn (dj := 65) rfl rfl ?_
              refine St.p rfl rfl ?_
              refine St.gOn (dj := 65) rfl rfl ?_
              refine St.p rfl rfl ?_
              refine St.gOn (dj := 65) rfl rfl ?_
              iterate 3 refine St.p rfl rfl ?_
              refine St.done ?_
              injection hj5 with hj5
              subst hj5
              refine St.thenN ?_
              exact St.hereE () ⟨rfl, rfl, rfl, rfl, rfl, rfl, rfl, trivial⟩ (fun _ w => ((.k (.k (.k .z))) : Keep _ _).sat w)
            · replace hj5 := bif_f hb7 hj5
              refine St.gOff (dj := 65) rfl rfl rfl rfl ?_
              refine St.gOff (dj := 65) rfl rfl rfl rfl ?_
              refine St.gOff (dj := 65) rfl rfl rfl rfl ?_
              refine St.p rfl rfl ?_
              refine St.p rfl rfl ?_
              refine St.done ?_
              injection hj5 with hj5
              subst hj5
              refine St.thenN ?_
              exact St.hereE () ⟨rfl, rfl, rfl, rfl, rfl, rfl, rfl, trivial⟩ (fun _ w => ((.k (.k (.k .z))) : Keep _ _).sat w)
          · rintro e5
            refine St.cond _ rfl (fun hb8 => ?_) (fun hb8 => ?_)
            · replace h := bif_t hb8 h
              refine St.region ?_
              iterate 4 refine St.p rfl rfl ?_
              refine St.buildSlice rfl rfl rfl rfl rfl rfl rfl rfl fun g6 => ?_
              obtain ⟨l2, hl2, h⟩ := bnd_e h
              refine St.app (E := e_Difference) hl2 rfl rfl rfl (.s .z) rfl rfl rfl rfl rfl rfl rfl rfl (srcB (.head _) rfl rfl) fun A5 c5 => ?_
              refine St.p rfl rfl ?_
              refine St.done ?_
              refine St.blkN ?_
              refine St.thenN ?_
              refine St.prune (Γ' := [(15, _)]) ⟨rfl, trivial⟩ (.k (.d (.d (.d .z)))) ?_
              refine St.seq ?_
              refine St.region ?_
              refine St.p rfl rfl ?_
              refine St.p rfl rfl ?_
              refine St.done ?_
              refine St.thenN ?_
              refine St.prune (Γ' := [(6, _)]) ⟨rfl, trivial⟩ (.k .z) ?_
              refine St.ret ?_
              repeat (first | refine St.thenR ?_ | refine St.blkR ?_)
              injection h with h
              subst h
              exact St.finR Try.results35 (.tmp rfl .nil) rfl [.res (OwnL e_Difference 40 A5 c5 l2)] ⟨A5, c5, rfl, rfl⟩ (fun _ w => ((.k .z) : Keep _ _).sat w)
            · replace h := bif_f hb8 h
              refine St.seq ?_
              refine St.region ?_
              iterate 4 refine St.p rfl rfl ?_
              refine St.done ?_
              refine St.thenN ?_
              refine St.prune (Γ' := [(2, _), (9, _), (11, _), (13, _), (15, _), (76, _)]) ⟨rfl, rfl, rfl, rfl, rfl, rfl, trivial⟩ (.k (.k (.k .z))) ?_
              refine St.cond _ rfl (fun hb9 => ?_) (fun hb9 => ?_)
              · replace h := bif_t hb9 h
                refine St.seq ?_
                refine St.region ?_
                refine St.p rfl rfl ?_
                refine St.loadB 3 rfl rfl (.tail _ (.tail _ (.head _))) rfl rfl ?_
                refine St.p rfl rfl ?_
                refine St.loadB 3 rfl rfl (.tail _ (.head _)) rfl rfl ?_
                refine St.p rfl rfl ?_
                refine St.done ?_
                refine St.thenN ?_
                refine St.prune (Γ' := [(2, _), (15, _), (84, _)]) ⟨rfl, rfl, rfl, trivial⟩ (.k (.d (.d .z))) ?_
                refine St.cond _ rfl (fun hb10 => ?_) (fun hb10 => ?_)
                · replace h := bif_t hb10 h
                  refine St.region ?_
                  iterate 3 refine St.p rfl rfl ?_
                  refine St.buildSlice rfl rfl rfl rfl rfl rfl rfl rfl fun g7 => ?_
                  obtain ⟨l3, hl3, h⟩ := bnd_e h
                  refine St.app (E := e_Difference) hl3 rfl rfl rfl (.s .z) rfl rfl rfl rfl rfl rfl rfl rfl (srcB (.head _) rfl rfl) fun A6 c6 => ?_
                  refine St.p rfl rfl ?_
                  refine St.done ?_
                  refine St.blkN ?_
                  refine St.thenN ?_
                  refine St.prune (Γ' := [(15, _)]) ⟨rfl, trivial⟩ (.k (.d .z)) ?_
                  refine St.seq ?_
                  refine St.region ?_
                  refine St.p rfl rfl ?_
                  refine St.p rfl rfl ?_
                  refine St.done ?_
                  refine St.thenN ?_
                  refine St.prune (Γ' := [(6, _)]) ⟨rfl, trivial⟩ (.k .z) ?_
                  refine St.ret ?_
                  repeat (first | refine St.thenR ?_ | refine St.blkR ?_)
                  injection h with h
                  subst h
                  exact St.finR Try.results35 (.tmp rfl .nil) rfl [.res (OwnL e_Difference 40 A6 c6 l3)] ⟨A6, c6, rfl, rfl⟩ (fun _ w => ((.k .z) : Keep _ _).sat w)
                · replace h := bif_f hb10 h
                  refine St.skip ?_
                  refine St.blkN ?_
                  refine St.thenN ?_
                  refine St.prune (Γ' := [(15, _)]) ⟨rfl, trivial⟩ (.k .z) ?_
                  refine St.seq ?_
                  refine St.region ?_
                  refine St.p rfl rfl ?_
                  refine St.p rfl rfl ?_
                  refine St.done ?_
                  refine St.thenN ?_
                  refine St.prune (Γ' := [(6, _)]) ⟨rfl, trivial⟩ (.k .z) ?_
                  refine St.ret ?_
                  repeat (first | refine St.thenR ?_ | refine St.blkR ?_)
                  injection h with h
                  subst h
                  exact St.finR Try.results35 (.tmp rfl .nil) rfl [.res (OwnL e_Difference 40 A3 c3 o3)] ⟨A3, c3, rfl, rfl⟩ (fun _ w => ((.k .z) : Keep _ _).sat w)
              · replace h := bif_f hb9 h
                refine St.seq ?_
                refine St.region ?_
                iterate 3 refine St.p rfl rfl ?_
                refine St.done ?_
                refine St.thenN ?_
                refine St.prune (Γ' := [(2, _), (9, _), (11, _), (15, _), (90, _)]) ⟨rfl, rfl, rfl, rfl, rfl, trivial⟩ (.k (.k (.k .z))) ?_
                refine St.cond _ rfl (fun hb11 => ?_) (fun hb11 => ?_)
                · replace h := bif_t hb11 h
                  refine St.region ?_
                  iterate 3 refine St.p rfl rfl ?_
                  refine St.buildSlice rfl rfl rfl rfl rfl rfl rfl rfl fun g8 => ?_
                  obtain ⟨l4, hl4, h⟩ := bnd_e h
                  refine St.app (E := e_Difference) hl4 rfl rfl rfl (.s .z) rfl rfl rfl rfl rfl rfl rfl rfl (srcB (.head _) rfl rfl) fun A7 c7 => ?_
                  refine St.p rfl rfl ?_
                  refine St.done ?_
                  refine St.blkN ?_
                  refine St.thenN ?_
                  refine St.prune (Γ' := [(15, _)]) ⟨rfl, trivial⟩ (.k (.d (.d (.d .z)))) ?_
                  refine St.seq ?_
                  refine St.region ?_
                  refine St.p rfl rfl ?_
                  refine St.p rfl rfl ?_
                  refine St.done ?_
                  refine St.thenN ?_
                  refine St.prune (Γ' := [(6, _)]) ⟨rfl, trivial⟩ (.k .z) ?_
                  refine St.ret ?_
                  repeat (first | refine St.thenR ?_ | refine St.blkR ?_)
                  injection h with h
                  subst h
                  exact St.finR Try.results35 (.tmp rfl .nil) rfl [.res (OwnL e_Difference 40 A7 c7 l4)] ⟨A7, c7, rfl, rfl⟩ (fun _ w => ((.k .z) : Keep _ _).sat w)
                · replace h := bif_f hb11 h
                  refine St.seq ?_
                  refine St.region ?_
                  refine St.loadB 0 rfl rfl (.tail _ (.tail _ (.head _))) rfl rfl ?_
                  refine St.loadB 0 rfl rfl (.tail _ (.head _)) rfl rfl ?_
                  refine St.p rfl rfl ?_
                  refine St.p rfl rfl ?_
                  refine St.done ?_
                  refine St.thenN ?_
                  refine St.prune (Γ' := [(2, _), (15, _), (98, _)]) ⟨rfl, rfl, rfl, trivial⟩ (.k (.d (.d .z))) ?_
                  refine St.cond _ rfl (fun hb12 => ?_) (fun hb12 => ?_)
                  · replace h := bif_t hb12 h
                    refine St.region ?_
                    iterate 3 refine St.p rfl rfl ?_
                    refine St.buildSlice rfl rfl rfl rfl rfl rfl rfl rfl fun g9 => ?_
                    obtain ⟨l5, hl5, h⟩ := bnd_e h
                    refine St.app (E := e_Difference) hl5 rfl rfl rfl (.s .z) rfl rfl rfl rfl rfl rfl rfl rfl (srcB (.head _) rfl rfl) fun A8 c8 => ?_
                    refine St.p rfl rfl ?_
                    refine St.done ?_
                    refine St.blkN ?_
                    refine St.thenN ?_
                    refine St.prune (Γ' := [(15, _)]) ⟨rfl, trivial⟩ (.k (.d .z)) ?_
                    refine St.seq ?_
                    refine St.region ?_
                    refine St.p rfl rfl ?_
                    refine St.p rfl rfl ?_
                    refine St.done ?_
                    refine St.thenN ?_
                    refine St.prune (Γ' := [(6, _)]) ⟨rfl, trivial⟩ (.k .z) ?_
                    refine St.ret ?_
                    repeat (first | refine St.thenR ?_ | refine St.blkR ?_)
                    injection h with h
                    subst h
                    exact St.finR Try.results35 (.tmp rfl .nil) rfl [.res (OwnL e_Difference 40 A8 c8 l5)] ⟨A8, c8, rfl, rfl⟩ (fun _ w => ((.k .z) : Keep _ _).sat w)
                  · replace h := bif_f hb12 h
                    refine St.skip ?_
                    refine St.blkN ?_
                    refine St.thenN ?_
                    refine St.prune (Γ' := [(15, _)]) ⟨rfl, trivial⟩ (.k .z) ?_
                    refine St.seq ?_
                    refine St.region ?_
                    refine St.p rfl rfl ?_
                    refine St.p rfl rfl ?_
                    refine St.done ?_
                    refine St.thenN ?_
                    refine St.prune (Γ' := [(6, _)]) ⟨rfl, trivial⟩ (.k .z) ?_
                    refine St.ret ?_
                    repeat (first | refine St.thenR ?_ | refine St.blkR ?_)
                    injection h with h
                    subst h
                    exact St.finR Try.results35 (.tmp rfl .nil) rfl [.res (OwnL e_Difference 40 A3 c3 o3)] ⟨A3, c3, rfl, rfl⟩ (fun _ w => ((.k .z) : Keep _ _).sat w)

theorem ent14 : Ent Try.prog 14 := ⟨_, Try.func14, by kernel_rfl, by kernel_rfl⟩

noncomputable def m_inventory_Compare (old_p0 : (List T_Known)) (new_p1 : (List T_Known)) : Option ((List T_Difference) × Int) :=
  bnd ((bnd (m_inventory_Valid old_p0) fun r1 => bif !r1 then (some true) else (bnd (m_inventory_Valid new_p1) fun r2 => some (!r2)) : Option Bool)) fun o1 => bif o1 then (some ([], 1)) else (bnd (loopM (τ := List T_Difference) (fun (s1 : List T_Difference × Int) => bif decide (s1.2 < 16) then (bnd (m_inventory_compare old_p0 new_p1 s1.2) fun r3 => bnd (app 24 s1.1 r3) fun l1 => some (.next (l1, IntKind.wrap .i64 (s1.2 + 1)))) else (some (.done s1.1))) ([], 0)) fun o2 => some (o2, 0))

theorem c_inventory_Compare {old_p0 : (List T_Known)} {new_p1 : (List T_Known)} {A1 : Option Addr} {c1 : Nat} {A2 : Option Addr} {c2 : Nat} {r : ((List T_Difference) × Int)} (h : m_inventory_Compare old_p0 new_p1 = some r) :
    Fun Try.prog 14 [.slice A1 old_p0.length c1, .slice A2 new_p1.length c2] [.ro (SlL e_Known A1 c1 old_p0), .ro (SlL e_Known A2 c2 new_p1)] (fun v_ F_ => ∃ (A1 : Option Addr) (c1 : Nat), v_ = .tuple #[.slice A1 r.1.length c1, .int .i64 r.2] ∧ F_ = [.res (OwnL e_Difference 40 A1 c1 r.1)]) := by
  unfold m_inventory_Compare at h
  refine Fun.intro Try.func14 rfl rfl rfl fun w R => ?_
  refine St.seq ?_
  refine St.region ?_
  refine St.p rfl rfl ?_
  refine St.p rfl rfl ?_
  refine St.done ?_
  refine St.thenN ?_
  refine St.prune (Γ' := [(0, _), (1, _)]) ⟨rfl, rfl, trivial⟩ (.k (.k .z)) ?_
  refine St.seq ?_
  refine St.seq ?_
  obtain ⟨o1, hj1, h⟩ := bnd_e h
  refine St.cutE (fun (e1 : Unit) => [(0, .slice A1 old_p0.length c1), (1, .slice A2 new_p1.length c2), (15, .bool o1)]) (fun e1 => .ro (SlL e_Known A1 c1 old_p0) :: .ro (SlL e_Known A2 c2 new_p1) :: R) ?_ ?_
  · refine St.region ?_
    refine St.p rfl rfl ?_
    obtain ⟨r1, hr1, hj1⟩ := bnd_e hj1
    refine St.callV (c_inventory_Valid hr1) ent17 rfl rfl rfl rfl ⟨(.head _), trivial⟩ ?_
    refine St.p rfl rfl ?_
    refine St.p rfl rfl ?_
    refine St.gSplit (dj := 11) _ rfl (fun hb1 => ?_) (fun hb1 => ?_)
    · replace hj1 := bif_t hb1 hj1
      refine St.gOff (dj := 11) rfl rfl rfl rfl ?_
      refine St.gOff (dj := 11) rfl rfl rfl rfl ?_
      refine St.gOff (dj := 11) rfl rfl rfl rfl ?_
      refine St.p rfl rfl ?_
      refine St.done ?_
      injection hj1 with hj1
      subst hj1
      refine St.thenN ?_
      exact St.hereE () ⟨rfl, rfl, rfl, trivial⟩ (fun _ w => ((.k (.k .z)) : Keep _ _).sat w)
    · replace hj1 := bif_f hb1 hj1
      refine St.gOn (dj := 11) rfl rfl ?_
      refine St.p rfl rfl ?_
      refine St.gOn (dj := 11) rfl rfl ?_
      obtain ⟨r2, hr2, hj1⟩ := bnd_e hj1
      refine St.callV (c_inventory_Valid hr2) ent17 rfl rfl rfl rfl ⟨(.tail _ (.head _)), trivial⟩ ?_
      refine St.gOn (dj := 11) rfl rfl ?_
      refine St.p rfl rfl ?_
      refine St.p rfl rfl ?_
      refine St.done ?_
      injection hj1 with hj1
      subst hj1
      refine St.thenN ?_
      exact St.hereE () ⟨rfl, rfl, rfl, trivial⟩ (fun _ w => ((.k (.k .z)) : Keep _ _).sat w)
  · rintro e1
    refine St.cond _ rfl (fun hb2 => ?_) (fun hb2 => ?_)
    · replace h := bif_t hb2 h
      refine St.seq ?_
      refine St.region ?_
      refine St.p rfl rfl ?_
      refine St.p rfl rfl ?_
      refine St.done ?_
      refine St.thenN ?_
      refine St.prune (Γ' := [(4, _), (5, _)]) ⟨rfl, rfl, trivial⟩ (.d (.d .z)) ?_
      refine St.ret ?_
      repeat (first | refine St.thenR ?_ | refine St.blkR ?_)
      refine St.asrt (fun _ w => w.nilL e_Difference 40) ?_
      injection h with h
      subst h
      exact St.finR Try.results14 (.tmp rfl (.tmp rfl .nil)) rfl [.res (OwnL e_Difference 40 none 0 ([]))] ⟨none, 0, rfl, rfl⟩ (fun _ w => ((.k .z) : Keep _ _).sat w)
    · replace h := bif_f hb2 h
      refine St.skip ?_
      refine St.thenN ?_
      refine St.prune (Γ' := [(0, _), (1, _)]) ⟨rfl, rfl, trivial⟩ (.k (.k .z)) ?_
      refine St.seq ?_
      refine St.region ?_
      refine St.p rfl rfl ?_
      refine St.done ?_
      refine St.thenN ?_
      refine St.seq ?_
      refine St.seq ?_
      refine St.region ?_
      refine St.p rfl rfl ?_
      refine St.done ?_
      refine St.thenN ?_
      refine St.asrt (fun _ w => w.nilL e_Difference 40) ?_
      obtain ⟨o2, hl1, h⟩ := bnd_e h
      refine St.cutE (fun (e3 : Option Addr × Nat) => [(6, .slice e3.1 o2.length e3.2)]) (fun e3 => .res (OwnL e_Difference 40 e3.1 e3.2 o2) :: R) ?_ ?_
      · refine St.block ?_
        refine St.loop hl1 (fun (s1 : List T_Difference × Int) (e2 : Option Addr × Nat) => [(0, .slice A1 old_p0.length c1), (1, .slice A2 new_p1.length c2), (6, .slice e2.1 s1.1.length e2.2), (16, .int .i64 s1.2)]) (fun s1 e2 => .res (OwnL e_Difference 40 e2.1 e2.2 s1.1) :: .ro (SlL e_Known A1 c1 old_p0) :: .ro (SlL e_Known A2 c2 new_p1) :: R) (fun _ _ => True) (none, 0) trivial ⟨rfl, rfl, rfl, rfl, trivial⟩ (fun _ w => ((.k (.k (.k .z))) : Keep _ _).sat w) ?_
        rintro s1 ⟨A3, c3⟩ - hit1
        obtain ⟨st1, hm1, hd1⟩ := iter_e hit1
        have h1 := hm1
        refine St.seq ?_
        refine St.region ?_
        refine St.p rfl rfl ?_
        refine St.done ?_
        refine St.thenN ?_
        refine St.seq ?_
        refine St.cond _ rfl (fun hb3 => ?_) (fun hb3 => ?_)
        · replace h1 := bif_t hb3 h1
          refine St.skip ?_
          refine St.thenN ?_
          refine St.prune (Γ' := [(0, _), (1, _), (6, _), (16, _)]) ⟨rfl, rfl, rfl, rfl, trivial⟩ (.k (.k (.k .z))) ?_
          refine St.seq ?_
          refine St.block ?_
          refine St.seq ?_
          refine St.region ?_
          refine St.p rfl rfl ?_
          refine St.p rfl rfl ?_
          refine St.done ?_
          refine St.thenN ?_
          refine St.prune (Γ' := [(0, _), (1, _), (6, _), (7, _), (16, _)]) ⟨rfl, rfl, rfl, rfl, rfl, trivial⟩ (.k (.k (.k .z))) ?_
          refine St.region ?_
          iterate 4 refine St.p rfl rfl ?_
          obtain ⟨r3, hr3, h1⟩ := bnd_e h1
          refine St.call (c_inventory_compare hr3) ent35 rfl rfl rfl (fun _ w => Sat.dup (G := [.ro (SlL e_Known A1 c1 old_p0), .ro (SlL e_Known A2 c2 new_p1)]) rfl ⟨(.tail _ (.head _)), (.tail _ (.tail _ (.head _))), trivial⟩ w) ?_
          rintro _ _ ⟨A5, c5, rfl, rfl⟩
          refine St.asrt (F' := .res (OwnL e_Difference 40 A5 c5 r3) :: .res (OwnL e_Difference 40 A3 c3 s1.1) :: .ro (SlL e_Known A1 c1 old_p0) :: .ro (SlL e_Known A2 c2 new_p1) :: R) (fun _ w => w) ?_
          refine St.asrt (fun _ w => (w.front .z).meltL) ?_
          obtain ⟨l1, hl1, h1⟩ := bnd_e h1
          refine St.app (E := e_Difference) hl1 rfl rfl rfl (.s .z) rfl rfl rfl rfl rfl rfl rfl rfl (srcL (.head _)) fun A6 c6 => ?_
          refine St.p rfl rfl ?_
          refine St.done ?_
          refine St.blkN ?_
          refine St.thenN ?_
          refine St.prune (Γ' := [(0, _), (1, _), (6, _), (16, _)]) ⟨rfl, rfl, rfl, rfl, trivial⟩ (.k (.d (.k (.k .z)))) ?_
          refine St.region ?_
          refine St.p rfl rfl ?_
          refine St.p rfl rfl ?_
          refine St.done ?_
          injection h1 with h1
          subst h1
          refine St.thenN ?_
          exact St.again _ (A6, c6) hm1 trivial ⟨rfl, rfl, rfl, rfl, trivial⟩ (fun _ w => ((.k (.k (.k .z))) : Keep _ _).sat w)
        · replace h1 := bif_f hb3 h1
          refine St.exit ?_
          repeat (first | refine St.thenX ?_ | refine St.blkMiss rfl ?_)
          refine St.blkHit ?_
          injection h1 with h1
          subst h1
          have ho := hd1 _ rfl
          subst ho
          refine St.thenN ?_
          exact St.hereE (A3, c3) ⟨rfl, trivial⟩ (fun _ w => ((.k (.d (.d .z))) : Keep _ _).sat w)
      · rintro ⟨A4, c4⟩
        refine St.seq ?_
        refine St.region ?_
        iterate 3 refine St.p rfl rfl ?_
        refine St.done ?_
        refine St.thenN ?_
        refine St.prune (Γ' := [(4, _), (5, _)]) ⟨rfl, rfl, trivial⟩ (.k .z) ?_
        refine St.ret ?_
        repeat (first | refine St.thenR ?_ | refine St.blkR ?_)
        injection h with h
        subst h
        exact St.finR Try.results14 (.tmp rfl (.tmp rfl .nil)) rfl [.res (OwnL e_Difference 40 A4 c4 o2)] ⟨A4, c4, rfl, rfl⟩ (fun _ w => ((.k .z) : Keep _ _).sat w)

theorem ent16 : Ent Try.prog 16 := ⟨_, Try.func16, by kernel_rfl, by kernel_rfl⟩

noncomputable def m_ref19_SameDifferences (a_p0 : (List T_Difference)) (b_p1 : (List T_Difference)) : Option Bool :=
  bif ((a_p0.length : Int) != (b_p1.length : Int)) then (some false) else (bnd (loopM (τ := Bool ⊕ Unit) (fun (s1 : Int) => bif decide (s1 < (a_p0.length : Int)) then (bnd (elt a_p0 s1) fun x1 => bnd (elt b_p1 s1) fun x2 => bif !((x1.Kind == x2.Kind) && ((x1.Slot == x2.Slot) && ((x1.From == x2.From) && true))) then (some (.done (.inl false))) else (some (.next (IntKind.wrap .i64 (s1 + 1))))) else (some (.done (.inr ())))) 0) fun o1 => retOr o1 fun o2 => some true)

theorem c_ref19_SameDifferences {a_p0 : (List T_Difference)} {b_p1 : (List T_Difference)} {A1 : Option Addr} {c1 : Nat} {A2 : Option Addr} {c2 : Nat} {r : Bool} (h : m_ref19_SameDifferences a_p0 b_p1 = some r) :
    Fun Try.prog 16 [.slice A1 a_p0.length c1, .slice A2 b_p1.length c2] [.ro (SlL e_Difference A1 c1 a_p0), .ro (SlL e_Difference A2 c2 b_p1)] (Val (.bool r)) := by
  unfold m_ref19_SameDifferences at h
  refine Fun.intro Try.func16 rfl rfl rfl fun w R => ?_
  refine St.seq ?_
  refine St.region ?_
  refine St.p rfl rfl ?_
  refine St.done ?_
  refine St.thenN ?_
  refine St.prune (Γ' := [(0, _), (1, _)]) ⟨rfl, rfl, trivial⟩ (.k (.k .z)) ?_
  refine St.seq ?_
  refine St.seq ?_
  refine St.region ?_
  iterate 5 refine St.p rfl rfl ?_
  refine St.done ?_
  refine St.thenN ?_
  refine St.prune (Γ' := [(0, _), (1, _), (10, _)]) ⟨rfl, rfl, rfl, trivial⟩ (.k (.k .z)) ?_
  refine St.cond _ rfl (fun hb1 => ?_) (fun hb1 => ?_)
  · replace h := bif_t hb1 h
    refine St.seq ?_
    refine St.region ?_
    refine St.p rfl rfl ?_
    refine St.done ?_
    refine St.thenN ?_
    refine St.prune (Γ' := [(4, _)]) ⟨rfl, trivial⟩ (.d (.d .z)) ?_
    refine St.ret ?_
    repeat (first | refine St.thenR ?_ | refine St.blkR ?_)
    injection h with h
    subst h
    exact St.finR Try.results16 (.tmp rfl .nil) rfl [] ⟨rfl, rfl⟩ (fun _ w => (.z : Keep _ _).sat w)
  · replace h := bif_f hb1 h
    refine St.skip ?_
    refine St.thenN ?_
    refine St.prune (Γ' := [(0, _), (1, _)]) ⟨rfl, rfl, trivial⟩ (.k (.k .z)) ?_
    refine St.seq ?_
    refine St.seq ?_
    refine St.region ?_
    refine St.p rfl rfl ?_
    refine St.done ?_
    refine St.thenN ?_
    obtain ⟨o1, hl1, h⟩ := bnd_e h
    refine St.cutI (fun (o2 : Unit) (e2 : Unit) => []) (fun o2 e2 => R) (fun o2 => o1 = .inr o2) ?_ ?_
    · refine St.block ?_
      refine St.loop hl1 (fun (s1 : Int) (e1 : Unit) => [(0, .slice A1 a_p0.length c1), (1, .slice A2 b_p1.length c2), (5, .int .i64 s1)]) (fun s1 e1 => .ro (SlL e_Difference A1 c1 a_p0) :: .ro (SlL e_Difference A2 c2 b_p1) :: R) (fun _ _ => True) () trivial ⟨rfl, rfl, rfl, trivial⟩ (fun _ w => ((.k (.k .z)) : Keep _ _).sat w) ?_
      rintro s1 e1 - hit1
      obtain ⟨st1, hm1, hd1⟩ := iter_e hit1
      have h1 := hm1
      refine St.seq ?_
      refine St.seq ?_
      refine St.region ?_
      iterate 4 refine St.p rfl rfl ?_
      refine St.done ?_
      refine St.thenN ?_
      refine St.prune (Γ' := [(0, _), (1, _), (5, _), (14, _)]) ⟨rfl, rfl, rfl, rfl, trivial⟩ (.k (.k .z)) ?_
      refine St.cond _ rfl (fun hb2 => ?_) (fun hb2 => ?_)
      · replace h1 := bif_t hb2 h1
        refine St.skip ?_
        refine St.thenN ?_
        refine St.prune (Γ' := [(0, _), (1, _), (5, _)]) ⟨rfl, rfl, rfl, trivial⟩ (.k (.k .z)) ?_
        refine St.seq ?_
        refine St.block ?_
        refine St.seq ?_
        refine St.regionF mixed (by kernel_rfl) ?_
        refine St.p rfl rfl ?_
        refine St.p rfl rfl ?_
        obtain ⟨x1, hx1, h1⟩ := bnd_e h1
        refine St.ixL hx1 rfl rfl rfl (.head _) rfl rfl rfl rfl rfl fun b1 ob1 => ?_
        refine St.load ob1 0 rfl rfl (.head _) rfl rfl ?_
        refine St.p rfl rfl ?_
        refine St.p rfl rfl ?_
        obtain ⟨x2, hx2, h1⟩ := bnd_e h1
        refine St.ixL hx2 rfl rfl rfl (.tail _ (.tail _ (.head _))) rfl rfl rfl rfl rfl fun b2 ob2 => ?_
        refine St.load ob2 0 rfl rfl (.head _) rfl rfl ?_
        refine St.p rfl rfl ?_
        refine St.doneQ ?_
        refine St.thenN ?_
        refine St.prune (Γ' := [(0, _), (1, _), (5, _), (25, _)]) ⟨rfl, rfl, rfl, rfl, trivial⟩ (.d (.d (.k (.k .z)))) ?_
        refine St.cond _ rfl (fun hb3 => ?_) (fun hb3 => ?_)
        · replace h1 := bif_t hb3 h1
          refine St.seq ?_
          refine St.region ?_
          refine St.p rfl rfl ?_
          refine St.done ?_
          refine St.thenN ?_
          refine St.prune (Γ' := [(4, _)]) ⟨rfl, trivial⟩ (.d (.d .z)) ?_
          refine St.ret ?_
          repeat (first | refine St.thenR ?_ | refine St.blkR ?_)
          injection h1 with h1
          subst h1
          have ho := hd1 _ rfl
          subst ho
          have h : some _ = some _ := h
          injection h with h
          subst h
          exact St.finR Try.results16 (.tmp rfl .nil) rfl [] ⟨rfl, rfl⟩ (fun _ w => (.z : Keep _ _).sat w)
        · replace h1 := bif_f hb3 h1
          refine St.skip ?_
          refine St.blkN ?_
          refine St.thenN ?_
          refine St.prune (Γ' := [(0, _), (1, _), (5, _)]) ⟨rfl, rfl, rfl, trivial⟩ (.k (.k .z)) ?_
          refine St.region ?_
          iterate 3 refine St.p rfl rfl ?_
          refine St.done ?_
          injection h1 with h1
          subst h1
          refine St.thenN ?_
          exact St.again _ () hm1 trivial ⟨rfl, rfl, rfl, trivial⟩ (fun _ w => ((.k (.k .z)) : Keep _ _).sat w)
      · replace h1 := bif_f hb2 h1
        refine St.exit ?_
        repeat (first | refine St.thenX ?_ | refine St.blkMiss rfl ?_)
        refine St.blkHit ?_
        injection h1 with h1
        subst h1
        have ho := hd1 _ rfl
        subst ho
        refine St.thenN ?_
        exact St.hereI () () rfl trivial (fun _ w => ((.d (.d .z)) : Keep _ _).sat w)
    · rintro o2 e2 ho
      subst ho
      have h : _ = some _ := h
      refine St.seq ?_
      refine St.region ?_
      refine St.p rfl rfl ?_
      refine St.done ?_
      refine St.thenN ?_
      refine St.ret ?_
      repeat (first | refine St.thenR ?_ | refine St.blkR ?_)
      injection h with h
      subst h
      exact St.finR Try.results16 (.tmp rfl .nil) rfl [] ⟨rfl, rfl⟩ (fun _ w => (.z : Keep _ _).sat w)

theorem ent21 : Ent Try.prog 21 := ⟨_, Try.func21, by kernel_rfl, by kernel_rfl⟩

noncomputable def m_law19_known (slot : Int) (serial : ByteArray) : Option T_Known :=
  some (⟨slot, true, serial, 0⟩ : T_Known)

theorem c_law19_known {slot : Int} {serial : ByteArray} {r : T_Known} (h : m_law19_known slot serial = some r) :
    Fun Try.prog 21 [.int .i64 slot, .string serial] [] (Val (.agg #[.int .i64 r.Slot, .bool r.Good, .string r.Serial, .int .u32 r.Sum])) := by
  unfold m_law19_known at h
  refine Fun.intro Try.func21 rfl rfl rfl fun w R => ?_
  refine St.seq ?_
  refine St.region ?_
  refine St.alloc rfl rfl fun g1 => ?_
  refine St.done ?_
  refine St.thenN ?_
  refine St.seq ?_
  refine St.region ?_
  iterate 3 refine St.p rfl rfl ?_
  refine St.store 0 rfl rfl rfl rfl rfl rfl .z rfl ?_
  refine St.done ?_
  refine St.thenN ?_
  refine St.prune (Γ' := [(4, _)]) ⟨rfl, trivial⟩ (.k .z) ?_
  refine St.ret ?_
  repeat (first | refine St.thenR ?_ | refine St.blkR ?_)
  injection h with h
  subst h
  exact St.finR Try.results21 (.cell rfl (.head _) rfl .nil) rfl [] ⟨rfl, rfl⟩ (fun _ w => ((.d .z) : Keep _ _).sat w)

theorem ent11 : Ent Try.prog 11 := ⟨_, Try.func11, by kernel_rfl, by kernel_rfl⟩

noncomputable def m_law19_awake  : Option Bool :=
  bnd (m_law19_known 0 (⟨#[65]⟩)) fun r1 => bnd (m_law19_known 1 (⟨#[66]⟩)) fun r2 => bnd (m_law19_known 0 (⟨#[66]⟩)) fun r3 => bnd (m_law19_known 2 (⟨#[65]⟩)) fun r4 => bnd (m_inventory_Compare ([r1, r2]) ([r3, r4])) fun r5 => bnd ((bif (r5.2 == 0) then (bnd (m_ref19_SameDifferences r5.1 ([(⟨4, 0, 1⟩ : T_Difference), (⟨4, 2, 0⟩ : T_Difference)])) fun r6 => some r6) else (some false) : Option Bool)) fun o1 => some o1

theorem c_law19_awake  {r : Bool} (h : m_law19_awake = some r) :
    Fun Try.prog 11 [] [] (Val (.bool r)) := by
  unfold m_law19_awake at h
  refine Fun.intro Try.func11 rfl rfl rfl fun w R => ?_
  refine St.seq ?_
  refine St.region ?_
  refine St.p rfl rfl ?_
  refine St.done ?_
  refine St.thenN ?_
  refine St.prune (Γ' := []) trivial .z ?_
  refine St.seq ?_
  refine St.region ?_
  obtain ⟨r1, hr1, h⟩ := bnd_e h
  refine St.callV (c_law19_known hr1) ent21 rfl rfl rfl rfl trivial ?_
  obtain ⟨r2, hr2, h⟩ := bnd_e h
  refine St.callV (c_law19_known hr2) ent21 rfl rfl rfl rfl trivial ?_
  refine St.buildSlice rfl rfl rfl rfl rfl rfl rfl rfl fun g1 => ?_
  obtain ⟨r3, hr3, h⟩ := bnd_e h
  refine St.callV (c_law19_known hr3) ent21 rfl rfl rfl rfl trivial ?_
  obtain ⟨r4, hr4, h⟩ := bnd_e h
  refine St.callV (c_law19_known hr4) ent21 rfl rfl rfl rfl trivial ?_
  refine St.buildSlice rfl rfl rfl rfl rfl rfl rfl rfl fun g2 => ?_
  refine St.asrt (fun _ w => (w.front (.s .z)).litL (E := e_Known) (e := 45) [r1, r2] rfl rfl) ?_
  refine St.asrt (fun _ w => (w.front .z).meltL) ?_
  refine St.asrt (fun _ w => (w.front (.s .z)).litL (E := e_Known) (e := 45) [r3, r4] rfl rfl) ?_
  refine St.asrt (fun _ w => (w.front .z).meltL) ?_
  obtain ⟨r5, hr5, h⟩ := bnd_e h
  refine St.call (c_inventory_Compare hr5) ent14 rfl rfl rfl (fun _ w => Sat.dup (G := [.ro (SlL e_Known (some ⟨g1, 0, none⟩) ([r1, r2] : List T_Known).length ([r1, r2])), .ro (SlL e_Known (some ⟨g2, 0, none⟩) ([r3, r4] : List T_Known).length ([r3, r4]))]) rfl ⟨(.tail _ (.head _)), (.head _), trivial⟩ w) ?_
  rintro _ _ ⟨A1, c1, rfl, rfl⟩
  refine St.asrt (F' := .res (OwnL e_Difference 40 A1 c1 r5.1) :: .ro (SlL e_Known (some ⟨g2, 0, none⟩) ([r3, r4] : List T_Known).length ([r3, r4])) :: .ro (SlL e_Known (some ⟨g1, 0, none⟩) ([r1, r2] : List T_Known).length ([r1, r2])) :: R) (fun _ w => w) ?_
  iterate 5 refine St.p rfl rfl ?_
  refine St.done ?_
  refine St.thenN ?_
  refine St.prune (Γ' := [(1, _), (2, _)]) ⟨rfl, rfl, trivial⟩ (.k (.d (.d .z))) ?_
  refine St.seq ?_
  obtain ⟨o1, hj1, h⟩ := bnd_e h
  refine St.cutE (fun (e1 : Unit) => [(0, .bool o1)]) (fun e1 => R) ?_ ?_
  · refine St.region ?_
    iterate 3 refine St.p rfl rfl ?_
    refine St.gSplit (dj := 15) _ rfl (fun hb1 => ?_) (fun hb1 => ?_)
    · replace hj1 := bif_t hb1 hj1
      refine St.gOn (dj := 15) rfl rfl ?_
      refine St.p rfl rfl ?_
      refine St.gOn (dj := 15) rfl rfl ?_
      refine St.p rfl rfl ?_
      refine St.gOn (dj := 15) rfl rfl ?_
      refine St.p rfl rfl ?_
      refine St.gOn (dj := 15) rfl rfl ?_
      refine St.buildSlice rfl rfl rfl rfl rfl rfl rfl rfl fun g3 => ?_
      refine St.gOn (dj := 15) rfl rfl ?_
      refine St.asrt (fun _ w => (w.front (.s .z)).meltL) ?_
      refine St.asrt (fun _ w => (w.front (.s .z)).litL (E := e_Difference) (e := 40) [(⟨4, 0, 1⟩ : T_Difference), (⟨4, 2, 0⟩ : T_Difference)] rfl rfl) ?_
      refine St.asrt (fun _ w => (w.front .z).meltL) ?_
      obtain ⟨r6, hr6, hj1⟩ := bnd_e hj1
      refine St.callV (c_ref19_SameDifferences hr6) ent16 rfl rfl rfl rfl ⟨(.tail _ (.head _)), (.head _), trivial⟩ ?_
      refine St.p rfl rfl ?_
      refine St.p rfl rfl ?_
      refine St.done ?_
      injection hj1 with hj1
      subst hj1
      refine St.thenN ?_
      exact St.hereE () ⟨rfl, trivial⟩ (fun _ w => ((.d (.d .z)) : Keep _ _).sat w)
    · replace hj1 := bif_f hb1 hj1
      refine St.gOff (dj := 15) rfl rfl rfl rfl ?_
      refine St.gOff (dj := 15) rfl rfl rfl rfl ?_
      refine St.gOff (dj := 15) rfl rfl rfl rfl ?_
      refine St.gOff (dj := 15) rfl rfl rfl rfl ?_
      refine St.gOff (dj := 15) rfl rfl rfl rfl ?_
      refine St.p rfl rfl ?_
      refine St.p rfl rfl ?_
      refine St.done ?_
      injection hj1 with hj1
      subst hj1
      refine St.thenN ?_
      exact St.hereE () ⟨rfl, trivial⟩ (fun _ w => ((.d .z) : Keep _ _).sat w)
  · rintro e1
    refine St.ret ?_
    repeat (first | refine St.thenR ?_ | refine St.blkR ?_)
    injection h with h
    subst h
    exact St.finR Try.results11 (.tmp rfl .nil) rfl [] ⟨rfl, rfl⟩ (fun _ w => (.z : Keep _ _).sat w)

theorem ent20 : Ent Try.prog 20 := ⟨_, Try.func20, by kernel_rfl, by kernel_rfl⟩

noncomputable def m_made_Mod (n_p0 : Int) (m_p1 : Int) : Option Int :=
  bnd (remM n_p0 m_p1) fun q1 => bif decide (q1 < 0) then (some (IntKind.wrap .i64 (q1 + m_p1))) else (some q1)

theorem c_made_Mod {n_p0 : Int} {m_p1 : Int} {r : Int} (h : m_made_Mod n_p0 m_p1 = some r) :
    Fun Try.prog 20 [.int .i64 n_p0, .int .i64 m_p1] [] (Val (.int .i64 r)) := by
  unfold m_made_Mod at h
  refine Fun.intro Try.func20 rfl rfl rfl fun w R => ?_
  refine St.seq ?_
  refine St.region ?_
  refine St.p rfl rfl ?_
  refine St.done ?_
  refine St.thenN ?_
  refine St.prune (Γ' := [(0, _), (1, _)]) ⟨rfl, rfl, trivial⟩ .z ?_
  refine St.seq ?_
  refine St.region ?_
  refine St.p rfl rfl ?_
  refine St.p rfl rfl ?_
  obtain ⟨q1, hq1, h⟩ := bnd_e h
  refine St.rem rfl rfl rfl hq1 ?_
  refine St.p rfl rfl ?_
  refine St.done ?_
  refine St.thenN ?_
  refine St.prune (Γ' := [(0, _), (1, _)]) ⟨rfl, rfl, trivial⟩ .z ?_
  refine St.seq ?_
  refine St.seq ?_
  refine St.region ?_
  refine St.p rfl rfl ?_
  refine St.p rfl rfl ?_
  refine St.done ?_
  refine St.thenN ?_
  refine St.prune (Γ' := [(0, _), (1, _), (9, _)]) ⟨rfl, rfl, rfl, trivial⟩ .z ?_
  refine St.cond _ rfl (fun hb1 => ?_) (fun hb1 => ?_)
  · replace h := bif_t hb1 h
    refine St.region ?_
    iterate 4 refine St.p rfl rfl ?_
    refine St.done ?_
    refine St.thenN ?_
    refine St.prune (Γ' := [(0, _)]) ⟨rfl, trivial⟩ .z ?_
    refine St.seq ?_
    refine St.region ?_
    refine St.p rfl rfl ?_
    refine St.p rfl rfl ?_
    refine St.done ?_
    refine St.thenN ?_
    refine St.prune (Γ' := [(4, _)]) ⟨rfl, trivial⟩ .z ?_
    refine St.ret ?_
    repeat (first | refine St.thenR ?_ | refine St.blkR ?_)
    injection h with h
    subst h
    exact St.finR Try.results20 (.tmp rfl .nil) rfl [] ⟨rfl, rfl⟩ (fun _ w => (.z : Keep _ _).sat w)
  · replace h := bif_f hb1 h
    refine St.skip ?_
    refine St.thenN ?_
    refine St.prune (Γ' := [(0, _)]) ⟨rfl, trivial⟩ .z ?_
    refine St.seq ?_
    refine St.region ?_
    refine St.p rfl rfl ?_
    refine St.p rfl rfl ?_
    refine St.done ?_
    refine St.thenN ?_
    refine St.prune (Γ' := [(4, _)]) ⟨rfl, trivial⟩ .z ?_
    refine St.ret ?_
    repeat (first | refine St.thenR ?_ | refine St.blkR ?_)
    injection h with h
    subst h
    exact St.finR Try.results20 (.tmp rfl .nil) rfl [] ⟨rfl, rfl⟩ (fun _ w => (.z : Keep _ _).sat w)

theorem ent22 : Ent Try.prog 22 := ⟨_, Try.func22, by kernel_rfl, by kernel_rfl⟩

noncomputable def m_made_Dice_Next (d_p0 : T_Dice) (n_p1 : Int) : Option (T_Dice × Int) :=
  bif decide (d_p0.At ≥ (d_p0.L.length : Int)) then (some (d_p0, 0)) else (bnd (elt d_p0.L (IntKind.wrap .i64 ((IntKind.wrap .i64 (d_p0.At + 1)) - 1))) fun x1 => bnd (m_made_Mod x1 n_p1) fun r1 => some ((⟨d_p0.L, IntKind.wrap .i64 (d_p0.At + 1)⟩ : T_Dice), r1))

theorem c_made_Dice_Next {d_p0 : T_Dice} {n_p1 : Int} {A1 : Option Addr} {c1 : Nat} {gb1 : Nat} {r : (T_Dice × Int)} (h : m_made_Dice_Next d_p0 n_p1 = some r) :
    Fun Try.prog 22 [.pointer (some ⟨gb1, 0, none⟩), .int .i64 n_p1] [.ro (SlL ei64 A1 c1 d_p0.L), .res (Box gb1 73 [.slice A1 d_p0.L.length c1, .int .i64 d_p0.At])] (fun v_ F_ => ∃ (A1 : Option Addr) (c1 : Nat), v_ = .int .i64 r.2 ∧ F_ = [.ro (SlL ei64 A1 c1 r.1.L), .res (Box gb1 73 [.slice A1 r.1.L.length c1, .int .i64 r.1.At])]) := by
  unfold m_made_Dice_Next at h
  refine Fun.intro Try.func22 rfl rfl rfl fun w R => ?_
  refine St.seq ?_
  refine St.region ?_
  refine St.p rfl rfl ?_
  refine St.done ?_
  refine St.thenN ?_
  refine St.prune (Γ' := [(0, _), (1, _)]) ⟨rfl, rfl, trivial⟩ (.k (.k .z)) ?_
  refine St.seq ?_
  refine St.seq ?_
  refine St.regionF mixed (by kernel_rfl) ?_
  iterate 3 refine St.p rfl rfl ?_
  refine St.loadB 1 rfl rfl (.tail _ (.head _)) rfl rfl ?_
  iterate 3 refine St.p rfl rfl ?_
  refine St.loadB 0 rfl rfl (.tail _ (.head _)) rfl rfl ?_
  refine St.p rfl rfl ?_
  refine St.p rfl rfl ?_
  refine St.doneQ ?_
  refine St.thenN ?_
  refine St.prune (Γ' := [(0, _), (1, _), (14, _)]) ⟨rfl, rfl, rfl, trivial⟩ (.k (.k .z)) ?_
  refine St.cond _ rfl (fun hb1 => ?_) (fun hb1 => ?_)
  · replace h := bif_t hb1 h
    refine St.seq ?_
    refine St.region ?_
    refine St.p rfl rfl ?_
    refine St.done ?_
    refine St.thenN ?_
    refine St.prune (Γ' := [(4, _)]) ⟨rfl, trivial⟩ (.k (.k .z)) ?_
    refine St.ret ?_
    repeat (first | refine St.thenR ?_ | refine St.blkR ?_)
    injection h with h
    subst h
    exact St.finR Try.results22 (.tmp rfl .nil) rfl [.ro (SlL ei64 A1 c1 d_p0.L), .res (Box gb1 73 [.slice A1 d_p0.L.length c1, .int .i64 d_p0.At])] ⟨A1, c1, rfl, rfl⟩ (fun _ w => ((.k (.k (.d .z))) : Keep _ _).sat (Sat.dup (G := [.ro (SlL ei64 A1 c1 d_p0.L)]) rfl ⟨(.tail _ (.head _)), trivial⟩ (w.front (.s .z))))
  · replace h := bif_f hb1 h
    refine St.skip ?_
    refine St.thenN ?_
    refine St.prune (Γ' := [(0, _), (1, _)]) ⟨rfl, rfl, trivial⟩ (.k (.k .z)) ?_
    refine St.seq ?_
    refine St.region ?_
    iterate 3 refine St.p rfl rfl ?_
    refine St.loadB 1 rfl rfl (.tail _ (.head _)) rfl rfl ?_
    iterate 3 refine St.p rfl rfl ?_
    refine St.store 1 rfl rfl rfl rfl rfl rfl (.s .z) rfl ?_
    refine St.done ?_
    refine St.thenN ?_
    refine St.prune (Γ' := [(0, _), (1, _)]) ⟨rfl, rfl, trivial⟩ (.k (.k .z)) ?_
    refine St.seq ?_
    refine St.regionF mixed (by kernel_rfl) ?_
    iterate 3 refine St.p rfl rfl ?_
    refine St.loadB 0 rfl rfl (.head _) rfl rfl ?_
    iterate 3 refine St.p rfl rfl ?_
    refine St.loadB 1 rfl rfl (.head _) rfl rfl ?_
    refine St.p rfl rfl ?_
    obtain ⟨x1, hx1, h⟩ := bnd_e h
    refine St.ixL hx1 rfl rfl rfl (.tail _ (.head _)) rfl rfl rfl rfl rfl fun b1 ob1 => ?_
    refine St.load ob1 0 rfl rfl (.head _) rfl rfl ?_
    refine St.p rfl rfl ?_
    obtain ⟨r1, hr1, h⟩ := bnd_e h
    refine St.callV (c_made_Mod hr1) ent20 rfl rfl rfl rfl trivial ?_
    refine St.p rfl rfl ?_
    refine St.doneQ ?_
    refine St.thenN ?_
    refine St.prune (Γ' := [(4, _)]) ⟨rfl, trivial⟩ (.d (.k (.k .z))) ?_
    refine St.ret ?_
    repeat (first | refine St.thenR ?_ | refine St.blkR ?_)
    injection h with h
    subst h
    exact St.finR Try.results22 (.tmp rfl .nil) rfl [.ro (SlL ei64 A1 c1 d_p0.L), .res (Box gb1 73 [.slice A1 d_p0.L.length c1, .int .i64 (IntKind.wrap .i64 (d_p0.At + 1))])] ⟨A1, c1, rfl, rfl⟩ (fun _ w => ((.k (.k (.d .z))) : Keep _ _).sat (Sat.dup (G := [.ro (SlL ei64 A1 c1 d_p0.L)]) rfl ⟨(.tail _ (.head _)), trivial⟩ w))

theorem ent23 : Ent Try.prog 23 := ⟨_, Try.func23, by kernel_rfl, by kernel_rfl⟩

noncomputable def m_made_Dice_Bool (d_p0 : T_Dice) (n_p1 : Int) : Option (T_Dice × Bool) :=
  bnd (m_made_Dice_Next d_p0 n_p1) fun r1 => some (r1.1, (r1.2 == (IntKind.wrap .i64 (n_p1 - 1))))

theorem c_made_Dice_Bool {d_p0 : T_Dice} {n_p1 : Int} {A1 : Option Addr} {c1 : Nat} {gb1 : Nat} {r : (T_Dice × Bool)} (h : m_made_Dice_Bool d_p0 n_p1 = some r) :
    Fun Try.prog 23 [.pointer (some ⟨gb1, 0, none⟩), .int .i64 n_p1] [.ro (SlL ei64 A1 c1 d_p0.L), .res (Box gb1 73 [.slice A1 d_p0.L.length c1, .int .i64 d_p0.At])] (fun v_ F_ => ∃ (A1 : Option Addr) (c1 : Nat), v_ = .bool r.2 ∧ F_ = [.ro (SlL ei64 A1 c1 r.1.L), .res (Box gb1 73 [.slice A1 r.1.L.length c1, .int .i64 r.1.At])]) := by
  unfold m_made_Dice_Bool at h
  refine Fun.intro Try.func23 rfl rfl rfl fun w R => ?_
  refine St.seq ?_
  refine St.region ?_
  refine St.p rfl rfl ?_
  refine St.done ?_
  refine St.thenN ?_
  refine St.prune (Γ' := [(0, _), (1, _)]) ⟨rfl, rfl, trivial⟩ (.k (.k .z)) ?_
  refine St.seq ?_
  refine St.region ?_
  refine St.p rfl rfl ?_
  refine St.p rfl rfl ?_
  obtain ⟨r1, hr1, h⟩ := bnd_e h
  refine St.call (c_made_Dice_Next hr1) ent22 rfl rfl rfl (fun _ w => Sat.dup (G := [.ro (SlL ei64 A1 c1 d_p0.L)]) rfl ⟨(.tail _ (.head _)), trivial⟩ (w.front (.s .z))) ?_
  rintro _ _ ⟨A2, c2, rfl, rfl⟩
  refine St.asrt (F' := .ro (SlL ei64 A2 c2 r1.1.L) :: .res (Box gb1 73 [.slice A2 r1.1.L.length c2, .int .i64 r1.1.At]) :: .ro (SlL ei64 A1 c1 d_p0.L) :: R) (fun _ w => w) ?_
  iterate 4 refine St.p rfl rfl ?_
  refine St.done ?_
  refine St.thenN ?_
  refine St.prune (Γ' := [(4, _)]) ⟨rfl, trivial⟩ (.k (.k (.d .z))) ?_
  refine St.ret ?_
  repeat (first | refine St.thenR ?_ | refine St.blkR ?_)
  injection h with h
  subst h
  exact St.finR Try.results23 (.tmp rfl .nil) rfl [.ro (SlL ei64 A2 c2 r1.1.L), .res (Box gb1 73 [.slice A2 r1.1.L.length c2, .int .i64 r1.1.At])] ⟨A2, c2, rfl, rfl⟩ (fun _ w => ((.k (.k (.d .z))) : Keep _ _).sat (Sat.dup (G := [.ro (SlL ei64 A2 c2 r1.1.L)]) rfl ⟨(.tail _ (.head _)), trivial⟩ (w.front (.s .z))))

theorem ent13 : Ent Try.prog 13 := ⟨_, Try.func13, by kernel_rfl, by kernel_rfl⟩

noncomputable def m_made_Dice_Inventory (d_p0 : T_Dice) : Option (T_Dice × (List T_Known)) :=
  bnd (m_made_Dice_Next d_p0 3) fun r1 => bnd (loopM (τ := List T_Known × List Int × Int) (fun (s1 : List T_Known × Int × List Int × Int) => bif decide (s1.2.1 < 16) then (bnd (m_made_Dice_Bool (⟨s1.2.2.1, s1.2.2.2⟩ : T_Dice) 5) fun r2 => bnd (m_made_Dice_Next r2.1 3) fun r3 => bif !r2.2 then (bnd (m_made_Dice_Next r3.1 6) fun r4 => bnd (elt ([⟨#[]⟩, ⟨#[65, 49]⟩, ⟨#[66, 50]⟩, ⟨#[67, 51]⟩, ⟨#[68, 52]⟩, ⟨#[69, 53]⟩]) r4.2) fun x1 => bnd (app 40 s1.1 ([(⟨s1.2.1, !r2.2, x1, IntKind.wrap .u32 r3.2⟩ : T_Known)])) fun l1 => bnd (m_made_Dice_Next r4.1 5) fun r5 => some (.next (l1, IntKind.wrap .i64 (s1.2.1 + (IntKind.wrap .i64 (1 + r5.2))), r5.1.L, r5.1.At))) else (bnd (app 40 s1.1 ([(⟨s1.2.1, !r2.2, ⟨#[]⟩, IntKind.wrap .u32 r3.2⟩ : T_Known)])) fun l2 => bnd (m_made_Dice_Next r3.1 5) fun r6 => some (.next (l2, IntKind.wrap .i64 (s1.2.1 + (IntKind.wrap .i64 (1 + r6.2))), r6.1.L, r6.1.At)))) else (some (.done (s1.1, s1.2.2.1, s1.2.2.2)))) ([], r1.2, r1.1.L, r1.1.At)) fun o1 => some ((⟨o1.2.1, o1.2.2⟩ : T_Dice), o1.1)

theorem c_made_Dice_Inventory {d_p0 : T_Dice} {A1 : Option Addr} {c1 : Nat} {gb1 : Nat} {r : (T_Dice × (List T_Known))} (h : m_made_Dice_Inventory d_p0 = some r) :
    Fun Try.prog 13 [.pointer (some ⟨gb1, 0, none⟩)] [.ro (SlL ei64 A1 c1 d_p0.L), .res (Box gb1 73 [.slice A1 d_p0.L.length c1, .int .i64 d_p0.At])] (fun v_ F_ => ∃ (A1 : Option Addr) (c1 : Nat) (A2 : Option Addr) (c2 : Nat), v_ = .slice A2 r.2.length c2 ∧ F_ = [.ro (SlL ei64 A1 c1 r.1.L), .res (Box gb1 73 [.slice A1 r.1.L.length c1, .int .i64 r.1.At]), .res (OwnL e_Known 45 A2 c2 r.2)]) := by
  unfold m_made_Dice_Inventory at h
  refine Fun.intro Try.func13 rfl rfl rfl fun w R => ?_
  refine St.seq ?_
  refine St.region ?_
  refine St.p rfl rfl ?_
  refine St.done ?_
  refine St.thenN ?_
  refine St.prune (Γ' := [(0, _)]) ⟨rfl, trivial⟩ (.k (.k .z)) ?_
  refine St.seq ?_
  refine St.region ?_
  refine St.p rfl rfl ?_
  refine St.alloc rfl rfl fun g1 => ?_
  refine St.store 0 rfl rfl rfl rfl rfl rfl .z rfl ?_
  refine St.asrt (fun _ w => (w.front .z).litL (E := estr) (e := 74) [⟨#[]⟩, ⟨#[65, 49]⟩, ⟨#[66, 50]⟩, ⟨#[67, 51]⟩, ⟨#[68, 52]⟩, ⟨#[69, 53]⟩] rfl rfl) ?_
  refine St.done ?_
  refine St.thenN ?_
  refine St.prune (Γ' := [(0, _), (3, _)]) ⟨rfl, rfl, trivial⟩ (.k (.k (.k .z))) ?_
  refine St.seq ?_
  refine St.region ?_
  refine St.p rfl rfl ?_
  refine St.done ?_
  refine St.thenN ?_
  refine St.seq ?_
  refine St.seq ?_
  refine St.region ?_
  refine St.p rfl rfl ?_
  obtain ⟨r1, hr1, h⟩ := bnd_e h
  refine St.call (c_made_Dice_Next hr1) ent22 rfl rfl rfl (fun _ w => Sat.dup (G := [.ro (SlL ei64 A1 c1 d_p0.L)]) rfl ⟨(.tail _ (.tail _ (.head _))), trivial⟩ (w.front (.s (.s .z)))) ?_
  rintro _ _ ⟨A2, c2, rfl, rfl⟩
  refine St.asrt (F' := .ro (SlL ei64 A2 c2 r1.1.L) :: .res (Box gb1 73 [.slice A2 r1.1.L.length c2, .int .i64 r1.1.At]) :: .res (OwnL estr 74 (some ⟨g1, 0, none⟩) ([⟨#[]⟩, ⟨#[65, 49]⟩, ⟨#[66, 50]⟩, ⟨#[67, 51]⟩, ⟨#[68, 52]⟩, ⟨#[69, 53]⟩] : List ByteArray).length ([⟨#[]⟩, ⟨#[65, 49]⟩, ⟨#[66, 50]⟩, ⟨#[67, 51]⟩, ⟨#[68, 52]⟩, ⟨#[69, 53]⟩])) :: .ro (SlL ei64 A1 c1 d_p0.L) :: R) (fun _ w => w) ?_
  refine St.p rfl rfl ?_
  refine St.done ?_
  refine St.thenN ?_
  refine St.prune (Γ' := [(0, _), (3, _), (4, _), (5, _)]) ⟨rfl, rfl, rfl, rfl, trivial⟩ (.k (.k (.k (.d .z)))) ?_
  refine St.asrt (fun _ w => w.nilL e_Known 45) ?_
  obtain ⟨o1, hl1, h⟩ := bnd_e h
  refine St.cutE (fun (e2 : Option Addr × Nat × Option Addr × Nat) => [(4, .slice e2.1 o1.1.length e2.2.1)]) (fun e2 => .ro (SlL ei64 e2.2.2.1 e2.2.2.2 o1.2.1) :: .res (OwnL e_Known 45 e2.1 e2.2.1 o1.1) :: .res (Box gb1 73 [.slice e2.2.2.1 o1.2.1.length e2.2.2.2, .int .i64 o1.2.2]) :: R) ?_ ?_
  · refine St.block ?_
    refine St.loop hl1 (fun (s1 : List T_Known × Int × List Int × Int) (e1 : Option Addr × Nat × Option Addr × Nat) => [(0, .pointer (some ⟨gb1, 0, none⟩)), (3, .pointer (some ⟨g1, 0, none⟩)), (4, .slice e1.1 s1.1.length e1.2.1), (5, .int .i64 s1.2.1)]) (fun s1 e1 => .ro (SlL ei64 e1.2.2.1 e1.2.2.2 s1.2.2.1) :: .res (OwnL e_Known 45 e1.1 e1.2.1 s1.1) :: .res (Box gb1 73 [.slice e1.2.2.1 s1.2.2.1.length e1.2.2.2, .int .i64 s1.2.2.2]) :: .res (OwnL estr 74 (some ⟨g1, 0, none⟩) ([⟨#[]⟩, ⟨#[65, 49]⟩, ⟨#[66, 50]⟩, ⟨#[67, 51]⟩, ⟨#[68, 52]⟩, ⟨#[69, 53]⟩] : List ByteArray).length ([⟨#[]⟩, ⟨#[65, 49]⟩, ⟨#[66, 50]⟩, ⟨#[67, 51]⟩, ⟨#[68, 52]⟩, ⟨#[69, 53]⟩])) :: R) (fun _ _ => True) (none, 0, A2, c2) trivial ⟨rfl, rfl, rfl, rfl, trivial⟩ (fun _ w => ((.k (.k (.k (.k .z)))) : Keep _ _).sat ((((w.front (.s (.s (.s .z)))).front (.s (.s (.s .z)))).front (.s (.s .z))).front (.s (.s (.s .z))))) ?_
    rintro s1 ⟨A3, c3, A4, c4⟩ - hit1
    obtain ⟨st1, hm1, hd1⟩ := iter_e hit1
    have h1 := hm1
    refine St.seq ?_
    refine St.seq ?_
    refine St.region ?_
    refine St.p rfl rfl ?_
    refine St.p rfl rfl ?_
    refine St.done ?_
    refine St.thenN ?_
    refine St.prune (Γ' := [(0, _), (3, _), (4, _), (5, _), (11, _)]) ⟨rfl, rfl, rfl, rfl, rfl, trivial⟩ (.k (.k (.k (.k .z)))) ?_
    refine St.cond _ rfl (fun hb1 => ?_) (fun hb1 => ?_)
    · replace h1 := bif_t hb1 h1
      refine St.skip ?_
      refine St.thenN ?_
      refine St.prune (Γ' := [(0, _), (3, _), (4, _), (5, _)]) ⟨rfl, rfl, rfl, rfl, trivial⟩ (.k (.k (.k (.k .z)))) ?_
      refine St.seq ?_
      refine St.block ?_
      refine St.seq ?_
      refine St.region ?_
      refine St.p rfl rfl ?_
      refine St.p rfl rfl ?_
      obtain ⟨r2, hr2, h1⟩ := bnd_e h1
      refine St.call (c_made_Dice_Bool hr2) ent23 rfl rfl rfl (fun _ w => Sat.dup (G := [.ro (SlL ei64 A4 c4 s1.2.2.1)]) rfl ⟨(.tail _ (.head _)), trivial⟩ (w.front (.s (.s .z)))) ?_
      rintro _ _ ⟨A7, c7, rfl, rfl⟩
      refine St.asrt (F' := .ro (SlL ei64 A7 c7 r2.1.L) :: .res (Box gb1 73 [.slice A7 r2.1.L.length c7, .int .i64 r2.1.At]) :: .ro (SlL ei64 A4 c4 s1.2.2.1) :: .res (OwnL e_Known 45 A3 c3 s1.1) :: .res (OwnL estr 74 (some ⟨g1, 0, none⟩) ([⟨#[]⟩, ⟨#[65, 49]⟩, ⟨#[66, 50]⟩, ⟨#[67, 51]⟩, ⟨#[68, 52]⟩, ⟨#[69, 53]⟩] : List ByteArray).length ([⟨#[]⟩, ⟨#[65, 49]⟩, ⟨#[66, 50]⟩, ⟨#[67, 51]⟩, ⟨#[68, 52]⟩, ⟨#[69, 53]⟩])) :: R) (fun _ w => w) ?_
      refine St.p rfl rfl ?_
      refine St.p rfl rfl ?_
      obtain ⟨r3, hr3, h1⟩ := bnd_e h1
      refine St.call (c_made_Dice_Next hr3) ent22 rfl rfl rfl (fun _ w => Sat.dup (G := [.ro (SlL ei64 A7 c7 r2.1.L)]) rfl ⟨(.tail _ (.head _)), trivial⟩ (w.front (.s .z))) ?_
      rintro _ _ ⟨A8, c8, rfl, rfl⟩
      refine St.asrt (F' := .ro (SlL ei64 A8 c8 r3.1.L) :: .res (Box gb1 73 [.slice A8 r3.1.L.length c8, .int .i64 r3.1.At]) :: .ro (SlL ei64 A7 c7 r2.1.L) :: .ro (SlL ei64 A4 c4 s1.2.2.1) :: .res (OwnL e_Known 45 A3 c3 s1.1) :: .res (OwnL estr 74 (some ⟨g1, 0, none⟩) ([⟨#[]⟩, ⟨#[65, 49]⟩, ⟨#[66, 50]⟩, ⟨#[67, 51]⟩, ⟨#[68, 52]⟩, ⟨#[69, 53]⟩] : List ByteArray).length ([⟨#[]⟩, ⟨#[65, 49]⟩, ⟨#[66, 50]⟩, ⟨#[67, 51]⟩, ⟨#[68, 52]⟩, ⟨#[69, 53]⟩])) :: R) (fun _ w => w) ?_
      refine St.p rfl rfl ?_
      refine St.p rfl rfl ?_
      refine St.alloc rfl rfl fun g2 => ?_
      refine St.store 0 rfl rfl rfl rfl rfl rfl .z rfl ?_
      refine St.done ?_
      refine St.thenN ?_
      refine St.prune (Γ' := [(0, _), (3, _), (4, _), (5, _), (6, _)]) ⟨rfl, rfl, rfl, rfl, rfl, trivial⟩ (.k (.k (.k (.d (.d (.k (.k .z))))))) ?_
      refine St.seq ?_
      refine St.seq ?_
      refine St.region ?_
      refine St.p rfl rfl ?_
      refine St.loadB 1 rfl rfl (.head _) rfl rfl ?_
      refine St.done ?_
      refine St.thenN ?_
      refine St.prune (Γ' := [(0, _), (3, _), (4, _), (5, _), (6, _), (26, _)]) ⟨rfl, rfl, rfl, rfl, rfl, rfl, trivial⟩ (.k (.k (.k (.k (.k .z))))) ?_
      refine St.cond _ rfl (fun hb2 => ?_) (fun hb2 => ?_)
      · replace h1 := bif_t hb2 h1
        refine St.region ?_
        refine St.p rfl rfl ?_
        obtain ⟨r4, hr4, h1⟩ := bnd_e h1
        refine St.call (c_made_Dice_Next hr4) ent22 rfl rfl rfl (fun _ w => Sat.dup (G := [.ro (SlL ei64 A8 c8 r3.1.L)]) rfl ⟨(.tail _ (.tail _ (.head _))), trivial⟩ (w.front (.s (.s .z)))) ?_
        rintro _ _ ⟨A9, c9, rfl, rfl⟩
        refine St.asrt (F' := .ro (SlL ei64 A9 c9 r4.1.L) :: .res (Box gb1 73 [.slice A9 r4.1.L.length c9, .int .i64 r4.1.At]) :: .res (Box g2 45 [.int .i64 s1.2.1, .bool (!r2.2), .string (⟨#[]⟩), .int .u32 (IntKind.wrap .u32 r3.2)]) :: .ro (SlL ei64 A8 c8 r3.1.L) :: .res (OwnL e_Known 45 A3 c3 s1.1) :: .res (OwnL estr 74 (some ⟨g1, 0, none⟩) ([⟨#[]⟩, ⟨#[65, 49]⟩, ⟨#[66, 50]⟩, ⟨#[67, 51]⟩, ⟨#[68, 52]⟩, ⟨#[69, 53]⟩] : List ByteArray).length ([⟨#[]⟩, ⟨#[65, 49]⟩, ⟨#[66, 50]⟩, ⟨#[67, 51]⟩, ⟨#[68, 52]⟩, ⟨#[69, 53]⟩])) :: R) (fun _ w => w) ?_
        obtain ⟨x1, hx1, h1⟩ := bnd_e h1
        refine St.ixA (sz := 1) hx1 rfl rfl rfl rfl rfl rfl rfl rfl ?_
        refine St.ldO 0 hx1 rfl rfl (.tail _ (.tail _ (.tail _ (.tail _ (.tail _ (.head _)))))) rfl rfl ?_
        refine St.p rfl rfl ?_
        refine St.store 2 rfl rfl rfl rfl rfl rfl (.s (.s .z)) rfl ?_
        refine St.done ?_
        refine St.thenN ?_
        refine St.prune (Γ' := [(0, _), (3, _), (4, _), (5, _), (6, _)]) ⟨rfl, rfl, rfl, rfl, rfl, trivial⟩ (.k (.k (.k (.d (.k (.k .z)))))) ?_
        refine St.region ?_
        refine St.p rfl rfl ?_
        refine St.loadB 0 rfl rfl (.head _) rfl rfl ?_
        refine St.buildSlice rfl rfl rfl rfl rfl rfl rfl rfl fun g3 => ?_
        obtain ⟨l1, hl1, h1⟩ := bnd_e h1
        refine St.app (E := e_Known) hl1 rfl rfl rfl (.s (.s (.s (.s .z)))) rfl rfl rfl rfl rfl rfl rfl rfl (srcB (.head _) rfl rfl) fun A10 c10 => ?_
        refine St.p rfl rfl ?_
        refine St.done ?_
        refine St.blkN ?_
        refine St.thenN ?_
        refine St.prune (Γ' := [(0, _), (3, _), (4, _), (5, _)]) ⟨rfl, rfl, rfl, rfl, trivial⟩ (.k (.d (.d (.k (.k (.k .z)))))) ?_
        refine St.region ?_
        refine St.p rfl rfl ?_
        refine St.p rfl rfl ?_
        obtain ⟨r5, hr5, h1⟩ := bnd_e h1
        refine St.call (c_made_Dice_Next hr5) ent22 rfl rfl rfl (fun _ w => Sat.dup (G := [.ro (SlL ei64 A9 c9 r4.1.L)]) rfl ⟨(.tail _ (.tail _ (.head _))), trivial⟩ (w.front (.s (.s .z)))) ?_
        rintro _ _ ⟨A11, c11, rfl, rfl⟩
        refine St.asrt (F' := .ro (SlL ei64 A11 c11 r5.1.L) :: .res (Box gb1 73 [.slice A11 r5.1.L.length c11, .int .i64 r5.1.At]) :: .res (OwnL e_Known 45 A10 c10 l1) :: .ro (SlL ei64 A9 c9 r4.1.L) :: .res (OwnL estr 74 (some ⟨g1, 0, none⟩) ([⟨#[]⟩, ⟨#[65, 49]⟩, ⟨#[66, 50]⟩, ⟨#[67, 51]⟩, ⟨#[68, 52]⟩, ⟨#[69, 53]⟩] : List ByteArray).length ([⟨#[]⟩, ⟨#[65, 49]⟩, ⟨#[66, 50]⟩, ⟨#[67, 51]⟩, ⟨#[68, 52]⟩, ⟨#[69, 53]⟩])) :: R) (fun _ w => w) ?_
        iterate 3 refine St.p rfl rfl ?_
        refine St.done ?_
        injection h1 with h1
        subst h1
        refine St.thenN ?_
        exact St.again _ (A10, c10, A11, c11) hm1 trivial ⟨rfl, rfl, rfl, rfl, trivial⟩ (fun _ w => ((.k (.k (.k (.k (.d .z))))) : Keep _ _).sat ((((w.front (.s (.s (.s (.s .z))))).front (.s (.s .z))).front (.s (.s (.s .z)))).front (.s (.s (.s .z)))))
      · replace h1 := bif_f hb2 h1
        refine St.skip ?_
        refine St.thenN ?_
        refine St.prune (Γ' := [(0, _), (3, _), (4, _), (5, _), (6, _)]) ⟨rfl, rfl, rfl, rfl, rfl, trivial⟩ (.k (.k (.k (.k (.k .z))))) ?_
        refine St.region ?_
        refine St.p rfl rfl ?_
        refine St.loadB 0 rfl rfl (.head _) rfl rfl ?_
        refine St.buildSlice rfl rfl rfl rfl rfl rfl rfl rfl fun g4 => ?_
        obtain ⟨l2, hl2, h1⟩ := bnd_e h1
        refine St.app (E := e_Known) hl2 rfl rfl rfl (.s (.s (.s (.s .z)))) rfl rfl rfl rfl rfl rfl rfl rfl (srcB (.head _) rfl rfl) fun A12 c12 => ?_
        refine St.p rfl rfl ?_
        refine St.done ?_
        refine St.blkN ?_
        refine St.thenN ?_
        refine St.prune (Γ' := [(0, _), (3, _), (4, _), (5, _)]) ⟨rfl, rfl, rfl, rfl, trivial⟩ (.k (.d (.d (.k (.k (.k .z)))))) ?_
        refine St.region ?_
        refine St.p rfl rfl ?_
        refine St.p rfl rfl ?_
        obtain ⟨r6, hr6, h1⟩ := bnd_e h1
        refine St.call (c_made_Dice_Next hr6) ent22 rfl rfl rfl (fun _ w => Sat.dup (G := [.ro (SlL ei64 A8 c8 r3.1.L)]) rfl ⟨(.tail _ (.tail _ (.head _))), trivial⟩ (w.front (.s (.s .z)))) ?_
        rintro _ _ ⟨A13, c13, rfl, rfl⟩
        refine St.asrt (F' := .ro (SlL ei64 A13 c13 r6.1.L) :: .res (Box gb1 73 [.slice A13 r6.1.L.length c13, .int .i64 r6.1.At]) :: .res (OwnL e_Known 45 A12 c12 l2) :: .ro (SlL ei64 A8 c8 r3.1.L) :: .res (OwnL estr 74 (some ⟨g1, 0, none⟩) ([⟨#[]⟩, ⟨#[65, 49]⟩, ⟨#[66, 50]⟩, ⟨#[67, 51]⟩, ⟨#[68, 52]⟩, ⟨#[69, 53]⟩] : List ByteArray).length ([⟨#[]⟩, ⟨#[65, 49]⟩, ⟨#[66, 50]⟩, ⟨#[67, 51]⟩, ⟨#[68, 52]⟩, ⟨#[69, 53]⟩])) :: R) (fun _ w => w) ?_
        iterate 3 refine St.p rfl rfl ?_
        refine St.done ?_
        injection h1 with h1
        subst h1
        refine St.thenN ?_
        exact St.again _ (A12, c12, A13, c13) hm1 trivial ⟨rfl, rfl, rfl, rfl, trivial⟩ (fun _ w => ((.k (.k (.k (.k (.d .z))))) : Keep _ _).sat ((((w.front (.s (.s (.s (.s .z))))).front (.s (.s .z))).front (.s (.s (.s .z)))).front (.s (.s (.s .z)))))
    · replace h1 := bif_f hb1 h1
      refine St.exit ?_
      repeat (first | refine St.thenX ?_ | refine St.blkMiss rfl ?_)
      refine St.blkHit ?_
      injection h1 with h1
      subst h1
      have ho := hd1 _ rfl
      subst ho
      refine St.thenN ?_
      exact St.hereE (A3, c3, A4, c4) ⟨rfl, trivial⟩ (fun _ w => ((.k (.k (.k (.d .z)))) : Keep _ _).sat w)
  · rintro ⟨A5, c5, A6, c6⟩
    refine St.seq ?_
    refine St.region ?_
    refine St.p rfl rfl ?_
    refine St.p rfl rfl ?_
    refine St.done ?_
    refine St.thenN ?_
    refine St.prune (Γ' := [(2, _)]) ⟨rfl, trivial⟩ (.k (.k (.k .z))) ?_
    refine St.ret ?_
    repeat (first | refine St.thenR ?_ | refine St.blkR ?_)
    injection h with h
    subst h
    exact St.finR Try.results13 (.tmp rfl .nil) rfl [.ro (SlL ei64 A6 c6 o1.2.1), .res (Box gb1 73 [.slice A6 o1.2.1.length c6, .int .i64 o1.2.2]), .res (OwnL e_Known 45 A5 c5 o1.1)] ⟨A6, c6, A5, c5, rfl, rfl⟩ (fun _ w => ((.k (.k (.k (.d .z)))) : Keep _ _).sat (Sat.dup (G := [.ro (SlL ei64 A6 c6 o1.2.1)]) rfl ⟨(.tail _ (.tail _ (.head _))), trivial⟩ ((w.front (.s .z)).front (.s (.s .z)))))

theorem ent18 : Ent Try.prog 18 := ⟨_, Try.func18, by kernel_rfl, by kernel_rfl⟩

noncomputable def m_ref19_Valid (l_p0 : (List T_Known)) : Option Bool :=
  bnd (loopM (τ := Bool ⊕ Unit) (fun (s1 : Int) => bif decide (s1 < (l_p0.length : Int)) then (bnd ((bnd (elt l_p0 s1) fun x1 => bif decide (x1.Slot < 0) then (some true) else (bif decide (x1.Slot ≥ 16) then (some true) else (bif decide (s1 > 0) then (bnd (elt l_p0 (IntKind.wrap .i64 (s1 - 1))) fun x2 => bif decide (x1.Slot ≤ x2.Slot) then (some true) else (bif decide ((x1.Serial.size : Int) > 23) then (some true) else (bif !x1.Good then (some (!(x1.Serial.toList == ((⟨#[]⟩) : ByteArray).toList))) else (some false)))) else (bif decide ((x1.Serial.size : Int) > 23) then (some true) else (bif !x1.Good then (some (!(x1.Serial.toList == ((⟨#[]⟩) : ByteArray).toList))) else (some false))))) : Option Bool)) fun o3 => bif o3 then (some (.done (.inl false))) else (some (.next (IntKind.wrap .i64 (s1 + 1))))) else (some (.done (.inr ())))) 0) fun o1 => retOr o1 fun o2 => some true

theorem c_ref19_Valid {l_p0 : (List T_Known)} {A1 : Option Addr} {c1 : Nat} {r : Bool} (h : m_ref19_Valid l_p0 = some r) :
    Fun Try.prog 18 [.slice A1 l_p0.length c1] [.ro (SlL e_Known A1 c1 l_p0)] (Val (.bool r)) := by
  unfold m_ref19_Valid at h
  refine Fun.intro Try.func18 rfl rfl rfl fun w R => ?_
  refine St.seq ?_
  refine St.region ?_
  refine St.p rfl rfl ?_
  refine St.done ?_
  refine St.thenN ?_
  refine St.prune (Γ' := [(0, _)]) ⟨rfl, trivial⟩ (.k .z) ?_
  refine St.seq ?_
  refine St.seq ?_
  refine St.region ?_
  refine St.p rfl rfl ?_
  refine St.done ?_
  refine St.thenN ?_
  obtain ⟨o1, hl1, h⟩ := bnd_e h
  refine St.cutI (fun (o2 : Unit) (e2 : Unit) => []) (fun o2 e2 => R) (fun o2 => o1 = .inr o2) ?_ ?_
  · refine St.block ?_
    refine St.loop hl1 (fun (s1 : Int) (e1 : Unit) => [(0, .slice A1 l_p0.length c1), (3, .int .i64 s1)]) (fun s1 e1 => .ro (SlL e_Known A1 c1 l_p0) :: R) (fun _ _ => True) () trivial ⟨rfl, rfl, trivial⟩ (fun _ w => ((.k .z) : Keep _ _).sat w) ?_
    rintro s1 e1 - hit1
    obtain ⟨st1, hm1, hd1⟩ := iter_e hit1
    have h1 := hm1
    refine St.seq ?_
    refine St.seq ?_
    refine St.region ?_
    iterate 4 refine St.p rfl rfl ?_
    refine St.done ?_
    refine St.thenN ?_
    refine St.prune (Γ' := [(0, _), (3, _), (7, _)]) ⟨rfl, rfl, rfl, trivial⟩ (.k .z) ?_
    refine St.cond _ rfl (fun hb1 => ?_) (fun hb1 => ?_)
    · replace h1 := bif_t hb1 h1
      refine St.skip ?_
      refine St.thenN ?_
      refine St.prune (Γ' := [(0, _), (3, _)]) ⟨rfl, rfl, trivial⟩ (.k .z) ?_
      refine St.seq ?_
      refine St.block ?_
      refine St.seq ?_
      obtain ⟨o3, hj1, h1⟩ := bnd_e h1
      refine St.cutE (fun (e3 : Unit) => [(0, .slice A1 l_p0.length c1), (3, .int .i64 s1), (66, .bool o3)]) (fun e3 => .ro (SlL e_Known A1 c1 l_p0) :: R) ?_ ?_
      · refine St.regionF mixed (by kernel_rfl) ?_
        refine St.p rfl rfl ?_
        refine St.p rfl rfl ?_
        obtain ⟨x1, hx1, hj1⟩ := bnd_e hj1
        refine St.ixL hx1 rfl rfl rfl (.head _) rfl rfl rfl rfl rfl fun b1 ob1 => ?_
        refine St.p rfl rfl ?_
        refine St.load ob1 0 rfl rfl (.head _) rfl rfl ?_
        refine St.p rfl rfl ?_
        refine St.p rfl rfl ?_
        refine St.gSplit (dj := 16) _ rfl (fun hb2 => ?_) (fun hb2 => ?_)
        · replace hj1 := bif_t hb2 hj1
          refine St.gOff (dj := 16) rfl rfl rfl rfl ?_
          refine St.gOff (dj := 16) rfl rfl rfl rfl ?_
          refine St.gOff (dj := 16) rfl rfl rfl rfl ?_
          refine St.gOff (dj := 16) rfl rfl rfl rfl ?_
          refine St.gOff (dj := 16) rfl rfl rfl rfl ?_
          refine St.gOff (dj := 16) rfl rfl rfl rfl ?_
          refine St.p rfl rfl ?_
          refine St.p rfl rfl ?_
          refine St.gOff (dj := 24) rfl rfl rfl rfl ?_
          refine St.gOff (dj := 24) rfl rfl rfl rfl ?_
          refine St.gOff (dj := 24) rfl rfl rfl rfl ?_
          refine St.gOff (dj := 27) rfl rfl rfl rfl ?_
          refine St.gOff (dj := 27) rfl rfl rfl rfl ?_
          refine St.gOff (dj := 27) rfl rfl rfl rfl ?_
          refine St.gOff (dj := 27) rfl rfl rfl rfl ?_
          refine St.gOff (dj := 27) rfl rfl rfl rfl ?_
          refine St.gOff (dj := 27) rfl rfl rfl rfl ?_
          refine St.gOff (dj := 27) rfl rfl rfl rfl ?_
          refine St.gOff (dj := 27) rfl rfl rfl rfl ?_
          refine St.gOff (dj := 27) rfl rfl rfl rfl ?_
          refine St.gOff (dj := 27) rfl rfl rfl rfl ?_
          refine St.gOff (dj := 27) rfl rfl rfl rfl ?_
          refine St.gOff (dj := 27) rfl rfl rfl rfl ?_
          refine St.gOff (dj := 24) rfl rfl rfl rfl ?_
          refine St.p rfl rfl ?_
          refine St.p rfl rfl ?_
          refine St.gOff (dj := 42) rfl rfl rfl rfl ?_
          refine St.gOff (dj := 42) rfl rfl rfl rfl ?_
          refine St.gOff (dj := 42) rfl rfl rfl rfl ?_
          refine St.gOff (dj := 42) rfl rfl rfl rfl ?_
          refine St.gOff (dj := 42) rfl rfl rfl rfl ?_
          refine St.gOff (dj := 42) rfl rfl rfl rfl ?_
          refine St.gOff (dj := 42) rfl rfl rfl rfl ?_
          refine St.p rfl rfl ?_
          refine St.p rfl rfl ?_
          refine St.gOff (dj := 51) rfl rfl rfl rfl ?_
          refine St.gOff (dj := 51) rfl rfl rfl rfl ?_
          refine St.gOff (dj := 51) rfl rfl rfl rfl ?_
          refine St.gOff (dj := 51) rfl rfl rfl rfl ?_
          refine St.gOff (dj := 51) rfl rfl rfl rfl ?_
          refine St.gOff (dj := 51) rfl rfl rfl rfl ?_
          refine St.gOff (dj := 51) rfl rfl rfl rfl ?_
          refine St.gOff (dj := 58) rfl rfl rfl rfl ?_
          refine St.gOff (dj := 58) rfl rfl rfl rfl ?_
          refine St.gOff (dj := 58) rfl rfl rfl rfl ?_
          refine St.gOff (dj := 58) rfl rfl rfl rfl ?_
          refine St.gOff (dj := 58) rfl rfl rfl rfl ?_
          refine St.gOff (dj := 58) rfl rfl rfl rfl ?_
          refine St.gOff (dj := 51) rfl rfl rfl rfl ?_
          refine St.p rfl rfl ?_
          refine St.doneQ ?_
          injection hj1 with hj1
          subst hj1
          refine St.thenN ?_
          exact St.hereE () ⟨rfl, rfl, rfl, trivial⟩ (fun _ w => ((.d (.k .z)) : Keep _ _).sat w)
        · replace hj1 := bif_f hb2 hj1
          refine St.gOn (dj := 16) rfl rfl ?_
          refine St.p rfl rfl ?_
          refine St.gOn (dj := 16) rfl rfl ?_
          refine St.p rfl rfl ?_
          refine St.gOn (dj := 16) rfl rfl ?_
          refine St.ixL hx1 rfl rfl rfl (.tail _ (.head _)) rfl rfl rfl rfl rfl fun b2 ob2 => ?_
          refine St.gOn (dj := 16) rfl rfl ?_
          refine St.p rfl rfl ?_
          refine St.gOn (dj := 16) rfl rfl ?_
          refine St.load ob2 0 rfl rfl (.head _) rfl rfl ?_
          refine St.gOn (dj := 16) rfl rfl ?_
          iterate 3 refine St.p rfl rfl ?_
          refine St.gSplit (dj := 24) _ rfl (fun hb3 => ?_) (fun hb3 => ?_)
          · replace hj1 := bif_t hb3 hj1
            refine St.gOff (dj := 24) rfl rfl rfl rfl ?_
            refine St.gOff (dj := 24) rfl rfl rfl rfl ?_
            refine St.gOff (dj := 24) rfl rfl rfl rfl ?_
            refine St.gOff (dj := 27) rfl rfl rfl rfl ?_
            refine St.gOff (dj := 27) rfl rfl rfl rfl ?_
            refine St.gOff (dj := 27) rfl rfl rfl rfl ?_
            refine St.gOff (dj := 27) rfl rfl rfl rfl ?_
            refine St.gOff (dj := 27) rfl rfl rfl rfl ?_
            refine St.gOff (dj := 27) rfl rfl rfl rfl ?_
            refine St.gOff (dj := 27) rfl rfl rfl rfl ?_
            refine St.gOff (dj := 27) rfl rfl rfl rfl ?_
            refine St.gOff (dj := 27) rfl rfl rfl rfl ?_
            refine St.gOff (dj := 27) rfl rfl rfl rfl ?_
            refine St.gOff (dj := 27) rfl rfl rfl rfl ?_
            refine St.gOff (dj := 27) rfl rfl rfl rfl ?_
            refine St.gOff (dj := 24) rfl rfl rfl rfl ?_
            refine St.p rfl rfl ?_
            refine St.p rfl rfl ?_
            refine St.gOff (dj := 42) rfl rfl rfl rfl ?_
            refine St.gOff (dj := 42) rfl rfl rfl rfl ?_
            refine St.gOff (dj := 42) rfl rfl rfl rfl ?_
            refine St.gOff (dj := 42) rfl rfl rfl rfl ?_
            refine St.gOff (dj := 42) rfl rfl rfl rfl ?_
            refine St.gOff (dj := 42) rfl rfl rfl rfl ?_
            refine St.gOff (dj := 42) rfl rfl rfl rfl ?_
            refine St.p rfl rfl ?_
            refine St.p rfl rfl ?_
            refine St.gOff (dj := 51) rfl rfl rfl rfl ?_
            refine St.gOff (dj := 51) rfl rfl rfl rfl ?_
            refine St.gOff (dj := 51) rfl rfl rfl rfl ?_
            refine St.gOff (dj := 51) rfl rfl rfl rfl ?_
            refine St.gOff (dj := 51) rfl rfl rfl rfl ?_
            refine St.gOff (dj := 51) rfl rfl rfl rfl ?_
            refine St.gOff (dj := 51) rfl rfl rfl rfl ?_
            refine St.gOff (dj := 58) rfl rfl rfl rfl ?_
            refine St.gOff (dj := 58) rfl rfl rfl rfl ?_
            refine St.gOff (dj := 58) rfl rfl rfl rfl ?_
            refine St.gOff (dj := 58) rfl rfl rfl rfl ?_
            refine St.gOff (dj := 58) rfl rfl rfl rfl ?_
            refine St.gOff (dj := 58) rfl rfl rfl rfl ?_
            refine St.gOff (dj := 51) rfl rfl rfl rfl ?_
            refine St.p rfl rfl ?_
            refine St.doneQ ?_
            injection hj1 with hj1
            subst hj1
            refine St.thenN ?_
            exact St.hereE () ⟨rfl, rfl, rfl, trivial⟩ (fun _ w => ((.d (.d (.k .z))) : Keep _ _).sat w)
          · replace hj1 := bif_f hb3 hj1
            refine St.gOn (dj := 24) rfl rfl ?_
            refine St.p rfl rfl ?_
            refine St.gOn (dj := 24) rfl rfl ?_
            refine St.p rfl rfl ?_
            refine St.gOn (dj := 24) rfl rfl ?_
            refine St.p rfl rfl ?_
            refine St.gSplit (dj := 27) _ rfl (fun hb4 => ?_) (fun hb4 => ?_)
            · replace hj1 := bif_t hb4 hj1
              refine St.gOn (dj := 27) rfl rfl ?_
              refine St.p rfl rfl ?_
              refine St.gOn (dj := 27) rfl rfl ?_
              refine St.p rfl rfl ?_
              refine St.gOn (dj := 27) rfl rfl ?_
              refine St.ixL hx1 rfl rfl rfl (.tail _ (.tail _ (.head _))) rfl rfl rfl rfl rfl fun b3 ob3 => ?_
              refine St.gOn (dj := 27) rfl rfl ?_
              refine St.p rfl rfl ?_
              refine St.gOn (dj := 27) rfl rfl ?_
              refine St.load ob3 0 rfl rfl (.head _) rfl rfl ?_
              refine St.gOn (dj := 27) rfl rfl ?_
              refine St.p rfl rfl ?_
              refine St.gOn (dj := 27) rfl rfl ?_
              refine St.p rfl rfl ?_
              refine St.gOn (dj := 27) rfl rfl ?_
              refine St.p rfl rfl ?_
              refine St.gOn (dj := 27) rfl rfl ?_
              obtain ⟨x2, hx2, hj1⟩ := bnd_e hj1
              refine St.ixL hx2 rfl rfl rfl (.tail _ (.tail _ (.tail _ (.head _)))) rfl rfl rfl rfl rfl fun b4 ob4 => ?_
              refine St.gOn (dj := 27) rfl rfl ?_
              refine St.p rfl rfl ?_
              refine St.gOn (dj := 27) rfl rfl ?_
              refine St.load ob4 0 rfl rfl (.head _) rfl rfl ?_
              refine St.gOn (dj := 27) rfl rfl ?_
              refine St.p rfl rfl ?_
              refine St.gOn (dj := 24) rfl rfl ?_
              iterate 3 refine St.p rfl rfl ?_
              refine St.gSplit (dj := 42) _ rfl (fun hb5 => ?_) (fun hb5 => ?_)
              · replace hj1 := bif_t hb5 hj1
                refine St.gOff (dj := 42) rfl rfl rfl rfl ?_
                refine St.gOff (dj := 42) rfl rfl rfl rfl ?_
                refine St.gOff (dj := 42) rfl rfl rfl rfl ?_
                refine St.gOff (dj := 42) rfl rfl rfl rfl ?_
                refine St.gOff (dj := 42) rfl rfl rfl rfl ?_
                refine St.gOff (dj := 42) rfl rfl rfl rfl ?_
                refine St.gOff (dj := 42) rfl rfl rfl rfl ?_
                refine St.p rfl rfl ?_
                refine St.p rfl rfl ?_
                refine St.gOff (dj := 51) rfl rfl rfl rfl ?_
                refine St.gOff (dj := 51) rfl rfl rfl rfl ?_
                refine St.gOff (dj := 51) rfl rfl rfl rfl ?_
                refine St.gOff (dj := 51) rfl rfl rfl rfl ?_
                refine St.gOff (dj := 51) rfl rfl rfl rfl ?_
                refine St.gOff (dj := 51) rfl rfl rfl rfl ?_
                refine St.gOff (dj := 51) rfl rfl rfl rfl ?_
                refine St.gOff (dj := 58) rfl rfl rfl rfl ?_
                refine St.gOff (dj := 58) rfl rfl rfl rfl ?_
                refine St.gOff (dj := 58) rfl rfl rfl rfl ?_
                refine St.gOff (dj := 58) rfl rfl rfl rfl ?_
                refine St.gOff (dj := 58) rfl rfl rfl rfl ?_
                refine St.gOff (dj := 58) rfl rfl rfl rfl ?_
                refine St.gOff (dj := 51) rfl rfl rfl rfl ?_
                refine St.p rfl rfl ?_
                refine St.doneQ ?_
                injection hj1 with hj1
                subst hj1
                refine St.thenN ?_
                exact St.hereE () ⟨rfl, rfl, rfl, trivial⟩ (fun _ w => ((.d (.d (.d (.d (.k .z))))) : Keep _ _).sat w)
              · replace hj1 := bif_f hb5 hj1
                refine St.gOn (dj := 42) rfl rfl ?_
                refine St.p rfl rfl ?_
                refine St.gOn (dj := 42) rfl rfl ?_
                refine St.p rfl rfl ?_
                refine St.gOn (dj := 42) rfl rfl ?_
                refine St.ixL hx1 rfl rfl rfl (.tail _ (.tail _ (.tail _ (.tail _ (.head _))))) rfl rfl rfl rfl rfl fun b5 ob5 => ?_
                refine St.gOn (dj := 42) rfl rfl ?_
                refine St.p rfl rfl ?_
                refine St.gOn (dj := 42) rfl rfl ?_
                refine St.load ob5 2 rfl rfl (.head _) rfl rfl ?_
                refine St.gOn (dj := 42) rfl rfl ?_
                refine St.p rfl rfl ?_
                refine St.gOn (dj := 42) rfl rfl ?_
                iterate 3 refine St.p rfl rfl ?_
                refine St.gSplit (dj := 51) _ rfl (fun hb6 => ?_) (fun hb6 => ?_)
                · replace hj1 := bif_t hb6 hj1
                  refine St.gOff (dj := 51) rfl rfl rfl rfl ?_
                  refine St.gOff (dj := 51) rfl rfl rfl rfl ?_
                  refine St.gOff (dj := 51) rfl rfl rfl rfl ?_
                  refine St.gOff (dj := 51) rfl rfl rfl rfl ?_
                  refine St.gOff (dj := 51) rfl rfl rfl rfl ?_
                  refine St.gOff (dj := 51) rfl rfl rfl rfl ?_
                  refine St.gOff (dj := 51) rfl rfl rfl rfl ?_
                  refine St.gOff (dj := 58) rfl rfl rfl rfl ?_
                  refine St.gOff (dj := 58) rfl rfl rfl rfl ?_
                  refine St.gOff (dj := 58) rfl rfl rfl rfl ?_
                  refine St.gOff (dj := 58) rfl rfl rfl rfl ?_
                  refine St.gOff (dj := 58) rfl rfl rfl rfl ?_
                  refine St.gOff (dj := 58) rfl rfl rfl rfl ?_
                  refine St.gOff (dj := 51) rfl rfl rfl rfl ?_
                  refine St.p rfl rfl ?_
                  refine St.doneQ ?_
                  injection hj1 with hj1
                  subst hj1
                  refine St.thenN ?_
                  exact St.hereE () ⟨rfl, rfl, rfl, trivial⟩ (fun _ w => ((.d (.d (.d (.d (.d (.k .z)))))) : Keep _ _).sat w)
                · replace hj1 := bif_f hb6 hj1
                  refine St.gOn (dj := 51) rfl rfl ?_
                  refine St.p rfl rfl ?_
                  refine St.gOn (dj := 51) rfl rfl ?_
                  refine St.p rfl rfl ?_
                  refine St.gOn (dj := 51) rfl rfl ?_
                  refine St.ixL hx1 rfl rfl rfl (.tail _ (.tail _ (.tail _ (.tail _ (.tail _ (.head _)))))) rfl rfl rfl rfl rfl fun b6 ob6 => ?_
                  refine St.gOn (dj := 51) rfl rfl ?_
                  refine St.p rfl rfl ?_
                  refine St.gOn (dj := 51) rfl rfl ?_
                  refine St.load ob6 1 rfl rfl (.head _) rfl rfl ?_
                  refine St.gOn (dj := 51) rfl rfl ?_
                  refine St.p rfl rfl ?_
                  refine St.gOn (dj := 51) rfl rfl ?_
                  refine St.p rfl rfl ?_
                  refine St.gSplit (dj := 58) _ rfl (fun hb7 => ?_) (fun hb7 => ?_)
                  · replace hj1 := bif_t hb7 hj1
                    refine St.gOn (dj := 58) rfl rfl ?_
                    refine St.p rfl rfl ?_
                    refine St.gOn (dj := 58) rfl rfl ?_
                    refine St.p rfl rfl ?_
                    refine St.gOn (dj := 58) rfl rfl ?_
                    refine St.ixL hx1 rfl rfl rfl (.tail _ (.tail _ (.tail _ (.tail _ (.tail _ (.tail _ (.head _))))))) rfl rfl rfl rfl rfl fun b7 ob7 => ?_
                    refine St.gOn (dj := 58) rfl rfl ?_
                    refine St.p rfl rfl ?_
                    refine St.gOn (dj := 58) rfl rfl ?_
                    refine St.load ob7 2 rfl rfl (.head _) rfl rfl ?_
                    refine St.gOn (dj := 58) rfl rfl ?_
                    refine St.p rfl rfl ?_
                    refine St.gOn (dj := 51) rfl rfl ?_
                    refine St.p rfl rfl ?_
                    refine St.p rfl rfl ?_
                    refine St.doneQ ?_
                    injection hj1 with hj1
                    subst hj1
                    refine St.thenN ?_
                    exact St.hereE () ⟨rfl, rfl, rfl, trivial⟩ (fun _ w => ((.d (.d (.d (.d (.d (.d (.d (.k .z)))))))) : Keep _ _).sat w)
                  · replace hj1 := bif_f hb7 hj1
                    refine St.gOff (dj := 58) rfl rfl rfl rfl ?_
                    refine St.gOff (dj := 58) rfl rfl rfl rfl ?_
                    refine St.gOff (dj := 58) rfl rfl rfl rfl ?_
                    refine St.gOff (dj := 58) rfl rfl rfl rfl ?_
                    refine St.gOff (dj := 58) rfl rfl rfl rfl ?_
                    refine St.gOff (dj := 58) rfl rfl rfl rfl ?_
                    refine St.gOn (dj := 51) rfl rfl ?_
                    refine St.p rfl rfl ?_
                    refine St.p rfl rfl ?_
                    refine St.doneQ ?_
                    injection hj1 with hj1
                    subst hj1
                    refine St.thenN ?_
                    exact St.hereE () ⟨rfl, rfl, rfl, trivial⟩ (fun _ w => ((.d (.d (.d (.d (.d (.d (.k .z))))))) : Keep _ _).sat w)
            · replace hj1 := bif_f hb4 hj1
              refine St.gOff (dj := 27) rfl rfl rfl rfl ?_
              refine St.gOff (dj := 27) rfl rfl rfl rfl ?_
              refine St.gOff (dj := 27) rfl rfl rfl rfl ?_
              refine St.gOff (dj := 27) rfl rfl rfl rfl ?_
              refine St.gOff (dj := 27) rfl rfl rfl rfl ?_
              refine St.gOff (dj := 27) rfl rfl rfl rfl ?_
              refine St.gOff (dj := 27) rfl rfl rfl rfl ?_
              refine St.gOff (dj := 27) rfl rfl rfl rfl ?_
              refine St.gOff (dj := 27) rfl rfl rfl rfl ?_
              refine St.gOff (dj := 27) rfl rfl rfl rfl ?_
              refine St.gOff (dj := 27) rfl rfl rfl rfl ?_
              refine St.gOff (dj := 27) rfl rfl rfl rfl ?_
              refine St.gOn (dj := 24) rfl rfl ?_
              iterate 3 refine St.p rfl rfl ?_
              refine St.gOn (dj := 42) rfl rfl ?_
              refine St.p rfl rfl ?_
              refine St.gOn (dj := 42) rfl rfl ?_
              refine St.p rfl rfl ?_
              refine St.gOn (dj := 42) rfl rfl ?_
              refine St.ixL hx1 rfl rfl rfl (.tail _ (.tail _ (.head _))) rfl rfl rfl rfl rfl fun b8 ob8 => ?_
              refine St.gOn (dj := 42) rfl rfl ?_
              refine St.p rfl rfl ?_
              refine St.gOn (dj := 42) rfl rfl ?_
              refine St.load ob8 2 rfl rfl (.head _) rfl rfl ?_
              refine St.gOn (dj := 42) rfl rfl ?_
              refine St.p rfl rfl ?_
              refine St.gOn (dj := 42) rfl rfl ?_
              iterate 3 refine St.p rfl rfl ?_
              refine St.gSplit (dj := 51) _ rfl (fun hb8 => ?_) (fun hb8 => ?_)
              · replace hj1 := bif_t hb8 hj1
                refine St.gOff (dj := 51) rfl rfl rfl rfl ?_
                refine St.gOff (dj := 51) rfl rfl rfl rfl ?_
                refine St.gOff (dj := 51) rfl rfl rfl rfl ?_
                refine St.gOff (dj := 51) rfl rfl rfl rfl ?_
                refine St.gOff (dj := 51) rfl rfl rfl rfl ?_
                refine St.gOff (dj := 51) rfl rfl rfl rfl ?_
                refine St.gOff (dj := 51) rfl rfl rfl rfl ?_
                refine St.gOff (dj := 58) rfl rfl rfl rfl ?_
                refine St.gOff (dj := 58) rfl rfl rfl rfl ?_
                refine St.gOff (dj := 58) rfl rfl rfl rfl ?_
                refine St.gOff (dj := 58) rfl rfl rfl rfl ?_
                refine St.gOff (dj := 58) rfl rfl rfl rfl ?_
                refine St.gOff (dj := 58) rfl rfl rfl rfl ?_
                refine St.gOff (dj := 51) rfl rfl rfl rfl ?_
                refine St.p rfl rfl ?_
                refine St.doneQ ?_
                injection hj1 with hj1
                subst hj1
                refine St.thenN ?_
                exact St.hereE () ⟨rfl, rfl, rfl, trivial⟩ (fun _ w => ((.d (.d (.d (.k .z)))) : Keep _ _).sat w)
              · replace hj1 := bif_f hb8 hj1
                refine St.gOn (dj := 51) rfl rfl ?_
                refine St.p rfl rfl ?_
                refine St.gOn (dj := 51) rfl rfl ?_
                refine St.p rfl rfl ?_
                refine St.gOn (dj := 51) rfl rfl ?_
                refine St.ixL hx1 rfl rfl rfl (.tail _ (.tail _ (.tail _ (.head _)))) rfl rfl rfl rfl rfl fun b9 ob9 => ?_
                refine St.gOn (dj := 51) rfl rfl ?_
                refine St.p rfl rfl ?_
                refine St.gOn (dj := 51) rfl rfl ?_
                refine St.load ob9 1 rfl rfl (.head _) rfl rfl ?_
                refine St.gOn (dj := 51) rfl rfl ?_
                refine St.p rfl rfl ?_
                refine St.gOn (dj := 51) rfl rfl ?_
                refine St.p rfl rfl ?_
                refine St.gSplit (dj := 58) _ rfl (fun hb9 => ?_) (fun hb9 => ?_)
                · replace hj1 := bif_t hb9 hj1
                  refine St.gOn (dj := 58) rfl rfl ?_
                  refine St.p rfl rfl ?_
                  refine St.gOn (dj := 58) rfl rfl ?_
                  refine St.p rfl rfl ?_
                  refine St.gOn (dj := 58) rfl rfl ?_
                  refine St.ixL hx1 rfl rfl rfl (.tail _ (.tail _ (.tail _ (.tail _ (.head _))))) rfl rfl rfl rfl rfl fun b10 ob10 => ?_
                  refine St.gOn (dj := 58) rfl rfl ?_
                  refine St.p rfl rfl ?_
                  refine St.gOn (dj := 58) rfl rfl ?_
                  refine St.load ob10 2 rfl rfl (.head _) rfl rfl ?_
                  refine St.gOn (dj := 58) rfl rfl ?_
                  refine St.p rfl rfl ?_
                  refine St.gOn (dj := 51) rfl rfl ?_
                  refine St.p rfl rfl ?_
                  refine St.p rfl rfl ?_
                  refine St.doneQ ?_
                  injection hj1 with hj1
                  subst hj1
                  refine St.thenN ?_
                  exact St.hereE () ⟨rfl, rfl, rfl, trivial⟩ (fun _ w => ((.d (.d (.d (.d (.d (.k .z)))))) : Keep _ _).sat w)
                · replace hj1 := bif_f hb9 hj1
                  refine St.gOff (dj := 58) rfl rfl rfl rfl ?_
                  refine St.gOff (dj := 58) rfl rfl rfl rfl ?_
                  refine St.gOff (dj := 58) rfl rfl rfl rfl ?_
                  refine St.gOff (dj := 58) rfl rfl rfl rfl ?_
                  refine St.gOff (dj := 58) rfl rfl rfl rfl ?_
                  refine St.gOff (dj := 58) rfl rfl rfl rfl ?_
                  refine St.gOn (dj := 51) rfl rfl ?_
                  refine St.p rfl rfl ?_
                  refine St.p rfl rfl ?_
                  refine St.doneQ ?_
                  injection hj1 with hj1
                  subst hj1
                  refine St.thenN ?_
                  exact St.hereE () ⟨rfl, rfl, rfl, trivial⟩ (fun _ w => ((.d (.d (.d (.d (.k .z))))) : Keep _ _).sat w)
      · rintro e3
        refine St.cond _ rfl (fun hb10 => ?_) (fun hb10 => ?_)
        · replace h1 := bif_t hb10 h1
          refine St.seq ?_
          refine St.region ?_
          refine St.p rfl rfl ?_
          refine St.done ?_
          refine St.thenN ?_
          refine St.prune (Γ' := [(2, _)]) ⟨rfl, trivial⟩ (.d .z) ?_
          refine St.ret ?_
          repeat (first | refine St.thenR ?_ | refine St.blkR ?_)
          injection h1 with h1
          subst h1
          have ho := hd1 _ rfl
          subst ho
          have h : some _ = some _ := h
          injection h with h
          subst h
          exact St.finR Try.results18 (.tmp rfl .nil) rfl [] ⟨rfl, rfl⟩ (fun _ w => (.z : Keep _ _).sat w)
        · replace h1 := bif_f hb10 h1
          refine St.skip ?_
          refine St.blkN ?_
          refine St.thenN ?_
          refine St.prune (Γ' := [(0, _), (3, _)]) ⟨rfl, rfl, trivial⟩ (.k .z) ?_
          refine St.region ?_
          iterate 3 refine St.p rfl rfl ?_
          refine St.done ?_
          injection h1 with h1
          subst h1
          refine St.thenN ?_
          exact St.again _ () hm1 trivial ⟨rfl, rfl, trivial⟩ (fun _ w => ((.k .z) : Keep _ _).sat w)
    · replace h1 := bif_f hb1 h1
      refine St.exit ?_
      repeat (first | refine St.thenX ?_ | refine St.blkMiss rfl ?_)
      refine St.blkHit ?_
      injection h1 with h1
      subst h1
      have ho := hd1 _ rfl
      subst ho
      refine St.thenN ?_
      exact St.hereI () () rfl trivial (fun _ w => ((.d .z) : Keep _ _).sat w)
  · rintro o2 e2 ho
    subst ho
    have h : _ = some _ := h
    refine St.seq ?_
    refine St.region ?_
    refine St.p rfl rfl ?_
    refine St.done ?_
    refine St.thenN ?_
    refine St.ret ?_
    repeat (first | refine St.thenR ?_ | refine St.blkR ?_)
    injection h with h
    subst h
    exact St.finR Try.results18 (.tmp rfl .nil) rfl [] ⟨rfl, rfl⟩ (fun _ w => (.z : Keep _ _).sat w)

theorem ent36 : Ent Try.prog 36 := ⟨_, Try.func36, by kernel_rfl, by kernel_rfl⟩

noncomputable def m_ref19_At (l_p0 : (List T_Known)) (slot : Int) : Option (T_Known × Bool) :=
  bnd (loopM (τ := (T_Known × Bool) ⊕ Unit) (fun (s1 : Int) => bif decide (s1 < (l_p0.length : Int)) then (bnd (elt l_p0 s1) fun x1 => bif (x1.Slot == slot) then (some (.done (.inl (x1, true)))) else (some (.next (IntKind.wrap .i64 (s1 + 1))))) else (some (.done (.inr ())))) 0) fun o1 => retOr o1 fun o2 => some ((⟨0, false, ⟨#[]⟩, 0⟩ : T_Known), false)

theorem c_ref19_At {l_p0 : (List T_Known)} {slot : Int} {A1 : Option Addr} {c1 : Nat} {r : (T_Known × Bool)} (h : m_ref19_At l_p0 slot = some r) :
    Fun Try.prog 36 [.slice A1 l_p0.length c1, .int .i64 slot] [.ro (SlL e_Known A1 c1 l_p0)] (Val (.tuple #[.agg #[.int .i64 r.1.Slot, .bool r.1.Good, .string r.1.Serial, .int .u32 r.1.Sum], .bool r.2])) := by
  unfold m_ref19_At at h
  refine Fun.intro Try.func36 rfl rfl rfl fun w R => ?_
  refine St.seq ?_
  refine St.region ?_
  refine St.alloc rfl rfl fun g1 => ?_
  refine St.p rfl rfl ?_
  refine St.done ?_
  refine St.thenN ?_
  refine St.prune (Γ' := [(0, _), (1, _), (4, _)]) ⟨rfl, rfl, rfl, trivial⟩ (.k (.k .z)) ?_
  refine St.seq ?_
  refine St.seq ?_
  refine St.region ?_
  refine St.p rfl rfl ?_
  refine St.done ?_
  refine St.thenN ?_
  obtain ⟨o1, hl1, h⟩ := bnd_e h
  refine St.cutI (fun (o2 : Unit) (e2 : Unit) => [(4, .pointer (some ⟨g1, 0, none⟩))]) (fun o2 e2 => .res (Box g1 45 [.int .i64 0, .bool false, .string (⟨#[]⟩), .int .u32 0]) :: R) (fun o2 => o1 = .inr o2) ?_ ?_
  · refine St.block ?_
    refine St.loop hl1 (fun (s1 : Int) (e1 : Unit) => [(0, .slice A1 l_p0.length c1), (1, .int .i64 slot), (4, .pointer (some ⟨g1, 0, none⟩)), (6, .int .i64 s1)]) (fun s1 e1 => .res (Box g1 45 [.int .i64 0, .bool false, .string (⟨#[]⟩), .int .u32 0]) :: .ro (SlL e_Known A1 c1 l_p0) :: R) (fun _ _ => True) () trivial ⟨rfl, rfl, rfl, rfl, trivial⟩ (fun _ w => ((.k (.k .z)) : Keep _ _).sat w) ?_
    rintro s1 e1 - hit1
    obtain ⟨st1, hm1, hd1⟩ := iter_e hit1
    have h1 := hm1
    refine St.seq ?_
    refine St.seq ?_
    refine St.region ?_
    iterate 4 refine St.p rfl rfl ?_
    refine St.done ?_
    refine St.thenN ?_
    refine St.prune (Γ' := [(0, _), (1, _), (4, _), (6, _), (10, _)]) ⟨rfl, rfl, rfl, rfl, rfl, trivial⟩ (.k (.k .z)) ?_
    refine St.cond _ rfl (fun hb1 => ?_) (fun hb1 => ?_)
    · replace h1 := bif_t hb1 h1
      refine St.skip ?_
      refine St.thenN ?_
      refine St.prune (Γ' := [(0, _), (1, _), (4, _), (6, _)]) ⟨rfl, rfl, rfl, rfl, trivial⟩ (.k (.k .z)) ?_
      refine St.seq ?_
      refine St.block ?_
      refine St.seq ?_
      refine St.region ?_
      refine St.p rfl rfl ?_
      refine St.p rfl rfl ?_
      obtain ⟨x1, hx1, h1⟩ := bnd_e h1
      refine St.ixL hx1 rfl rfl rfl (.tail _ (.head _)) rfl rfl rfl rfl rfl fun b1 ob1 => ?_
      refine St.p rfl rfl ?_
      refine St.load ob1 0 rfl rfl (.head _) rfl rfl ?_
      refine St.p rfl rfl ?_
      refine St.p rfl rfl ?_
      refine St.done ?_
      refine St.thenN ?_
      refine St.prune (Γ' := [(0, _), (1, _), (4, _), (6, _), (19, _)]) ⟨rfl, rfl, rfl, rfl, rfl, trivial⟩ (.d (.k (.k .z))) ?_
      refine St.cond _ rfl (fun hb2 => ?_) (fun hb2 => ?_)
      · replace h1 := bif_t hb2 h1
        refine St.seq ?_
        refine St.region ?_
        refine St.p rfl rfl ?_
        refine St.p rfl rfl ?_
        refine St.ixL hx1 rfl rfl rfl (.tail _ (.head _)) rfl rfl rfl rfl rfl fun b2 ob2 => ?_
        refine St.load ob2 0 rfl rfl (.head _) rfl rfl ?_
        refine St.store 0 rfl rfl rfl rfl rfl rfl (.s .z) rfl ?_
        refine St.p rfl rfl ?_
        refine St.done ?_
        refine St.thenN ?_
        refine St.prune (Γ' := [(4, _), (5, _)]) ⟨rfl, rfl, trivial⟩ (.k (.d (.d .z))) ?_
        refine St.ret ?_
        repeat (first | refine St.thenR ?_ | refine St.blkR ?_)
        injection h1 with h1
        subst h1
        have ho := hd1 _ rfl
        subst ho
        have h : some _ = some _ := h
        injection h with h
        subst h
        exact St.finR Try.results36 (.cell rfl (.head _) rfl (.tmp rfl .nil)) rfl [] ⟨rfl, rfl⟩ (fun _ w => ((.d .z) : Keep _ _).sat w)
      · replace h1 := bif_f hb2 h1
        refine St.skip ?_
        refine St.blkN ?_
        refine St.thenN ?_
        refine St.prune (Γ' := [(0, _), (1, _), (4, _), (6, _)]) ⟨rfl, rfl, rfl, rfl, trivial⟩ (.k (.k .z)) ?_
        refine St.region ?_
        iterate 3 refine St.p rfl rfl ?_
        refine St.done ?_
        injection h1 with h1
        subst h1
        refine St.thenN ?_
        exact St.again _ () hm1 trivial ⟨rfl, rfl, rfl, rfl, trivial⟩ (fun _ w => ((.k (.k .z)) : Keep _ _).sat w)
    · replace h1 := bif_f hb1 h1
      refine St.exit ?_
      repeat (first | refine St.thenX ?_ | refine St.blkMiss rfl ?_)
      refine St.blkHit ?_
      injection h1 with h1
      subst h1
      have ho := hd1 _ rfl
      subst ho
      refine St.thenN ?_
      exact St.hereI () () rfl ⟨rfl, trivial⟩ (fun _ w => ((.k (.d .z)) : Keep _ _).sat w)
  · rintro o2 e2 ho
    subst ho
    have h : _ = some _ := h
    refine St.seq ?_
    refine St.region ?_
    refine St.p rfl rfl ?_
    refine St.store 0 rfl rfl rfl rfl rfl rfl .z rfl ?_
    refine St.p rfl rfl ?_
    refine St.done ?_
    refine St.thenN ?_
    refine St.prune (Γ' := [(4, _), (5, _)]) ⟨rfl, rfl, trivial⟩ (.k .z) ?_
    refine St.ret ?_
    repeat (first | refine St.thenR ?_ | refine St.blkR ?_)
    injection h with h
    subst h
    exact St.finR Try.results36 (.cell rfl (.head _) rfl (.tmp rfl .nil)) rfl [] ⟨rfl, rfl⟩ (fun _ w => ((.d .z) : Keep _ _).sat w)

theorem ent50 : Ent Try.prog 50 := ⟨_, Try.func50, by kernel_rfl, by kernel_rfl⟩

noncomputable def m_ref19_identified (l_p0 : (List T_Known)) (k_p1 : T_Known) : Option Bool :=
  bnd (loopM (τ := Int) (fun (s1 : Int × Int) => bif decide (s1.2 < (l_p0.length : Int)) then (bnd (elt l_p0 s1.2) fun x1 => bif (x1.Serial.toList == k_p1.Serial.toList) then (some (.next (IntKind.wrap .i64 (s1.1 + 1), IntKind.wrap .i64 (s1.2 + 1)))) else (some (.next (s1.1, IntKind.wrap .i64 (s1.2 + 1))))) else (some (.done s1.1))) (0, 0)) fun o1 => bnd ((bif !(k_p1.Serial.toList == ((⟨#[]⟩) : ByteArray).toList) then (some (o1 == 1)) else (some false) : Option Bool)) fun o2 => some o2

theorem c_ref19_identified {l_p0 : (List T_Known)} {k_p1 : T_Known} {A1 : Option Addr} {c1 : Nat} {r : Bool} (h : m_ref19_identified l_p0 k_p1 = some r) :
    Fun Try.prog 50 [.slice A1 l_p0.length c1, .agg #[.int .i64 k_p1.Slot, .bool k_p1.Good, .string k_p1.Serial, .int .u32 k_p1.Sum]] [.ro (SlL e_Known A1 c1 l_p0)] (Val (.bool r)) := by
  unfold m_ref19_identified at h
  refine Fun.intro Try.func50 rfl rfl rfl fun w R => ?_
  refine St.seq ?_
  refine St.region ?_
  refine St.box rfl rfl fun g1 => ?_
  refine St.p rfl rfl ?_
  refine St.done ?_
  refine St.thenN ?_
  refine St.prune (Γ' := [(0, _), (3, _)]) ⟨rfl, rfl, trivial⟩ (.k (.k .z)) ?_
  refine St.seq ?_
  refine St.region ?_
  refine St.p rfl rfl ?_
  refine St.done ?_
  refine St.thenN ?_
  refine St.seq ?_
  refine St.seq ?_
  refine St.region ?_
  refine St.p rfl rfl ?_
  refine St.done ?_
  refine St.thenN ?_
  obtain ⟨o1, hl1, h⟩ := bnd_e h
  refine St.cutE (fun (e2 : Unit) => [(3, .pointer (some ⟨g1, 0, none⟩)), (5, .int .i64 o1)]) (fun e2 => .res (Box g1 45 [.int .i64 k_p1.Slot, .bool k_p1.Good, .string k_p1.Serial, .int .u32 k_p1.Sum]) :: R) ?_ ?_
  · refine St.block ?_
    refine St.loop hl1 (fun (s1 : Int × Int) (e1 : Unit) => [(0, .slice A1 l_p0.length c1), (3, .pointer (some ⟨g1, 0, none⟩)), (5, .int .i64 s1.1), (6, .int .i64 s1.2)]) (fun s1 e1 => .res (Box g1 45 [.int .i64 k_p1.Slot, .bool k_p1.Good, .string k_p1.Serial, .int .u32 k_p1.Sum]) :: .ro (SlL e_Known A1 c1 l_p0) :: R) (fun _ _ => True) () trivial ⟨rfl, rfl, rfl, rfl, trivial⟩ (fun _ w => ((.k (.k .z)) : Keep _ _).sat w) ?_
    rintro s1 e1 - hit1
    obtain ⟨st1, hm1, hd1⟩ := iter_e hit1
    have h1 := hm1
    refine St.seq ?_
    refine St.seq ?_
    refine St.region ?_
    iterate 4 refine St.p rfl rfl ?_
    refine St.done ?_
    refine St.thenN ?_
    refine St.prune (Γ' := [(0, _), (3, _), (5, _), (6, _), (10, _)]) ⟨rfl, rfl, rfl, rfl, rfl, trivial⟩ (.k (.k .z)) ?_
    refine St.cond _ rfl (fun hb1 => ?_) (fun hb1 => ?_)
    · replace h1 := bif_t hb1 h1
      refine St.skip ?_
      refine St.thenN ?_
      refine St.prune (Γ' := [(0, _), (3, _), (5, _), (6, _)]) ⟨rfl, rfl, rfl, rfl, trivial⟩ (.k (.k .z)) ?_
      refine St.seq ?_
      refine St.block ?_
      refine St.seq ?_
      refine St.regionF mixed (by kernel_rfl) ?_
      refine St.p rfl rfl ?_
      refine St.p rfl rfl ?_
      obtain ⟨x1, hx1, h1⟩ := bnd_e h1
      refine St.ixL hx1 rfl rfl rfl (.tail _ (.head _)) rfl rfl rfl rfl rfl fun b1 ob1 => ?_
      refine St.p rfl rfl ?_
      refine St.load ob1 2 rfl rfl (.head _) rfl rfl ?_
      refine St.p rfl rfl ?_
      refine St.loadB 2 rfl rfl (.tail _ (.head _)) rfl rfl ?_
      refine St.p rfl rfl ?_
      refine St.doneQ ?_
      refine St.thenN ?_
      refine St.prune (Γ' := [(0, _), (3, _), (5, _), (6, _), (20, _)]) ⟨rfl, rfl, rfl, rfl, rfl, trivial⟩ (.d (.k (.k .z))) ?_
      refine St.cond _ rfl (fun hb2 => ?_) (fun hb2 => ?_)
      · replace h1 := bif_t hb2 h1
        refine St.region ?_
        iterate 3 refine St.p rfl rfl ?_
        refine St.done ?_
        refine St.blkN ?_
        refine St.thenN ?_
        refine St.prune (Γ' := [(0, _), (3, _), (5, _), (6, _)]) ⟨rfl, rfl, rfl, rfl, trivial⟩ (.k (.k .z)) ?_
        refine St.region ?_
        iterate 3 refine St.p rfl rfl ?_
        refine St.done ?_
        injection h1 with h1
        subst h1
        refine St.thenN ?_
        exact St.again _ () hm1 trivial ⟨rfl, rfl, rfl, rfl, trivial⟩ (fun _ w => ((.k (.k .z)) : Keep _ _).sat w)
      · replace h1 := bif_f hb2 h1
        refine St.skip ?_
        refine St.blkN ?_
        refine St.thenN ?_
        refine St.prune (Γ' := [(0, _), (3, _), (5, _), (6, _)]) ⟨rfl, rfl, rfl, rfl, trivial⟩ (.k (.k .z)) ?_
        refine St.region ?_
        iterate 3 refine St.p rfl rfl ?_
        refine St.done ?_
        injection h1 with h1
        subst h1
        refine St.thenN ?_
        exact St.again _ () hm1 trivial ⟨rfl, rfl, rfl, rfl, trivial⟩ (fun _ w => ((.k (.k .z)) : Keep _ _).sat w)
    · replace h1 := bif_f hb1 h1
      refine St.exit ?_
      repeat (first | refine St.thenX ?_ | refine St.blkMiss rfl ?_)
      refine St.blkHit ?_
      injection h1 with h1
      subst h1
      have ho := hd1 _ rfl
      subst ho
      refine St.thenN ?_
      exact St.hereE () ⟨rfl, rfl, trivial⟩ (fun _ w => ((.k (.d .z)) : Keep _ _).sat w)
  · rintro e2
    refine St.seq ?_
    obtain ⟨o2, hj1, h⟩ := bnd_e h
    refine St.cutE (fun (e3 : Unit) => [(4, .bool o2)]) (fun e3 => R) ?_ ?_
    · refine St.region ?_
      refine St.p rfl rfl ?_
      refine St.loadB 2 rfl rfl (.head _) rfl rfl ?_
      refine St.p rfl rfl ?_
      refine St.p rfl rfl ?_
      refine St.gSplit (dj := 26) _ rfl (fun hb3 => ?_) (fun hb3 => ?_)
      · replace hj1 := bif_t hb3 hj1
        refine St.gOn (dj := 26) rfl rfl ?_
        refine St.p rfl rfl ?_
        refine St.gOn (dj := 26) rfl rfl ?_
        iterate 3 refine St.p rfl rfl ?_
        refine St.done ?_
        injection hj1 with hj1
        subst hj1
        refine St.thenN ?_
        exact St.hereE () ⟨rfl, trivial⟩ (fun _ w => ((.d .z) : Keep _ _).sat w)
      · replace hj1 := bif_f hb3 hj1
        refine St.gOff (dj := 26) rfl rfl rfl rfl ?_
        refine St.gOff (dj := 26) rfl rfl rfl rfl ?_
        refine St.p rfl rfl ?_
        refine St.p rfl rfl ?_
        refine St.done ?_
        injection hj1 with hj1
        subst hj1
        refine St.thenN ?_
        exact St.hereE () ⟨rfl, trivial⟩ (fun _ w => ((.d .z) : Keep _ _).sat w)
    · rintro e3
      refine St.ret ?_
      repeat (first | refine St.thenR ?_ | refine St.blkR ?_)
      injection h with h
      subst h
      exact St.finR Try.results50 (.tmp rfl .nil) rfl [] ⟨rfl, rfl⟩ (fun _ w => (.z : Keep _ _).sat w)

theorem ent38 : Ent Try.prog 38 := ⟨_, Try.func38, by kernel_rfl, by kernel_rfl⟩

noncomputable def m_ref19_Origin (a_p0 : (List T_Known)) (b_p1 : (List T_Known)) (k_p2 : T_Known) : Option Int :=
  bnd (m_ref19_identified b_p1 k_p2) fun r1 => bif !r1 then (some (-1)) else (bnd (loopM (τ := Int ⊕ Unit) (fun (s1 : Int) => bif decide (s1 < (a_p0.length : Int)) then (bnd ((bnd (elt a_p0 s1) fun x1 => bif (x1.Serial.toList == k_p2.Serial.toList) then (bnd (m_ref19_identified a_p0 x1) fun r2 => some r2) else (some false) : Option Bool)) fun o3 => bif o3 then (bnd (elt a_p0 s1) fun x2 => some (.done (.inl x2.Slot))) else (some (.next (IntKind.wrap .i64 (s1 + 1))))) else (some (.done (.inr ())))) 0) fun o1 => retOr o1 fun o2 => some (-1))

theorem c_ref19_Origin {a_p0 : (List T_Known)} {b_p1 : (List T_Known)} {k_p2 : T_Known} {A1 : Option Addr} {c1 : Nat} {A2 : Option Addr} {c2 : Nat} {r : Int} (h : m_ref19_Origin a_p0 b_p1 k_p2 = some r) :
    Fun Try.prog 38 [.slice A1 a_p0.length c1, .slice A2 b_p1.length c2, .agg #[.int .i64 k_p2.Slot, .bool k_p2.Good, .string k_p2.Serial, .int .u32 k_p2.Sum]] [.ro (SlL e_Known A1 c1 a_p0), .ro (SlL e_Known A2 c2 b_p1)] (Val (.int .i64 r)) := by
  unfold m_ref19_Origin at h
  refine Fun.intro Try.func38 rfl rfl rfl fun w R => ?_
  refine St.seq ?_
  refine St.region ?_
  refine St.box rfl rfl fun g1 => ?_
  refine St.p rfl rfl ?_
  refine St.done ?_
  refine St.thenN ?_
  refine St.prune (Γ' := [(0, _), (1, _), (5, _)]) ⟨rfl, rfl, rfl, trivial⟩ (.k (.k (.k .z))) ?_
  refine St.seq ?_
  refine St.seq ?_
  refine St.region ?_
  refine St.p rfl rfl ?_
  refine St.loadB 0 rfl rfl (.head _) rfl rfl ?_
  obtain ⟨r1, hr1, h⟩ := bnd_e h
  refine St.callV (c_ref19_identified hr1) ent50 rfl rfl rfl rfl ⟨(.tail _ (.tail _ (.head _))), trivial⟩ ?_
  refine St.p rfl rfl ?_
  refine St.done ?_
  refine St.thenN ?_
  refine St.prune (Γ' := [(0, _), (5, _), (11, _)]) ⟨rfl, rfl, rfl, trivial⟩ (.k (.k (.d .z))) ?_
  refine St.cond _ rfl (fun hb1 => ?_) (fun hb1 => ?_)
  · replace h := bif_t hb1 h
    refine St.seq ?_
    refine St.region ?_
    refine St.p rfl rfl ?_
    refine St.done ?_
    refine St.thenN ?_
    refine St.prune (Γ' := [(6, _)]) ⟨rfl, trivial⟩ (.d (.d .z)) ?_
    refine St.ret ?_
    repeat (first | refine St.thenR ?_ | refine St.blkR ?_)
    injection h with h
    subst h
    exact St.finR Try.results38 (.tmp rfl .nil) rfl [] ⟨rfl, rfl⟩ (fun _ w => (.z : Keep _ _).sat w)
  · replace h := bif_f hb1 h
    refine St.skip ?_
    refine St.thenN ?_
    refine St.prune (Γ' := [(0, _), (5, _)]) ⟨rfl, rfl, trivial⟩ (.k (.k .z)) ?_
    refine St.seq ?_
    refine St.seq ?_
    refine St.region ?_
    refine St.p rfl rfl ?_
    refine St.done ?_
    refine St.thenN ?_
    obtain ⟨o1, hl1, h⟩ := bnd_e h
    refine St.cutI (fun (o2 : Unit) (e2 : Unit) => []) (fun o2 e2 => R) (fun o2 => o1 = .inr o2) ?_ ?_
    · refine St.block ?_
      refine St.loop hl1 (fun (s1 : Int) (e1 : Unit) => [(0, .slice A1 a_p0.length c1), (5, .pointer (some ⟨g1, 0, none⟩)), (7, .int .i64 s1)]) (fun s1 e1 => .res (Box g1 45 [.int .i64 k_p2.Slot, .bool k_p2.Good, .string k_p2.Serial, .int .u32 k_p2.Sum]) :: .ro (SlL e_Known A1 c1 a_p0) :: R) (fun _ _ => True) () trivial ⟨rfl, rfl, rfl, trivial⟩ (fun _ w => ((.k (.k .z)) : Keep _ _).sat w) ?_
      rintro s1 e1 - hit1
      obtain ⟨st1, hm1, hd1⟩ := iter_e hit1
      have h1 := hm1
      refine St.seq ?_
      refine St.seq ?_
      refine St.region ?_
      iterate 4 refine St.p rfl rfl ?_
      refine St.done ?_
      refine St.thenN ?_
      refine St.prune (Γ' := [(0, _), (5, _), (7, _), (15, _)]) ⟨rfl, rfl, rfl, rfl, trivial⟩ (.k (.k .z)) ?_
      refine St.cond _ rfl (fun hb2 => ?_) (fun hb2 => ?_)
      · replace h1 := bif_t hb2 h1
        refine St.skip ?_
        refine St.thenN ?_
        refine St.prune (Γ' := [(0, _), (5, _), (7, _)]) ⟨rfl, rfl, rfl, trivial⟩ (.k (.k .z)) ?_
        refine St.seq ?_
        refine St.block ?_
        refine St.seq ?_
        obtain ⟨o3, hj1, h1⟩ := bnd_e h1
        refine St.cutE (fun (e3 : Unit) => [(0, .slice A1 a_p0.length c1), (5, .pointer (some ⟨g1, 0, none⟩)), (7, .int .i64 s1), (33, .bool o3)]) (fun e3 => .res (Box g1 45 [.int .i64 k_p2.Slot, .bool k_p2.Good, .string k_p2.Serial, .int .u32 k_p2.Sum]) :: .ro (SlL e_Known A1 c1 a_p0) :: R) ?_ ?_
        · refine St.regionF mixed (by kernel_rfl) ?_
          refine St.p rfl rfl ?_
          refine St.p rfl rfl ?_
          obtain ⟨x1, hx1, hj1⟩ := bnd_e hj1
          refine St.ixL hx1 rfl rfl rfl (.tail _ (.head _)) rfl rfl rfl rfl rfl fun b1 ob1 => ?_
          refine St.p rfl rfl ?_
          refine St.load ob1 2 rfl rfl (.head _) rfl rfl ?_
          refine St.p rfl rfl ?_
          refine St.loadB 2 rfl rfl (.tail _ (.head _)) rfl rfl ?_
          refine St.p rfl rfl ?_
          refine St.p rfl rfl ?_
          refine St.gSplit (dj := 26) _ rfl (fun hb3 => ?_) (fun hb3 => ?_)
          · replace hj1 := bif_t hb3 hj1
            refine St.gOn (dj := 26) rfl rfl ?_
            refine St.p rfl rfl ?_
            refine St.gOn (dj := 26) rfl rfl ?_
            refine St.p rfl rfl ?_
            refine St.gOn (dj := 26) rfl rfl ?_
            refine St.p rfl rfl ?_
            refine St.gOn (dj := 26) rfl rfl ?_
            refine St.ixL hx1 rfl rfl rfl (.tail _ (.tail _ (.head _))) rfl rfl rfl rfl rfl fun b2 ob2 => ?_
            refine St.gOn (dj := 26) rfl rfl ?_
            refine St.load ob2 0 rfl rfl (.head _) rfl rfl ?_
            refine St.gOn (dj := 26) rfl rfl ?_
            obtain ⟨r2, hr2, hj1⟩ := bnd_e hj1
            refine St.callV (c_ref19_identified hr2) ent50 rfl rfl rfl rfl ⟨(.tail _ (.tail _ (.tail _ (.head _)))), trivial⟩ ?_
            refine St.p rfl rfl ?_
            refine St.doneQ ?_
            injection hj1 with hj1
            subst hj1
            refine St.thenN ?_
            exact St.hereE () ⟨rfl, rfl, rfl, rfl, trivial⟩ (fun _ w => ((.d (.d (.k (.k .z)))) : Keep _ _).sat w)
          · replace hj1 := bif_f hb3 hj1
            refine St.gOff (dj := 26) rfl rfl rfl rfl ?_
            refine St.gOff (dj := 26) rfl rfl rfl rfl ?_
            refine St.gOff (dj := 26) rfl rfl rfl rfl ?_
            refine St.gOff (dj := 26) rfl rfl rfl rfl ?_
            refine St.gOff (dj := 26) rfl rfl rfl rfl ?_
            refine St.gOff (dj := 26) rfl rfl rfl rfl ?_
            refine St.p rfl rfl ?_
            refine St.doneQ ?_
            injection hj1 with hj1
            subst hj1
            refine St.thenN ?_
            exact St.hereE () ⟨rfl, rfl, rfl, rfl, trivial⟩ (fun _ w => ((.d (.k (.k .z))) : Keep _ _).sat w)
        · rintro e3
          refine St.cond _ rfl (fun hb4 => ?_) (fun hb4 => ?_)
          · replace h1 := bif_t hb4 h1
            refine St.seq ?_
            refine St.region ?_
            refine St.p rfl rfl ?_
            refine St.p rfl rfl ?_
            obtain ⟨x2, hx2, h1⟩ := bnd_e h1
            refine St.ixL hx2 rfl rfl rfl (.tail _ (.head _)) rfl rfl rfl rfl rfl fun b3 ob3 => ?_
            refine St.p rfl rfl ?_
            refine St.load ob3 0 rfl rfl (.head _) rfl rfl ?_
            refine St.p rfl rfl ?_
            refine St.done ?_
            refine St.thenN ?_
            refine St.prune (Γ' := [(6, _)]) ⟨rfl, trivial⟩ (.d (.d (.d .z))) ?_
            refine St.ret ?_
            repeat (first | refine St.thenR ?_ | refine St.blkR ?_)
            injection h1 with h1
            subst h1
            have ho := hd1 _ rfl
            subst ho
            have h : some _ = some _ := h
            injection h with h
            subst h
            exact St.finR Try.results38 (.tmp rfl .nil) rfl [] ⟨rfl, rfl⟩ (fun _ w => (.z : Keep _ _).sat w)
          · replace h1 := bif_f hb4 h1
            refine St.skip ?_
            refine St.blkN ?_
            refine St.thenN ?_
            refine St.prune (Γ' := [(0, _), (5, _), (7, _)]) ⟨rfl, rfl, rfl, trivial⟩ (.k (.k .z)) ?_
            refine St.region ?_
            iterate 3 refine St.p rfl rfl ?_
            refine St.done ?_
            injection h1 with h1
            subst h1
            refine St.thenN ?_
            exact St.again _ () hm1 trivial ⟨rfl, rfl, rfl, trivial⟩ (fun _ w => ((.k (.k .z)) : Keep _ _).sat w)
      · replace h1 := bif_f hb2 h1
        refine St.exit ?_
        repeat (first | refine St.thenX ?_ | refine St.blkMiss rfl ?_)
        refine St.blkHit ?_
        injection h1 with h1
        subst h1
        have ho := hd1 _ rfl
        subst ho
        refine St.thenN ?_
        exact St.hereI () () rfl trivial (fun _ w => ((.d (.d .z)) : Keep _ _).sat w)
    · rintro o2 e2 ho
      subst ho
      have h : _ = some _ := h
      refine St.seq ?_
      refine St.region ?_
      refine St.p rfl rfl ?_
      refine St.done ?_
      refine St.thenN ?_
      refine St.ret ?_
      repeat (first | refine St.thenR ?_ | refine St.blkR ?_)
      injection h with h
      subst h
      exact St.finR Try.results38 (.tmp rfl .nil) rfl [] ⟨rfl, rfl⟩ (fun _ w => (.z : Keep _ _).sat w)

theorem ent37 : Ent Try.prog 37 := ⟨_, Try.func37, by kernel_rfl, by kernel_rfl⟩

noncomputable def m_ref19_found (a_p0 : (List T_Known)) (b_p1 : (List T_Known)) (k_p2 : T_Known) : Option Bool :=
  bnd (loopM (τ := Bool ⊕ Unit) (fun (s1 : Int) => bif decide (s1 < (b_p1.length : Int)) then (bnd (elt b_p1 s1) fun x1 => bnd (m_ref19_Origin a_p0 b_p1 x1) fun r1 => bif (r1 == k_p2.Slot) then (some (.done (.inl true))) else (some (.next (IntKind.wrap .i64 (s1 + 1))))) else (some (.done (.inr ())))) 0) fun o1 => retOr o1 fun o2 => some false

theorem c_ref19_found {a_p0 : (List T_Known)} {b_p1 : (List T_Known)} {k_p2 : T_Known} {A1 : Option Addr} {c1 : Nat} {A2 : Option Addr} {c2 : Nat} {r : Bool} (h : m_ref19_found a_p0 b_p1 k_p2 = some r) :
    Fun Try.prog 37 [.slice A1 a_p0.length c1, .slice A2 b_p1.length c2, .agg #[.int .i64 k_p2.Slot, .bool k_p2.Good, .string k_p2.Serial, .int .u32 k_p2.Sum]] [.ro (SlL e_Known A1 c1 a_p0), .ro (SlL e_Known A2 c2 b_p1)] (Val (.bool r)) := by
  unfold m_ref19_found at h
  refine Fun.intro Try.func37 rfl rfl rfl fun w R => ?_
  refine St.seq ?_
  refine St.region ?_
  refine St.box rfl rfl fun g1 => ?_
  refine St.p rfl rfl ?_
  refine St.done ?_
  refine St.thenN ?_
  refine St.prune (Γ' := [(0, _), (1, _), (5, _)]) ⟨rfl, rfl, rfl, trivial⟩ (.k (.k (.k .z))) ?_
  refine St.seq ?_
  refine St.seq ?_
  refine St.region ?_
  refine St.p rfl rfl ?_
  refine St.done ?_
  refine St.thenN ?_
  obtain ⟨o1, hl1, h⟩ := bnd_e h
  refine St.cutI (fun (o2 : Unit) (e2 : Unit) => []) (fun o2 e2 => R) (fun o2 => o1 = .inr o2) ?_ ?_
  · refine St.block ?_
    refine St.loop hl1 (fun (s1 : Int) (e1 : Unit) => [(0, .slice A1 a_p0.length c1), (1, .slice A2 b_p1.length c2), (5, .pointer (some ⟨g1, 0, none⟩)), (7, .int .i64 s1)]) (fun s1 e1 => .res (Box g1 45 [.int .i64 k_p2.Slot, .bool k_p2.Good, .string k_p2.Serial, .int .u32 k_p2.Sum]) :: .ro (SlL e_Known A1 c1 a_p0) :: .ro (SlL e_Known A2 c2 b_p1) :: R) (fun _ _ => True) () trivial ⟨rfl, rfl, rfl, rfl, trivial⟩ (fun _ w => ((.k (.k (.k .z))) : Keep _ _).sat w) ?_
    rintro s1 e1 - hit1
    obtain ⟨st1, hm1, hd1⟩ := iter_e hit1
    have h1 := hm1
    refine St.seq ?_
    refine St.seq ?_
    refine St.region ?_
    iterate 4 refine St.p rfl rfl ?_
    refine St.done ?_
    refine St.thenN ?_
    refine St.prune (Γ' := [(0, _), (1, _), (5, _), (7, _), (11, _)]) ⟨rfl, rfl, rfl, rfl, rfl, trivial⟩ (.k (.k (.k .z))) ?_
    refine St.cond _ rfl (fun hb1 => ?_) (fun hb1 => ?_)
    · replace h1 := bif_t hb1 h1
      refine St.skip ?_
      refine St.thenN ?_
      refine St.prune (Γ' := [(0, _), (1, _), (5, _), (7, _)]) ⟨rfl, rfl, rfl, rfl, trivial⟩ (.k (.k (.k .z))) ?_
      refine St.seq ?_
      refine St.block ?_
      refine St.seq ?_
      refine St.regionF mixed (by kernel_rfl) ?_
      iterate 4 refine St.p rfl rfl ?_
      obtain ⟨x1, hx1, h1⟩ := bnd_e h1
      refine St.ixL hx1 rfl rfl rfl (.tail _ (.tail _ (.head _))) rfl rfl rfl rfl rfl fun b1 ob1 => ?_
      refine St.load ob1 0 rfl rfl (.head _) rfl rfl ?_
      obtain ⟨r1, hr1, h1⟩ := bnd_e h1
      refine St.callV (c_ref19_Origin hr1) ent38 rfl rfl rfl rfl ⟨(.tail _ (.tail _ (.head _))), (.tail _ (.tail _ (.tail _ (.head _)))), trivial⟩ ?_
      refine St.p rfl rfl ?_
      refine St.loadB 0 rfl rfl (.tail _ (.head _)) rfl rfl ?_
      refine St.p rfl rfl ?_
      refine St.doneQ ?_
      refine St.thenN ?_
      refine St.prune (Γ' := [(0, _), (1, _), (5, _), (7, _), (23, _)]) ⟨rfl, rfl, rfl, rfl, rfl, trivial⟩ (.d (.k (.k (.k .z)))) ?_
      refine St.cond _ rfl (fun hb2 => ?_) (fun hb2 => ?_)
      · replace h1 := bif_t hb2 h1
        refine St.seq ?_
        refine St.region ?_
        refine St.p rfl rfl ?_
        refine St.done ?_
        refine St.thenN ?_
        refine St.prune (Γ' := [(6, _)]) ⟨rfl, trivial⟩ (.d (.d (.d .z))) ?_
        refine St.ret ?_
        repeat (first | refine St.thenR ?_ | refine St.blkR ?_)
        injection h1 with h1
        subst h1
        have ho := hd1 _ rfl
        subst ho
        have h : some _ = some _ := h
        injection h with h
        subst h
        exact St.finR Try.results37 (.tmp rfl .nil) rfl [] ⟨rfl, rfl⟩ (fun _ w => (.z : Keep _ _).sat w)
      · replace h1 := bif_f hb2 h1
        refine St.skip ?_
        refine St.blkN ?_
        refine St.thenN ?_
        refine St.prune (Γ' := [(0, _), (1, _), (5, _), (7, _)]) ⟨rfl, rfl, rfl, rfl, trivial⟩ (.k (.k (.k .z))) ?_
        refine St.region ?_
        iterate 3 refine St.p rfl rfl ?_
        refine St.done ?_
        injection h1 with h1
        subst h1
        refine St.thenN ?_
        exact St.again _ () hm1 trivial ⟨rfl, rfl, rfl, rfl, trivial⟩ (fun _ w => ((.k (.k (.k .z))) : Keep _ _).sat w)
    · replace h1 := bif_f hb1 h1
      refine St.exit ?_
      repeat (first | refine St.thenX ?_ | refine St.blkMiss rfl ?_)
      refine St.blkHit ?_
      injection h1 with h1
      subst h1
      have ho := hd1 _ rfl
      subst ho
      refine St.thenN ?_
      exact St.hereI () () rfl trivial (fun _ w => ((.d (.d (.d .z))) : Keep _ _).sat w)
  · rintro o2 e2 ho
    subst ho
    have h : _ = some _ := h
    refine St.seq ?_
    refine St.region ?_
    refine St.p rfl rfl ?_
    refine St.done ?_
    refine St.thenN ?_
    refine St.ret ?_
    repeat (first | refine St.thenR ?_ | refine St.blkR ?_)
    injection h with h
    subst h
    exact St.finR Try.results37 (.tmp rfl .nil) rfl [] ⟨rfl, rfl⟩ (fun _ w => (.z : Keep _ _).sat w)

theorem ent15 : Ent Try.prog 15 := ⟨_, Try.func15, by kernel_rfl, by kernel_rfl⟩

noncomputable def m_ref19_Compare (a_p0 : (List T_Known)) (b_p1 : (List T_Known)) : Option ((List T_Difference) × Int) :=
  bnd ((bnd (m_ref19_Valid a_p0) fun r1 => bif !r1 then (some true) else (bnd (m_ref19_Valid b_p1) fun r2 => some (!r2)) : Option Bool)) fun o1 => bif o1 then (some ([], 1)) else (bnd (loopM (τ := List T_Difference) (fun (s1 : List T_Difference × Int) => bif decide (s1.2 < 16) then (bnd (m_ref19_At a_p0 s1.2) fun r3 => bnd (m_ref19_At b_p1 s1.2) fun r4 => bnd ((bif r3.2 then (bnd (m_ref19_found a_p0 b_p1 r3.1) fun r5 => some (!r5)) else (some false) : Option Bool)) fun o3 => bnd ((bif r4.2 then (bnd (m_ref19_Origin a_p0 b_p1 r4.1) fun r6 => some r6) else (some (-1)) : Option Int)) fun o4 => bnd ((bnd ((bif o3 then (bif !r4.2 then (some true) else (some (decide (o4 ≥ 0)))) else (some false) : Option Bool)) fun o6 => bif o6 then (bnd (app 24 s1.1 ([(⟨2, s1.2, 0⟩ : T_Difference)])) fun l1 => some l1) else (some s1.1) : Option (List T_Difference))) fun o5 => bif !r4.2 then (some (.next (o5, IntKind.wrap .i64 (s1.2 + 1)))) else (bnd ((bif decide (o4 ≥ 0) then (some (o4 != s1.2)) else (some false) : Option Bool)) fun o7 => bif o7 then (bnd (app 24 o5 ([(⟨4, s1.2, o4⟩ : T_Difference)])) fun l2 => some (.next (l2, IntKind.wrap .i64 (s1.2 + 1)))) else (bif (o4 == s1.2) then (bif (r3.1.Sum != r4.1.Sum) then (bnd (app 24 o5 ([(⟨5, s1.2, 0⟩ : T_Difference)])) fun l3 => some (.next (l3, IntKind.wrap .i64 (s1.2 + 1)))) else (some (.next (o5, IntKind.wrap .i64 (s1.2 + 1))))) else (bif o3 then (bif !((r3.1.Slot == r4.1.Slot) && ((r3.1.Good == r4.1.Good) && ((r3.1.Serial.toList == r4.1.Serial.toList) && ((r3.1.Sum == r4.1.Sum) && true)))) then (bnd (app 24 o5 ([(⟨3, s1.2, 0⟩ : T_Difference)])) fun l4 => some (.next (l4, IntKind.wrap .i64 (s1.2 + 1)))) else (some (.next (o5, IntKind.wrap .i64 (s1.2 + 1))))) else (bnd (app 24 o5 ([(⟨1, s1.2, 0⟩ : T_Difference)])) fun l5 => some (.next (l5, IntKind.wrap .i64 (s1.2 + 1)))))))) else (some (.done s1.1))) ([], 0)) fun o2 => some (o2, 0))

theorem c_ref19_Compare {a_p0 : (List T_Known)} {b_p1 : (List T_Known)} {A1 : Option Addr} {c1 : Nat} {A2 : Option Addr} {c2 : Nat} {r : ((List T_Difference) × Int)} (h : m_ref19_Compare a_p0 b_p1 = some r) :
    Fun Try.prog 15 [.slice A1 a_p0.length c1, .slice A2 b_p1.length c2] [.ro (SlL e_Known A1 c1 a_p0), .ro (SlL e_Known A2 c2 b_p1)] (fun v_ F_ => ∃ (A1 : Option Addr) (c1 : Nat), v_ = .tuple #[.slice A1 r.1.length c1, .int .i64 r.2] ∧ F_ = [.res (OwnL e_Difference 40 A1 c1 r.1)]) := by
  unfold m_ref19_Compare at h
  refine Fun.intro Try.func15 rfl rfl rfl fun w R => ?_
  refine St.seq ?_
  refine St.region ?_
  refine St.p rfl rfl ?_
  refine St.p rfl rfl ?_
  refine St.done ?_
  refine St.thenN ?_
  refine St.prune (Γ' := [(0, _), (1, _)]) ⟨rfl, rfl, trivial⟩ (.k (.k .z)) ?_
  refine St.seq ?_
  refine St.seq ?_
  obtain ⟨o1, hj1, h⟩ := bnd_e h
  refine St.cutE (fun (e1 : Unit) => [(0, .slice A1 a_p0.length c1), (1, .slice A2 b_p1.length c2), (21, .bool o1)]) (fun e1 => .ro (SlL e_Known A1 c1 a_p0) :: .ro (SlL e_Known A2 c2 b_p1) :: R) ?_ ?_
  · refine St.region ?_
    refine St.p rfl rfl ?_
    obtain ⟨r1, hr1, hj1⟩ := bnd_e hj1
    refine St.callV (c_ref19_Valid hr1) ent18 rfl rfl rfl rfl ⟨(.head _), trivial⟩ ?_
    refine St.p rfl rfl ?_
    refine St.p rfl rfl ?_
    refine St.gSplit (dj := 17) _ rfl (fun hb1 => ?_) (fun hb1 => ?_)
    · replace hj1 := bif_t hb1 hj1
      refine St.gOff (dj := 17) rfl rfl rfl rfl ?_
      refine St.gOff (dj := 17) rfl rfl rfl rfl ?_
      refine St.gOff (dj := 17) rfl rfl rfl rfl ?_
      refine St.p rfl rfl ?_
      refine St.done ?_
      injection hj1 with hj1
      subst hj1
      refine St.thenN ?_
      exact St.hereE () ⟨rfl, rfl, rfl, trivial⟩ (fun _ w => ((.k (.k .z)) : Keep _ _).sat w)
    · replace hj1 := bif_f hb1 hj1
      refine St.gOn (dj := 17) rfl rfl ?_
      refine St.p rfl rfl ?_
      refine St.gOn (dj := 17) rfl rfl ?_
      obtain ⟨r2, hr2, hj1⟩ := bnd_e hj1
      refine St.callV (c_ref19_Valid hr2) ent18 rfl rfl rfl rfl ⟨(.tail _ (.head _)), trivial⟩ ?_
      refine St.gOn (dj := 17) rfl rfl ?_
      refine St.p rfl rfl ?_
      refine St.p rfl rfl ?_
      refine St.done ?_
      injection hj1 with hj1
      subst hj1
      refine St.thenN ?_
      exact St.hereE () ⟨rfl, rfl, rfl, trivial⟩ (fun _ w => ((.k (.k .z)) : Keep _ _).sat w)
  · rintro e1
    refine St.cond _ rfl (fun hb2 => ?_) (fun hb2 => ?_)
    · replace h := bif_t hb2 h
      refine St.seq ?_
      refine St.region ?_
      refine St.p rfl rfl ?_
      refine St.p rfl rfl ?_
      refine St.done ?_
      refine St.thenN ?_
      refine St.prune (Γ' := [(4, _), (5, _)]) ⟨rfl, rfl, trivial⟩ (.d (.d .z)) ?_
      refine St.ret ?_
      repeat (first | refine St.thenR ?_ | refine St.blkR ?_)
      refine St.asrt (fun _ w => w.nilL e_Difference 40) ?_
      injection h with h
      subst h
      exact St.finR Try.results15 (.tmp rfl (.tmp rfl .nil)) rfl [.res (OwnL e_Difference 40 none 0 ([]))] ⟨none, 0, rfl, rfl⟩ (fun _ w => ((.k .z) : Keep _ _).sat w)
    · replace h := bif_f hb2 h
      refine St.skip ?_
      refine St.thenN ?_
      refine St.prune (Γ' := [(0, _), (1, _)]) ⟨rfl, rfl, trivial⟩ (.k (.k .z)) ?_
      refine St.seq ?_
      refine St.region ?_
      refine St.p rfl rfl ?_
      refine St.done ?_
      refine St.thenN ?_
      refine St.seq ?_
      refine St.seq ?_
      refine St.region ?_
      refine St.p rfl rfl ?_
      refine St.done ?_
      refine St.thenN ?_
      refine St.asrt (fun _ w => w.nilL e_Difference 40) ?_
      obtain ⟨o2, hl1, h⟩ := bnd_e h
      refine St.cutE (fun (e3 : Option Addr × Nat) => [(6, .slice e3.1 o2.length e3.2)]) (fun e3 => .res (OwnL e_Difference 40 e3.1 e3.2 o2) :: R) ?_ ?_
      · refine St.block ?_
        refine St.loop hl1 (fun (s1 : List T_Difference × Int) (e2 : Option Addr × Nat) => [(0, .slice A1 a_p0.length c1), (1, .slice A2 b_p1.length c2), (6, .slice e2.1 s1.1.length e2.2), (7, .int .i64 s1.2)]) (fun s1 e2 => .res (OwnL e_Difference 40 e2.1 e2.2 s1.1) :: .ro (SlL e_Known A1 c1 a_p0) :: .ro (SlL e_Known A2 c2 b_p1) :: R) (fun _ _ => True) (none, 0) trivial ⟨rfl, rfl, rfl, rfl, trivial⟩ (fun _ w => ((.k (.k (.k .z))) : Keep _ _).sat w) ?_
        rintro s1 ⟨A3, c3⟩ - hit1
        obtain ⟨st1, hm1, hd1⟩ := iter_e hit1
        have h1 := hm1
        refine St.seq ?_
        refine St.seq ?_
        refine St.region ?_
        refine St.p rfl rfl ?_
        refine St.p rfl rfl ?_
        refine St.done ?_
        refine St.thenN ?_
        refine St.prune (Γ' := [(0, _), (1, _), (6, _), (7, _), (23, _)]) ⟨rfl, rfl, rfl, rfl, rfl, trivial⟩ (.k (.k (.k .z))) ?_
        refine St.cond _ rfl (fun hb3 => ?_) (fun hb3 => ?_)
        · replace h1 := bif_t hb3 h1
          refine St.skip ?_
          refine St.thenN ?_
          refine St.prune (Γ' := [(0, _), (1, _), (6, _), (7, _)]) ⟨rfl, rfl, rfl, rfl, trivial⟩ (.k (.k (.k .z))) ?_
          refine St.seq ?_
          refine St.block ?_
          refine St.seq ?_
          refine St.region ?_
          refine St.p rfl rfl ?_
          refine St.p rfl rfl ?_
          obtain ⟨r3, hr3, h1⟩ := bnd_e h1
          refine St.callV (c_ref19_At hr3) ent36 rfl rfl rfl rfl ⟨(.tail _ (.head _)), trivial⟩ ?_
          iterate 3 refine St.p rfl rfl ?_
          refine St.alloc rfl rfl fun g1 => ?_
          refine St.store 0 rfl rfl rfl rfl rfl rfl .z rfl ?_
          refine St.p rfl rfl ?_
          refine St.done ?_
          refine St.thenN ?_
          refine St.prune (Γ' := [(0, _), (1, _), (6, _), (7, _), (8, _), (9, _)]) ⟨rfl, rfl, rfl, rfl, rfl, rfl, trivial⟩ (.k (.k (.k (.k .z)))) ?_
          refine St.seq ?_
          refine St.region ?_
          refine St.p rfl rfl ?_
          refine St.p rfl rfl ?_
          obtain ⟨r4, hr4, h1⟩ := bnd_e h1
          refine St.callV (c_ref19_At hr4) ent36 rfl rfl rfl rfl ⟨(.tail _ (.tail _ (.tail _ (.head _)))), trivial⟩ ?_
          iterate 3 refine St.p rfl rfl ?_
          refine St.alloc rfl rfl fun g2 => ?_
          refine St.store 0 rfl rfl rfl rfl rfl rfl .z rfl ?_
          refine St.p rfl rfl ?_
          refine St.done ?_
          refine St.thenN ?_
          refine St.prune (Γ' := [(0, _), (1, _), (6, _), (7, _), (8, _), (9, _), (10, _), (11, _)]) ⟨rfl, rfl, rfl, rfl, rfl, rfl, rfl, rfl, trivial⟩ (.k (.k (.k (.k (.k .z))))) ?_
          refine St.seq ?_
          obtain ⟨o3, hj2, h1⟩ := bnd_e h1
          refine St.cutE (fun (e4 : Unit) => [(0, .slice A1 a_p0.length c1), (1, .slice A2 b_p1.length c2), (6, .slice A3 s1.1.length c3), (7, .int .i64 s1.2), (8, .pointer (some ⟨g1, 0, none⟩)), (10, .pointer (some ⟨g2, 0, none⟩)), (11, .bool r4.2), (12, .bool o3)]) (fun e4 => .res (Box g2 45 [.int .i64 r4.1.Slot, .bool r4.1.Good, .string r4.1.Serial, .int .u32 r4.1.Sum]) :: .res (Box g1 45 [.int .i64 r3.1.Slot, .bool r3.1.Good, .string r3.1.Serial, .int .u32 r3.1.Sum]) :: .res (OwnL e_Difference 40 A3 c3 s1.1) :: .ro (SlL e_Known A1 c1 a_p0) :: .ro (SlL e_Known A2 c2 b_p1) :: R) ?_ ?_
          · refine St.region ?_
            refine St.p rfl rfl ?_
            refine St.p rfl rfl ?_
            refine St.gSplit (dj := 39) _ rfl (fun hb4 => ?_) (fun hb4 => ?_)
            · replace hj2 := bif_t hb4 hj2
              refine St.gOn (dj := 39) rfl rfl ?_
              refine St.p rfl rfl ?_
              refine St.gOn (dj := 39) rfl rfl ?_
              refine St.p rfl rfl ?_
              refine St.gOn (dj := 39) rfl rfl ?_
              refine St.loadB 0 rfl rfl (.tail _ (.head _)) rfl rfl ?_
              refine St.gOn (dj := 39) rfl rfl ?_
              obtain ⟨r5, hr5, hj2⟩ := bnd_e hj2
              refine St.callV (c_ref19_found hr5) ent37 rfl rfl rfl rfl ⟨(.tail _ (.tail _ (.tail _ (.head _)))), (.tail _ (.tail _ (.tail _ (.tail _ (.head _))))), trivial⟩ ?_
              refine St.gOn (dj := 39) rfl rfl ?_
              iterate 3 refine St.p rfl rfl ?_
              refine St.done ?_
              injection hj2 with hj2
              subst hj2
              refine St.thenN ?_
              exact St.hereE () ⟨rfl, rfl, rfl, rfl, rfl, rfl, rfl, rfl, trivial⟩ (fun _ w => ((.k (.k (.k (.k (.k .z))))) : Keep _ _).sat w)
            · replace hj2 := bif_f hb4 hj2
              refine St.gOff (dj := 39) rfl rfl rfl rfl ?_
              refine St.gOff (dj := 39) rfl rfl rfl rfl ?_
              refine St.gOff (dj := 39) rfl rfl rfl rfl ?_
              refine St.gOff (dj := 39) rfl rfl rfl rfl ?_
              refine St.gOff (dj := 39) rfl rfl rfl rfl ?_
              refine St.p rfl rfl ?_
              refine St.p rfl rfl ?_
              refine St.done ?_
              injection hj2 with hj2
              subst hj2
              refine St.thenN ?_
              exact St.hereE () ⟨rfl, rfl, rfl, rfl, rfl, rfl, rfl, rfl, trivial⟩ (fun _ w => ((.k (.k (.k (.k (.k .z))))) : Keep _ _).sat w)
          · rintro e4
            refine St.seq ?_
            refine St.region ?_
            refine St.p rfl rfl ?_
            refine St.done ?_
            refine St.thenN ?_
            refine St.seq ?_
            obtain ⟨o4, hj3, h1⟩ := bnd_e h1
            refine St.cutE (fun (e5 : Unit) => [(0, .slice A1 a_p0.length c1), (1, .slice A2 b_p1.length c2), (6, .slice A3 s1.1.length c3), (7, .int .i64 s1.2), (8, .pointer (some ⟨g1, 0, none⟩)), (10, .pointer (some ⟨g2, 0, none⟩)), (11, .bool r4.2), (12, .bool o3), (13, .int .i64 o4)]) (fun e5 => .res (Box g2 45 [.int .i64 r4.1.Slot, .bool r4.1.Good, .string r4.1.Serial, .int .u32 r4.1.Sum]) :: .res (Box g1 45 [.int .i64 r3.1.Slot, .bool r3.1.Good, .string r3.1.Serial, .int .u32 r3.1.Sum]) :: .res (OwnL e_Difference 40 A3 c3 s1.1) :: .ro (SlL e_Known A1 c1 a_p0) :: .ro (SlL e_Known A2 c2 b_p1) :: R) ?_ ?_
            · refine St.seq ?_
              refine St.region ?_
              refine St.p rfl rfl ?_
              refine St.done ?_
              refine St.thenN ?_
              refine St.cond _ rfl (fun hb5 => ?_) (fun hb5 => ?_)
              · replace hj3 := bif_t hb5 hj3
                refine St.region ?_
                refine St.p rfl rfl ?_
                refine St.p rfl rfl ?_
                refine St.loadB 0 rfl rfl (.head _) rfl rfl ?_
                obtain ⟨r6, hr6, hj3⟩ := bnd_e hj3
                refine St.callV (c_ref19_Origin hr6) ent38 rfl rfl rfl rfl ⟨(.tail _ (.tail _ (.tail _ (.head _)))), (.tail _ (.tail _ (.tail _ (.tail _ (.head _))))), trivial⟩ ?_
                refine St.p rfl rfl ?_
                refine St.done ?_
                injection hj3 with hj3
                subst hj3
                refine St.thenN ?_
                exact St.hereE () ⟨rfl, rfl, rfl, rfl, rfl, rfl, rfl, rfl, rfl, trivial⟩ (fun _ w => ((.k (.k (.k (.k (.k .z))))) : Keep _ _).sat w)
              · replace hj3 := bif_f hb5 hj3
                refine St.skip ?_
                injection hj3 with hj3
                subst hj3
                refine St.thenN ?_
                exact St.hereE () ⟨rfl, rfl, rfl, rfl, rfl, rfl, rfl, rfl, rfl, trivial⟩ (fun _ w => ((.k (.k (.k (.k (.k .z))))) : Keep _ _).sat w)
            · rintro e5
              refine St.seq ?_
              obtain ⟨o5, hj4, h1⟩ := bnd_e h1
              refine St.cutE (fun (e6 : Option Addr × Nat) => [(0, .slice A1 a_p0.length c1), (1, .slice A2 b_p1.length c2), (6, .slice e6.1 o5.length e6.2), (7, .int .i64 s1.2), (8, .pointer (some ⟨g1, 0, none⟩)), (10, .pointer (some ⟨g2, 0, none⟩)), (11, .bool r4.2), (12, .bool o3), (13, .int .i64 o4)]) (fun e6 => .res (OwnL e_Difference 40 e6.1 e6.2 o5) :: .res (Box g2 45 [.int .i64 r4.1.Slot, .bool r4.1.Good, .string r4.1.Serial, .int .u32 r4.1.Sum]) :: .res (Box g1 45 [.int .i64 r3.1.Slot, .bool r3.1.Good, .string r3.1.Serial, .int .u32 r3.1.Sum]) :: .ro (SlL e_Known A1 c1 a_p0) :: .ro (SlL e_Known A2 c2 b_p1) :: R) ?_ ?_
              · refine St.seq ?_
                obtain ⟨o6, hj5, hj4⟩ := bnd_e hj4
                refine St.cutE (fun (e7 : Unit) => [(0, .slice A1 a_p0.length c1), (1, .slice A2 b_p1.length c2), (6, .slice A3 s1.1.length c3), (7, .int .i64 s1.2), (8, .pointer (some ⟨g1, 0, none⟩)), (10, .pointer (some ⟨g2, 0, none⟩)), (11, .bool r4.2), (12, .bool o3), (13, .int .i64 o4), (59, .bool o6)]) (fun e7 => .res (Box g2 45 [.int .i64 r4.1.Slot, .bool r4.1.Good, .string r4.1.Serial, .int .u32 r4.1.Sum]) :: .res (Box g1 45 [.int .i64 r3.1.Slot, .bool r3.1.Good, .string r3.1.Serial, .int .u32 r3.1.Sum]) :: .res (OwnL e_Difference 40 A3 c3 s1.1) :: .ro (SlL e_Known A1 c1 a_p0) :: .ro (SlL e_Known A2 c2 b_p1) :: R) ?_ ?_
                · refine St.region ?_
                  refine St.p rfl rfl ?_
                  refine St.p rfl rfl ?_
                  refine St.gSplit (dj := 52) _ rfl (fun hb6 => ?_) (fun hb6 => ?_)
                  · replace hj5 := bif_t hb6 hj5
                    refine St.gOn (dj := 52) rfl rfl ?_
                    refine St.p rfl rfl ?_
                    refine St.gOn (dj := 52) rfl rfl ?_
                    refine St.p rfl rfl ?_
                    refine St.gOn (dj := 52) rfl rfl ?_
                    refine St.p rfl rfl ?_
                    refine St.gSplit (dj := 55) _ rfl (fun hb7 => ?_) (fun hb7 => ?_)
                    · replace hj5 := bif_t hb7 hj5
                      refine St.gOff (dj := 55) rfl rfl rfl rfl ?_
                      refine St.gOff (dj := 55) rfl rfl rfl rfl ?_
                      refine St.gOn (dj := 52) rfl rfl ?_
                      refine St.p rfl rfl ?_
                      refine St.p rfl rfl ?_
                      refine St.done ?_
                      injection hj5 with hj5
                      subst hj5
                      refine St.thenN ?_
                      exact St.hereE () ⟨rfl, rfl, rfl, rfl, rfl, rfl, rfl, rfl, rfl, rfl, trivial⟩ (fun _ w => ((.k (.k (.k (.k (.k .z))))) : Keep _ _).sat w)
                    · replace hj5 := bif_f hb7 hj5
                      refine St.gOn (dj := 55) rfl rfl ?_
                      refine St.p rfl rfl ?_
                      refine St.gOn (dj := 55) rfl rfl ?_
                      refine St.p rfl rfl ?_
                      refine St.gOn (dj := 52) rfl rfl ?_
                      refine St.p rfl rfl ?_
                      refine St.p rfl rfl ?_
                      refine St.done ?_
                      injection hj5 with hj5
                      subst hj5
                      refine St.thenN ?_
                      exact St.hereE () ⟨rfl, rfl, rfl, rfl, rfl, rfl, rfl, rfl, rfl, rfl, trivial⟩ (fun _ w => ((.k (.k (.k (.k (.k .z))))) : Keep _ _).sat w)
                  · replace hj5 := bif_f hb6 hj5
                    refine St.gOff (dj := 52) rfl rfl rfl rfl ?_
                    refine St.gOff (dj := 52) rfl rfl rfl rfl ?_
                    refine St.gOff (dj := 52) rfl rfl rfl rfl ?_
                    refine St.gOff (dj := 55) rfl rfl rfl rfl ?_
                    refine St.gOff (dj := 55) rfl rfl rfl rfl ?_
                    refine St.gOff (dj := 52) rfl rfl rfl rfl ?_
                    refine St.p rfl rfl ?_
                    refine St.done ?_
                    injection hj5 with hj5
                    subst hj5
                    refine St.thenN ?_
                    exact St.hereE () ⟨rfl, rfl, rfl, rfl, rfl, rfl, rfl, rfl, rfl, rfl, trivial⟩ (fun _ w => ((.k (.k (.k (.k (.k .z))))) : Keep _ _).sat w)
                · rintro e7
                  refine St.cond _ rfl (fun hb8 => ?_) (fun hb8 => ?_)
                  · replace hj4 := bif_t hb8 hj4
                    refine St.region ?_
                    iterate 3 refine St.p rfl rfl ?_
                    refine St.buildSlice rfl rfl rfl rfl rfl rfl rfl rfl fun g3 => ?_
                    obtain ⟨l1, hl1, hj4⟩ := bnd_e hj4
                    refine St.app (E := e_Difference) hl1 rfl rfl rfl (.s (.s (.s .z))) rfl rfl rfl rfl rfl rfl rfl rfl (srcB (.head _) rfl rfl) fun A6 c6 => ?_
                    refine St.p rfl rfl ?_
                    refine St.done ?_
                    injection hj4 with hj4
                    subst hj4
                    refine St.thenN ?_
                    exact St.hereE (A6, c6) ⟨rfl, rfl, rfl, rfl, rfl, rfl, rfl, rfl, rfl, trivial⟩ (fun _ w => ((.k (.d (.k (.k (.k (.k .z)))))) : Keep _ _).sat w)
                  · replace hj4 := bif_f hb8 hj4
                    refine St.skip ?_
                    injection hj4 with hj4
                    subst hj4
                    refine St.thenN ?_
                    exact St.hereE (A3, c3) ⟨rfl, rfl, rfl, rfl, rfl, rfl, rfl, rfl, rfl, trivial⟩ (fun _ w => ((.k (.k (.k (.k (.k .z))))) : Keep _ _).sat (((((w.front (.s (.s (.s (.s .z))))).front (.s (.s (.s (.s .z))))).front (.s (.s (.s .z)))).front (.s (.s (.s .z)))).front (.s (.s (.s (.s .z))))))
              · rintro ⟨A5, c5⟩
                refine St.block ?_
                refine St.seq ?_
                refine St.region ?_
                iterate 3 refine St.p rfl rfl ?_
                refine St.done ?_
                refine St.thenN ?_
                refine St.prune (Γ' := [(0, _), (1, _), (6, _), (7, _), (8, _), (10, _), (12, _), (13, _), (70, _)]) ⟨rfl, rfl, rfl, rfl, rfl, rfl, rfl, rfl, rfl, trivial⟩ (.k (.k (.k (.k (.k .z))))) ?_
                refine St.cond _ rfl (fun hb9 => ?_) (fun hb9 => ?_)
                · replace h1 := bif_t hb9 h1
                  refine St.skip ?_
                  refine St.blkN ?_
                  refine St.blkN ?_
                  refine St.thenN ?_
                  refine St.prune (Γ' := [(0, _), (1, _), (6, _), (7, _)]) ⟨rfl, rfl, rfl, rfl, trivial⟩ (.k (.d (.d (.k (.k .z))))) ?_
                  refine St.region ?_
                  iterate 3 refine St.p rfl rfl ?_
                  refine St.done ?_
                  injection h1 with h1
                  subst h1
                  refine St.thenN ?_
                  exact St.again _ (A5, c5) hm1 trivial ⟨rfl, rfl, rfl, rfl, trivial⟩ (fun _ w => ((.k (.k (.k .z))) : Keep _ _).sat w)
                · replace h1 := bif_f hb9 h1
                  refine St.seq ?_
                  obtain ⟨o7, hj6, h1⟩ := bnd_e h1
                  refine St.cutE (fun (e8 : Unit) => [(0, .slice A1 a_p0.length c1), (1, .slice A2 b_p1.length c2), (6, .slice A5 o5.length c5), (7, .int .i64 s1.2), (8, .pointer (some ⟨g1, 0, none⟩)), (10, .pointer (some ⟨g2, 0, none⟩)), (12, .bool o3), (13, .int .i64 o4), (73, .bool o7)]) (fun e8 => .res (OwnL e_Difference 40 A5 c5 o5) :: .res (Box g2 45 [.int .i64 r4.1.Slot, .bool r4.1.Good, .string r4.1.Serial, .int .u32 r4.1.Sum]) :: .res (Box g1 45 [.int .i64 r3.1.Slot, .bool r3.1.Good, .string r3.1.Serial, .int .u32 r3.1.Sum]) :: .ro (SlL e_Known A1 c1 a_p0) :: .ro (SlL e_Known A2 c2 b_p1) :: R) ?_ ?_
                  · refine St.region ?_
                    iterate 3 refine St.p rfl rfl ?_
                    refine St.gSplit (dj := 76) _ rfl (fun hb10 => ?_) (fun hb10 => ?_)
                    · replace hj6 := bif_t hb10 hj6
                      refine St.gOn (dj := 76) rfl rfl ?_
                      refine St.p rfl rfl ?_
                      refine St.gOn (dj := 76) rfl rfl ?_
                      refine St.p rfl rfl ?_
                      refine St.gOn (dj := 76) rfl rfl ?_
                      iterate 3 refine St.p rfl rfl ?_
                      refine St.done ?_
                      injection hj6 with hj6
                      subst hj6
                      refine St.thenN ?_
                      exact St.hereE () ⟨rfl, rfl, rfl, rfl, rfl, rfl, rfl, rfl, rfl, trivial⟩ (fun _ w => ((.k (.k (.k (.k (.k .z))))) : Keep _ _).sat w)
                    · replace hj6 := bif_f hb10 hj6
                      refine St.gOff (dj := 76) rfl rfl rfl rfl ?_
                      refine St.gOff (dj := 76) rfl rfl rfl rfl ?_
                      refine St.gOff (dj := 76) rfl rfl rfl rfl ?_
                      refine St.p rfl rfl ?_
                      refine St.p rfl rfl ?_
                      refine St.done ?_
                      injection hj6 with hj6
                      subst hj6
                      refine St.thenN ?_
                      exact St.hereE () ⟨rfl, rfl, rfl, rfl, rfl, rfl, rfl, rfl, rfl, trivial⟩ (fun _ w => ((.k (.k (.k (.k (.k .z))))) : Keep _ _).sat w)
                  · rintro e8
                    refine St.cond _ rfl (fun hb11 => ?_) (fun hb11 => ?_)
                    · replace h1 := bif_t hb11 h1
                      refine St.region ?_
                      iterate 4 refine St.p rfl rfl ?_
                      refine St.buildSlice rfl rfl rfl rfl rfl rfl rfl rfl fun g4 => ?_
                      obtain ⟨l2, hl2, h1⟩ := bnd_e h1
                      refine St.app (E := e_Difference) hl2 rfl rfl rfl (.s .z) rfl rfl rfl rfl rfl rfl rfl rfl (srcB (.head _) rfl rfl) fun A7 c7 => ?_
                      refine St.p rfl rfl ?_
                      refine St.done ?_
                      refine St.blkN ?_
                      refine St.blkN ?_
                      refine St.thenN ?_
                      refine St.prune (Γ' := [(0, _), (1, _), (6, _), (7, _)]) ⟨rfl, rfl, rfl, rfl, trivial⟩ (.k (.d (.d (.d (.k (.k .z)))))) ?_
                      refine St.region ?_
                      iterate 3 refine St.p rfl rfl ?_
                      refine St.done ?_
                      injection h1 with h1
                      subst h1
                      refine St.thenN ?_
                      exact St.again _ (A7, c7) hm1 trivial ⟨rfl, rfl, rfl, rfl, trivial⟩ (fun _ w => ((.k (.k (.k .z))) : Keep _ _).sat w)
                    · replace h1 := bif_f hb11 h1
                      refine St.seq ?_
                      refine St.region ?_
                      iterate 4 refine St.p rfl rfl ?_
                      refine St.done ?_
                      refine St.thenN ?_
                      refine St.prune (Γ' := [(0, _), (1, _), (6, _), (7, _), (8, _), (10, _), (12, _), (87, _)]) ⟨rfl, rfl, rfl, rfl, rfl, rfl, rfl, rfl, trivial⟩ (.k (.k (.k (.k (.k .z))))) ?_
                      refine St.cond _ rfl (fun hb12 => ?_) (fun hb12 => ?_)
                      · replace h1 := bif_t hb12 h1
                        refine St.seq ?_
                        refine St.region ?_
                        refine St.p rfl rfl ?_
                        refine St.loadB 3 rfl rfl (.tail _ (.tail _ (.head _))) rfl rfl ?_
                        refine St.p rfl rfl ?_
                        refine St.loadB 3 rfl rfl (.tail _ (.head _)) rfl rfl ?_
                        refine St.p rfl rfl ?_
                        refine St.done ?_
                        refine St.thenN ?_
                        refine St.prune (Γ' := [(0, _), (1, _), (6, _), (7, _), (95, _)]) ⟨rfl, rfl, rfl, rfl, rfl, trivial⟩ (.k (.d (.d (.k (.k .z))))) ?_
                        refine St.cond _ rfl (fun hb13 => ?_) (fun hb13 => ?_)
                        · replace h1 := bif_t hb13 h1
                          refine St.region ?_
                          iterate 3 refine St.p rfl rfl ?_
                          refine St.buildSlice rfl rfl rfl rfl rfl rfl rfl rfl fun g5 => ?_
                          obtain ⟨l3, hl3, h1⟩ := bnd_e h1
                          refine St.app (E := e_Difference) hl3 rfl rfl rfl (.s .z) rfl rfl rfl rfl rfl rfl rfl rfl (srcB (.head _) rfl rfl) fun A8 c8 => ?_
                          refine St.p rfl rfl ?_
                          refine St.done ?_
                          refine St.blkN ?_
                          refine St.blkN ?_
                          refine St.thenN ?_
                          refine St.prune (Γ' := [(0, _), (1, _), (6, _), (7, _)]) ⟨rfl, rfl, rfl, rfl, trivial⟩ (.k (.d (.k (.k .z)))) ?_
                          refine St.region ?_
                          iterate 3 refine St.p rfl rfl ?_
                          refine St.done ?_
                          injection h1 with h1
                          subst h1
                          refine St.thenN ?_
                          exact St.again _ (A8, c8) hm1 trivial ⟨rfl, rfl, rfl, rfl, trivial⟩ (fun _ w => ((.k (.k (.k .z))) : Keep _ _).sat w)
                        · replace h1 := bif_f hb13 h1
                          refine St.skip ?_
                          refine St.blkN ?_
                          refine St.blkN ?_
                          refine St.thenN ?_
                          refine St.prune (Γ' := [(0, _), (1, _), (6, _), (7, _)]) ⟨rfl, rfl, rfl, rfl, trivial⟩ (.k (.k (.k .z))) ?_
                          refine St.region ?_
                          iterate 3 refine St.p rfl rfl ?_
                          refine St.done ?_
                          injection h1 with h1
                          subst h1
                          refine St.thenN ?_
                          exact St.again _ (A5, c5) hm1 trivial ⟨rfl, rfl, rfl, rfl, trivial⟩ (fun _ w => ((.k (.k (.k .z))) : Keep _ _).sat w)
                      · replace h1 := bif_f hb12 h1
                        refine St.seq ?_
                        refine St.region ?_
                        refine St.p rfl rfl ?_
                        refine St.p rfl rfl ?_
                        refine St.done ?_
                        refine St.thenN ?_
                        refine St.prune (Γ' := [(0, _), (1, _), (6, _), (7, _), (8, _), (10, _), (101, _)]) ⟨rfl, rfl, rfl, rfl, rfl, rfl, rfl, trivial⟩ (.k (.k (.k (.k (.k .z))))) ?_
                        refine St.cond _ rfl (fun hb14 => ?_) (fun hb14 => ?_)
                        · replace h1 := bif_t hb14 h1
                          refine St.seq ?_
                          refine St.region ?_
                          refine St.loadB 0 rfl rfl (.tail _ (.tail _ (.head _))) rfl rfl ?_
                          refine St.loadB 0 rfl rfl (.tail _ (.head _)) rfl rfl ?_
                          refine St.p rfl rfl ?_
                          refine St.done ?_
                          refine St.thenN ?_
                          refine St.prune (Γ' := [(0, _), (1, _), (6, _), (7, _), (105, _)]) ⟨rfl, rfl, rfl, rfl, rfl, trivial⟩ (.k (.d (.d (.k (.k .z))))) ?_
                          refine St.cond _ rfl (fun hb15 => ?_) (fun hb15 => ?_)
                          · replace h1 := bif_t hb15 h1
                            refine St.region ?_
                            iterate 3 refine St.p rfl rfl ?_
                            refine St.buildSlice rfl rfl rfl rfl rfl rfl rfl rfl fun g6 => ?_
                            obtain ⟨l4, hl4, h1⟩ := bnd_e h1
                            refine St.app (E := e_Difference) hl4 rfl rfl rfl (.s .z) rfl rfl rfl rfl rfl rfl rfl rfl (srcB (.head _) rfl rfl) fun A9 c9 => ?_
                            refine St.p rfl rfl ?_
                            refine St.done ?_
                            refine St.blkN ?_
                            refine St.blkN ?_
                            refine St.thenN ?_
                            refine St.prune (Γ' := [(0, _), (1, _), (6, _), (7, _)]) ⟨rfl, rfl, rfl, rfl, trivial⟩ (.k (.d (.k (.k .z)))) ?_
                            refine St.region ?_
                            iterate 3 refine St.p rfl rfl ?_
                            refine St.done ?_
                            injection h1 with h1
                            subst h1
                            refine St.thenN ?_
                            exact St.again _ (A9, c9) hm1 trivial ⟨rfl, rfl, rfl, rfl, trivial⟩ (fun _ w => ((.k (.k (.k .z))) : Keep _ _).sat w)
                          · replace h1 := bif_f hb15 h1
                            refine St.skip ?_
                            refine St.blkN ?_
                            refine St.blkN ?_
                            refine St.thenN ?_
                            refine St.prune (Γ' := [(0, _), (1, _), (6, _), (7, _)]) ⟨rfl, rfl, rfl, rfl, trivial⟩ (.k (.k (.k .z))) ?_
                            refine St.region ?_
                            iterate 3 refine St.p rfl rfl ?_
                            refine St.done ?_
                            injection h1 with h1
                            subst h1
                            refine St.thenN ?_
                            exact St.again _ (A5, c5) hm1 trivial ⟨rfl, rfl, rfl, rfl, trivial⟩ (fun _ w => ((.k (.k (.k .z))) : Keep _ _).sat w)
                        · replace h1 := bif_f hb14 h1
                          refine St.region ?_
                          iterate 3 refine St.p rfl rfl ?_
                          refine St.buildSlice rfl rfl rfl rfl rfl rfl rfl rfl fun g7 => ?_
                          obtain ⟨l5, hl5, h1⟩ := bnd_e h1
                          refine St.app (E := e_Difference) hl5 rfl rfl rfl (.s .z) rfl rfl rfl rfl rfl rfl rfl rfl (srcB (.head _) rfl rfl) fun A10 c10 => ?_
                          refine St.p rfl rfl ?_
                          refine St.done ?_
                          refine St.blkN ?_
                          refine St.blkN ?_
                          refine St.thenN ?_
                          refine St.prune (Γ' := [(0, _), (1, _), (6, _), (7, _)]) ⟨rfl, rfl, rfl, rfl, trivial⟩ (.k (.d (.d (.d (.k (.k .z)))))) ?_
                          refine St.region ?_
                          iterate 3 refine St.p rfl rfl ?_
                          refine St.done ?_
                          injection h1 with h1
                          subst h1
                          refine St.thenN ?_
                          exact St.again _ (A10, c10) hm1 trivial ⟨rfl, rfl, rfl, rfl, trivial⟩ (fun _ w => ((.k (.k (.k .z))) : Keep _ _).sat w)
        · replace h1 := bif_f hb3 h1
          refine St.exit ?_
          repeat (first | refine St.thenX ?_ | refine St.blkMiss rfl ?_)
          refine St.blkHit ?_
          injection h1 with h1
          subst h1
          have ho := hd1 _ rfl
          subst ho
          refine St.thenN ?_
          exact St.hereE (A3, c3) ⟨rfl, trivial⟩ (fun _ w => ((.k (.d (.d .z))) : Keep _ _).sat w)
      · rintro ⟨A4, c4⟩
        refine St.seq ?_
        refine St.region ?_
        iterate 3 refine St.p rfl rfl ?_
        refine St.done ?_
        refine St.thenN ?_
        refine St.prune (Γ' := [(4, _), (5, _)]) ⟨rfl, rfl, trivial⟩ (.k .z) ?_
        refine St.ret ?_
        repeat (first | refine St.thenR ?_ | refine St.blkR ?_)
        injection h with h
        subst h
        exact St.finR Try.results15 (.tmp rfl (.tmp rfl .nil)) rfl [.res (OwnL e_Difference 40 A4 c4 o2)] ⟨A4, c4, rfl, rfl⟩ (fun _ w => ((.k .z) : Keep _ _).sat w)

theorem ent19 : Ent Try.prog 19 := ⟨_, Try.func19, by kernel_rfl, by kernel_rfl⟩

noncomputable def m_law19_count (l_p0 : (List T_Difference)) (kind : Int) : Option Int :=
  bnd (loopM (τ := Int) (fun (s1 : Int × Int) => bif decide (s1.2 < (l_p0.length : Int)) then (bnd (elt l_p0 s1.2) fun x1 => bif (x1.Kind == kind) then (some (.next (IntKind.wrap .i64 (s1.1 + 1), IntKind.wrap .i64 (s1.2 + 1)))) else (some (.next (s1.1, IntKind.wrap .i64 (s1.2 + 1))))) else (some (.done s1.1))) (0, 0)) fun o1 => some o1

theorem c_law19_count {l_p0 : (List T_Difference)} {kind : Int} {A1 : Option Addr} {c1 : Nat} {r : Int} (h : m_law19_count l_p0 kind = some r) :
    Fun Try.prog 19 [.slice A1 l_p0.length c1, .int .i64 kind] [.ro (SlL e_Difference A1 c1 l_p0)] (Val (.int .i64 r)) := by
  unfold m_law19_count at h
  refine Fun.intro Try.func19 rfl rfl rfl fun w R => ?_
  refine St.seq ?_
  refine St.region ?_
  refine St.p rfl rfl ?_
  refine St.done ?_
  refine St.thenN ?_
  refine St.prune (Γ' := [(0, _), (1, _)]) ⟨rfl, rfl, trivial⟩ (.k .z) ?_
  refine St.seq ?_
  refine St.region ?_
  refine St.p rfl rfl ?_
  refine St.done ?_
  refine St.thenN ?_
  refine St.seq ?_
  refine St.seq ?_
  refine St.region ?_
  refine St.p rfl rfl ?_
  refine St.done ?_
  refine St.thenN ?_
  obtain ⟨o1, hl1, h⟩ := bnd_e h
  refine St.cutE (fun (e2 : Unit) => [(5, .int .i64 o1)]) (fun e2 => R) ?_ ?_
  · refine St.block ?_
    refine St.loop hl1 (fun (s1 : Int × Int) (e1 : Unit) => [(0, .slice A1 l_p0.length c1), (1, .int .i64 kind), (5, .int .i64 s1.1), (6, .int .i64 s1.2)]) (fun s1 e1 => .ro (SlL e_Difference A1 c1 l_p0) :: R) (fun _ _ => True) () trivial ⟨rfl, rfl, rfl, rfl, trivial⟩ (fun _ w => ((.k .z) : Keep _ _).sat w) ?_
    rintro s1 e1 - hit1
    obtain ⟨st1, hm1, hd1⟩ := iter_e hit1
    have h1 := hm1
    refine St.seq ?_
    refine St.seq ?_
    refine St.region ?_
    iterate 4 refine St.p rfl rfl ?_
    refine St.done ?_
    refine St.thenN ?_
    refine St.prune (Γ' := [(0, _), (1, _), (5, _), (6, _), (10, _)]) ⟨rfl, rfl, rfl, rfl, rfl, trivial⟩ (.k .z) ?_
    refine St.cond _ rfl (fun hb1 => ?_) (fun hb1 => ?_)
    · replace h1 := bif_t hb1 h1
      refine St.skip ?_
      refine St.thenN ?_
      refine St.prune (Γ' := [(0, _), (1, _), (5, _), (6, _)]) ⟨rfl, rfl, rfl, rfl, trivial⟩ (.k .z) ?_
      refine St.seq ?_
      refine St.block ?_
      refine St.seq ?_
      refine St.region ?_
      refine St.p rfl rfl ?_
      refine St.p rfl rfl ?_
      obtain ⟨x1, hx1, h1⟩ := bnd_e h1
      refine St.ixL hx1 rfl rfl rfl (.head _) rfl rfl rfl rfl rfl fun b1 ob1 => ?_
      refine St.p rfl rfl ?_
      refine St.load ob1 0 rfl rfl (.head _) rfl rfl ?_
      refine St.p rfl rfl ?_
      refine St.p rfl rfl ?_
      refine St.done ?_
      refine St.thenN ?_
      refine St.prune (Γ' := [(0, _), (1, _), (5, _), (6, _), (19, _)]) ⟨rfl, rfl, rfl, rfl, rfl, trivial⟩ (.d (.k .z)) ?_
      refine St.cond _ rfl (fun hb2 => ?_) (fun hb2 => ?_)
      · replace h1 := bif_t hb2 h1
        refine St.region ?_
        iterate 3 refine St.p rfl rfl ?_
        refine St.done ?_
        refine St.blkN ?_
        refine St.thenN ?_
        refine St.prune (Γ' := [(0, _), (1, _), (5, _), (6, _)]) ⟨rfl, rfl, rfl, rfl, trivial⟩ (.k .z) ?_
        refine St.region ?_
        iterate 3 refine St.p rfl rfl ?_
        refine St.done ?_
        injection h1 with h1
        subst h1
        refine St.thenN ?_
        exact St.again _ () hm1 trivial ⟨rfl, rfl, rfl, rfl, trivial⟩ (fun _ w => ((.k .z) : Keep _ _).sat w)
      · replace h1 := bif_f hb2 h1
        refine St.skip ?_
        refine St.blkN ?_
        refine St.thenN ?_
        refine St.prune (Γ' := [(0, _), (1, _), (5, _), (6, _)]) ⟨rfl, rfl, rfl, rfl, trivial⟩ (.k .z) ?_
        refine St.region ?_
        iterate 3 refine St.p rfl rfl ?_
        refine St.done ?_
        injection h1 with h1
        subst h1
        refine St.thenN ?_
        exact St.again _ () hm1 trivial ⟨rfl, rfl, rfl, rfl, trivial⟩ (fun _ w => ((.k .z) : Keep _ _).sat w)
    · replace h1 := bif_f hb1 h1
      refine St.exit ?_
      repeat (first | refine St.thenX ?_ | refine St.blkMiss rfl ?_)
      refine St.blkHit ?_
      injection h1 with h1
      subst h1
      have ho := hd1 _ rfl
      subst ho
      refine St.thenN ?_
      exact St.hereE () ⟨rfl, trivial⟩ (fun _ w => ((.d .z) : Keep _ _).sat w)
  · rintro e2
    refine St.seq ?_
    refine St.region ?_
    refine St.p rfl rfl ?_
    refine St.p rfl rfl ?_
    refine St.done ?_
    refine St.thenN ?_
    refine St.prune (Γ' := [(4, _)]) ⟨rfl, trivial⟩ .z ?_
    refine St.ret ?_
    repeat (first | refine St.thenR ?_ | refine St.blkR ?_)
    injection h with h
    subst h
    exact St.finR Try.results19 (.tmp rfl .nil) rfl [] ⟨rfl, rfl⟩ (fun _ w => (.z : Keep _ _).sat w)

theorem ent12 : Ent Try.prog 12 := ⟨_, Try.func12, by kernel_rfl, by kernel_rfl⟩

noncomputable def m_made_Roll (l_p0 : (List Int)) : Option T_Dice :=
  some (⟨l_p0, 0⟩ : T_Dice)

theorem c_made_Roll {l_p0 : (List Int)} {A1 : Option Addr} {c1 : Nat} {r : T_Dice} (h : m_made_Roll l_p0 = some r) :
    Fun Try.prog 12 [.slice A1 l_p0.length c1] [.ro (SlL ei64 A1 c1 l_p0)] (fun v_ F_ => ∃ (g1 : Nat) (A1 : Option Addr) (c1 : Nat), v_ = .pointer (some ⟨g1, 0, none⟩) ∧ F_ = [.ro (SlL ei64 A1 c1 r.L), .res (Box g1 73 [.slice A1 r.L.length c1, .int .i64 r.At])]) := by
  unfold m_made_Roll at h
  refine Fun.intro Try.func12 rfl rfl rfl fun w R => ?_
  refine St.seq ?_
  refine St.region ?_
  refine St.p rfl rfl ?_
  refine St.done ?_
  refine St.thenN ?_
  refine St.prune (Γ' := [(0, _)]) ⟨rfl, trivial⟩ (.k .z) ?_
  refine St.seq ?_
  refine St.region ?_
  refine St.p rfl rfl ?_
  refine St.p rfl rfl ?_
  refine St.box rfl rfl fun g1 => ?_
  refine St.p rfl rfl ?_
  refine St.done ?_
  refine St.thenN ?_
  refine St.prune (Γ' := [(2, _)]) ⟨rfl, trivial⟩ (.k (.k .z)) ?_
  refine St.ret ?_
  repeat (first | refine St.thenR ?_ | refine St.blkR ?_)
  injection h with h
  subst h
  exact St.finR Try.results12 (.tmp rfl .nil) rfl [.ro (SlL ei64 A1 c1 l_p0), .res (Box g1 73 [.slice A1 l_p0.length c1, .int .i64 0])] ⟨g1, A1, c1, rfl, rfl⟩ (fun _ w => ((.k (.k (.d .z))) : Keep _ _).sat (Sat.dup (G := [.ro (SlL ei64 A1 c1 l_p0)]) rfl ⟨(.tail _ (.head _)), trivial⟩ w))

theorem ent3 : Ent Try.prog 3 := ⟨_, Try.func3, by kernel_rfl, by kernel_rfl⟩

end Go.Proofs.Ytnolaefjmjgfbaa
