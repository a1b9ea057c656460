/-
  Models of functions of the program, and that the functions compute them.
  Conditions: none.
-/
import Derived.Test.YtnolaefjmjgfbaaGen
namespace Go.Proofs.Ytnolaefjmjgfbaa
open Go
set_option linter.unusedVariables false
set_option maxRecDepth 4000

theorem ent9 : Ent Try.prog 9 := ⟨_, Try.func9, by kernel_rfl, by kernel_rfl⟩

noncomputable def m_law19_light (l_p0 : (List T_Known)) : Option Bool :=
  bif decide ((l_p0.length : Int) > 40) then (some false) else (bnd (loopM (τ := Bool ⊕ Unit) (fun (s1 : Int) => bif decide (s1 < (l_p0.length : Int)) then (bnd (elt l_p0 s1) fun x1 => bif decide ((x1.Serial.size : Int) > 60) then (some (.done (.inl false))) else (some (.next (IntKind.wrap .i64 (s1 + 1))))) else (some (.done (.inr ())))) 0) fun o1 => retOr o1 fun o2 => some true)

theorem c_law19_light {l_p0 : (List T_Known)} {A1 : Option Addr} {c1 : Nat} {r : Bool} (h : m_law19_light l_p0 = some r) :
    Fun Try.prog 9 [.slice A1 l_p0.length c1] [.ro (SlL e_Known A1 c1 l_p0)] (Val (.bool r)) := by
  unfold m_law19_light at h
  refine Fun.intro Try.func9 rfl rfl rfl fun w R => ?_
  refine St.seq ?_
  refine St.region ?_
  refine St.p rfl rfl ?_
  refine St.done ?_
  refine St.thenN ?_
  refine St.prune (Γ' := [(0, _)]) ⟨rfl, trivial⟩ (.k .z) ?_
  refine St.seq ?_
  refine St.seq ?_
  refine St.region ?_
  iterate 3 refine St.p rfl rfl ?_
  refine St.done ?_
  refine St.thenN ?_
  refine St.prune (Γ' := [(0, _), (6, _)]) ⟨rfl, rfl, trivial⟩ (.k .z) ?_
  refine St.cond _ rfl (fun hb1 => ?_) (fun hb1 => ?_)
  · replace h := bif_t hb1 h
    refine St.seq ?_
    refine St.region ?_
    refine St.p rfl rfl ?_
    refine St.done ?_
    refine St.thenN ?_
    refine St.prune (Γ' := [(2, _)]) ⟨rfl, trivial⟩ (.d .z) ?_
    refine St.ret ?_
    repeat (first | refine St.thenR ?_ | refine St.blkR ?_)
    injection h with h
    subst h
    exact St.finR Try.results9 (.tmp rfl .nil) rfl [] ⟨rfl, rfl⟩ (fun _ w => (.z : Keep _ _).sat w)
  · replace h := bif_f hb1 h
    refine St.skip ?_
    refine St.thenN ?_
    refine St.prune (Γ' := [(0, _)]) ⟨rfl, trivial⟩ (.k .z) ?_
    refine St.seq ?_
    refine St.seq ?_
    refine St.region ?_
    refine St.p rfl rfl ?_
    refine St.done ?_
    refine St.thenN ?_
    obtain ⟨o1, hl1, h⟩ := bnd_e h
    refine St.cutI (fun (o2 : Unit) (e2 : Unit) => []) (fun o2 e2 => R) (fun o2 => o1 = .inr o2) ?_ ?_
    · refine St.block ?_
      refine St.loop hl1 (fun (s1 : Int) (e1 : Unit) => [(0, .slice A1 l_p0.length c1), (3, .int .i64 s1)]) (fun s1 e1 => .ro (SlL e_Known A1 c1 l_p0) :: R) (fun _ _ => True) () trivial ⟨rfl, rfl, trivial⟩ (fun _ w => ((.k .z) : Keep _ _).sat w) ?_
      rintro s1 e1 - hit1
      obtain ⟨st1, hm1, hd1⟩ := iter_e hit1
      have h1 := hm1
      refine St.seq ?_
      refine St.seq ?_
      refine St.region ?_
      iterate 4 refine St.p rfl rfl ?_
      refine St.done ?_
      refine St.thenN ?_
      refine St.prune (Γ' := [(0, _), (3, _), (10, _)]) ⟨rfl, rfl, rfl, trivial⟩ (.k .z) ?_
      refine St.cond _ rfl (fun hb2 => ?_) (fun hb2 => ?_)
      · replace h1 := bif_t hb2 h1
        refine St.skip ?_
        refine St.thenN ?_
        refine St.prune (Γ' := [(0, _), (3, _)]) ⟨rfl, rfl, trivial⟩ (.k .z) ?_
        refine St.seq ?_
        refine St.block ?_
        refine St.seq ?_
        refine St.region ?_
        refine St.p rfl rfl ?_
        refine St.p rfl rfl ?_
        obtain ⟨x1, hx1, h1⟩ := bnd_e h1
        refine St.ixL hx1 rfl rfl rfl (.head _) rfl rfl rfl rfl rfl fun b1 ob1 => ?_
        refine St.p rfl rfl ?_
        refine St.load ob1 2 rfl rfl (.head _) rfl rfl ?_
        refine St.p rfl rfl ?_
        refine St.p rfl rfl ?_
        refine St.done ?_
        refine St.thenN ?_
        refine St.prune (Γ' := [(0, _), (3, _), (19, _)]) ⟨rfl, rfl, rfl, trivial⟩ (.d (.k .z)) ?_
        refine St.cond _ rfl (fun hb3 => ?_) (fun hb3 => ?_)
        · replace h1 := bif_t hb3 h1
          refine St.seq ?_
          refine St.region ?_
          refine St.p rfl rfl ?_
          refine St.done ?_
          refine St.thenN ?_
          refine St.prune (Γ' := [(2, _)]) ⟨rfl, trivial⟩ (.d .z) ?_
          refine St.ret ?_
          repeat (first | refine St.thenR ?_ | refine St.blkR ?_)
          injection h1 with h1
          subst h1
          have ho := hd1 _ rfl
          subst ho
          have h : some _ = some _ := h
          injection h with h
          subst h
          exact St.finR Try.results9 (.tmp rfl .nil) rfl [] ⟨rfl, rfl⟩ (fun _ w => (.z : Keep _ _).sat w)
        · replace h1 := bif_f hb3 h1
          refine St.skip ?_
          refine St.blkN ?_
          refine St.thenN ?_
          refine St.prune (Γ' := [(0, _), (3, _)]) ⟨rfl, rfl, trivial⟩ (.k .z) ?_
          refine St.region ?_
          iterate 3 refine St.p rfl rfl ?_
          refine St.done ?_
          injection h1 with h1
          subst h1
          refine St.thenN ?_
          exact St.again _ () hm1 trivial ⟨rfl, rfl, trivial⟩ (fun _ w => ((.k .z) : Keep _ _).sat w)
      · replace h1 := bif_f hb2 h1
        refine St.exit ?_
        repeat (first | refine St.thenX ?_ | refine St.blkMiss rfl ?_)
        refine St.blkHit ?_
        injection h1 with h1
        subst h1
        have ho := hd1 _ rfl
        subst ho
        refine St.thenN ?_
        exact St.hereI () () rfl trivial (fun _ w => ((.d .z) : Keep _ _).sat w)
    · rintro o2 e2 ho
      subst ho
      have h := unR h
      refine St.seq ?_
      refine St.region ?_
      refine St.p rfl rfl ?_
      refine St.done ?_
      refine St.thenN ?_
      refine St.ret ?_
      repeat (first | refine St.thenR ?_ | refine St.blkR ?_)
      injection h with h
      subst h
      exact St.finR Try.results9 (.tmp rfl .nil) rfl [] ⟨rfl, rfl⟩ (fun _ w => (.z : Keep _ _).sat w)

theorem ent10 : Ent Try.prog 10 := ⟨_, Try.func10, by kernel_rfl, by kernel_rfl⟩

noncomputable def m_made_Light (l_p0 : (List Int)) : Option Bool :=
  some (decide ((l_p0.length : Int) ≤ 600))

theorem c_made_Light {l_p0 : (List Int)} {A1 : Option Addr} {c1 : Nat} {r : Bool} (h : m_made_Light l_p0 = some r) :
    Fun Try.prog 10 [.slice A1 l_p0.length c1] [.ro (SlL ei64 A1 c1 l_p0)] (Val (.bool r)) := by
  unfold m_made_Light at h
  refine Fun.intro Try.func10 rfl rfl rfl fun w R => ?_
  refine St.seq ?_
  refine St.region ?_
  refine St.p rfl rfl ?_
  refine St.done ?_
  refine St.thenN ?_
  refine St.prune (Γ' := [(0, _)]) ⟨rfl, trivial⟩ (.k .z) ?_
  refine St.seq ?_
  refine St.region ?_
  iterate 4 refine St.p rfl rfl ?_
  refine St.done ?_
  refine St.thenN ?_
  refine St.prune (Γ' := [(2, _)]) ⟨rfl, trivial⟩ (.d .z) ?_
  refine St.ret ?_
  repeat (first | refine St.thenR ?_ | refine St.blkR ?_)
  injection h with h
  subst h
  exact St.finR Try.results10 (.tmp rfl .nil) rfl [] ⟨rfl, rfl⟩ (fun _ w => (.z : Keep _ _).sat w)

theorem ent21 : Ent Try.prog 21 := ⟨_, Try.func21, by kernel_rfl, by kernel_rfl⟩

noncomputable def m_law19_known (slot : Int) (serial : ByteArray) : Option T_Known :=
  some (⟨slot, true, serial, 0⟩ : T_Known)

theorem c_law19_known {slot : Int} {serial : ByteArray} {r : T_Known} (h : m_law19_known slot serial = some r) :
    Fun Try.prog 21 [.int .i64 slot, .string serial] [] (Val (.agg (bx_T_Known r).toArray)) := by
  unfold m_law19_known at h
  refine Fun.intro Try.func21 rfl rfl rfl fun w R => ?_
  refine St.seq ?_
  refine St.region ?_
  refine St.alloc rfl rfl fun g1 => ?_
  refine St.done ?_
  refine St.thenN ?_
  refine St.seq ?_
  refine St.region ?_
  iterate 3 refine St.p rfl rfl ?_
  refine St.store 0 rfl rfl rfl rfl rfl rfl .z rfl ?_
  refine St.done ?_
  refine St.thenN ?_
  refine St.prune (Γ' := [(4, _)]) ⟨rfl, trivial⟩ (.k .z) ?_
  refine St.ret ?_
  repeat (first | refine St.thenR ?_ | refine St.blkR ?_)
  injection h with h
  subst h
  exact St.finR Try.results21 (.cell rfl (.head _) rfl .nil) rfl [] ⟨rfl, rfl⟩ (fun _ w => ((.d .z) : Keep _ _).sat w)

theorem ent39 : Ent Try.prog 39 := ⟨_, Try.func39, by kernel_rfl, by kernel_rfl⟩

noncomputable def m_inventory_slotted (slot : Int) : Option Bool :=
  bnd ((bif decide (slot ≥ 0) then (some (decide (slot < 16))) else (some false) : Option Bool)) fun o1 => some o1

theorem c_inventory_slotted {slot : Int} {r : Bool} (h : m_inventory_slotted slot = some r) :
    Fun Try.prog 39 [.int .i64 slot] [] (Val (.bool r)) := by
  unfold m_inventory_slotted at h
  refine Fun.intro Try.func39 rfl rfl rfl fun w R => ?_
  refine St.seq ?_
  refine St.region ?_
  refine St.p rfl rfl ?_
  refine St.done ?_
  refine St.thenN ?_
  refine St.prune (Γ' := [(0, _)]) ⟨rfl, trivial⟩ .z ?_
  refine St.seq ?_
  obtain ⟨o1, hj1, h⟩ := bnd_e h
  refine St.cutE (fun (e1 : Unit) => [(2, .bool o1)]) (fun e1 => R) ?_ ?_
  · refine St.region ?_
    iterate 3 refine St.p rfl rfl ?_
    refine St.gSplit (dj := 5) _ rfl (fun hb1 => ?_) (fun hb1 => ?_)
    · replace hj1 := bif_t hb1 hj1
      refine St.gOn (dj := 5) rfl rfl ?_
      refine St.p rfl rfl ?_
      refine St.gOn (dj := 5) rfl rfl ?_
      iterate 3 refine St.p rfl rfl ?_
      refine St.done ?_
      injection hj1 with hj1
      subst hj1
      refine St.thenN ?_
      exact St.hereE () ⟨rfl, trivial⟩ (fun _ w => (.z : Keep _ _).sat w)
    · replace hj1 := bif_f hb1 hj1
      refine St.gOff (dj := 5) rfl rfl rfl rfl ?_
      refine St.gOff (dj := 5) rfl rfl rfl rfl ?_
      refine St.p rfl rfl ?_
      refine St.p rfl rfl ?_
      refine St.done ?_
      injection hj1 with hj1
      subst hj1
      refine St.thenN ?_
      exact St.hereE () ⟨rfl, trivial⟩ (fun _ w => (.z : Keep _ _).sat w)
  · rintro e1
    refine St.ret ?_
    repeat (first | refine St.thenR ?_ | refine St.blkR ?_)
    injection h with h
    subst h
    exact St.finR Try.results39 (.tmp rfl .nil) rfl [] ⟨rfl, rfl⟩ (fun _ w => (.z : Keep _ _).sat w)

theorem ent17 : Ent Try.prog 17 := ⟨_, Try.func17, by kernel_rfl, by kernel_rfl⟩

noncomputable def m_inventory_Valid (l_p0 : (List T_Known)) : Option Bool :=
  bnd (loopM (τ := Bool ⊕ Unit) (fun (s1 : Int) => bif decide (s1 < (l_p0.length : Int)) then (bnd (elt l_p0 s1) fun x1 => bnd ((bnd (m_inventory_slotted x1.Slot) fun r1 => bif !r1 then (some true) else (bif decide (s1 > 0) then (bnd (elt l_p0 (IntKind.wrap .i64 (s1 - 1))) fun x2 => bif decide (x1.Slot ≤ x2.Slot) then (some true) else (bif decide ((x1.Serial.size : Int) > 23) then (some true) else (bif !x1.Good then (some (!(x1.Serial.toList == ((⟨#[]⟩) : ByteArray).toList))) else (some false)))) else (bif decide ((x1.Serial.size : Int) > 23) then (some true) else (bif !x1.Good then (some (!(x1.Serial.toList == ((⟨#[]⟩) : ByteArray).toList))) else (some false)))) : Option Bool)) fun o3 => bif o3 then (some (.done (.inl false))) else (some (.next (IntKind.wrap .i64 (s1 + 1))))) else (some (.done (.inr ())))) 0) fun o1 => retOr o1 fun o2 => some true

set_option maxHeartbeats 4000000 in
theorem c_inventory_Valid {l_p0 : (List T_Known)} {A1 : Option Addr} {c1 : Nat} {r : Bool} (h : m_inventory_Valid l_p0 = some r) :
    Fun Try.prog 17 [.slice A1 l_p0.length c1] [.ro (SlL e_Known A1 c1 l_p0)] (Val (.bool r)) := by
  unfold m_inventory_Valid at h
  refine Fun.intro Try.func17 rfl rfl rfl fun w R => ?_
  refine St.seq ?_
  refine St.region ?_
  refine St.p rfl rfl ?_
  refine St.done ?_
  refine St.thenN ?_
  refine St.prune (Γ' := [(0, _)]) ⟨rfl, trivial⟩ (.k .z) ?_
  refine St.seq ?_
  refine St.seq ?_
  refine St.region ?_
  iterate 3 refine St.p rfl rfl ?_
  refine St.done ?_
  refine St.thenN ?_
  obtain ⟨o1, hl1, h⟩ := bnd_e h
  refine St.cutI (fun (o2 : Unit) (e2 : Unit) => []) (fun o2 e2 => R) (fun o2 => o1 = .inr o2) ?_ ?_
  · refine St.block ?_
    refine St.loop hl1 (fun (s1 : Int) (e1 : Unit) => [(0, .slice A1 l_p0.length c1), (5, .slice A1 l_p0.length c1), (6, .int .i64 (l_p0.length : Int)), (7, .int .i64 s1)]) (fun s1 e1 => .ro (SlL e_Known A1 c1 l_p0) :: R) (fun _ _ => True) () trivial ⟨rfl, rfl, rfl, rfl, trivial⟩ (fun _ w => ((.k .z) : Keep _ _).sat w) ?_
    rintro s1 e1 - hit1
    obtain ⟨st1, hm1, hd1⟩ := iter_e hit1
    have h1 := hm1
    refine St.seq ?_
    refine St.region ?_
    refine St.p rfl rfl ?_
    refine St.done ?_
    refine St.thenN ?_
    refine St.seq ?_
    refine St.cond _ rfl (fun hb1 => ?_) (fun hb1 => ?_)
    · replace h1 := bif_t hb1 h1
      refine St.skip ?_
      refine St.thenN ?_
      refine St.prune (Γ' := [(0, _), (5, _), (6, _), (7, _)]) ⟨rfl, rfl, rfl, rfl, trivial⟩ (.k .z) ?_
      refine St.seq ?_
      refine St.block ?_
      refine St.seq ?_
      refine St.region ?_
      refine St.p rfl rfl ?_
      obtain ⟨x1, hx1, h1⟩ := bnd_e h1
      refine St.ixL hx1 rfl rfl rfl (.head _) rfl rfl rfl rfl rfl fun b1 ob1 => ?_
      refine St.load ob1 0 rfl rfl (.head _) rfl rfl ?_
      refine St.alloc rfl rfl fun g1 => ?_
      refine St.p rfl rfl ?_
      refine St.store 0 rfl rfl rfl rfl rfl rfl .z rfl ?_
      refine St.done ?_
      refine St.thenN ?_
      refine St.prune (Γ' := [(0, _), (3, _), (4, _), (5, _), (6, _), (7, _)]) ⟨rfl, rfl, rfl, rfl, rfl, rfl, trivial⟩ (.k (.d (.k .z))) ?_
      refine St.seq ?_
      obtain ⟨o3, hj1, h1⟩ := bnd_e h1
      refine St.cutE (fun (e3 : Unit) => [(0, .slice A1 l_p0.length c1), (5, .slice A1 l_p0.length c1), (6, .int .i64 (l_p0.length : Int)), (7, .int .i64 s1), (46, .bool o3)]) (fun e3 => .ro (SlL e_Known A1 c1 l_p0) :: R) ?_ ?_
      · refine St.regionF mixed (by kernel_rfl) ?_
        refine St.p rfl rfl ?_
        refine St.loadB 0 rfl rfl (.head _) rfl rfl ?_
        obtain ⟨r1, hr1, hj1⟩ := bnd_e hj1
        refine St.callV (c_inventory_slotted hr1) ent39 rfl rfl rfl rfl trivial ?_
        refine St.p rfl rfl ?_
        refine St.p rfl rfl ?_
        refine St.gSplit (dj := 16) _ rfl (fun hb2 => ?_) (fun hb2 => ?_)
        · replace hj1 := bif_t hb2 hj1
          refine St.gOff (dj := 16) rfl rfl rfl rfl ?_
          refine St.gOff (dj := 16) rfl rfl rfl rfl ?_
          refine St.gOff (dj := 16) rfl rfl rfl rfl ?_
          refine St.gOff (dj := 19) rfl rfl rfl rfl ?_
          refine St.gOff (dj := 19) rfl rfl rfl rfl ?_
          refine St.gOff (dj := 19) rfl rfl rfl rfl ?_
          refine St.gOff (dj := 19) rfl rfl rfl rfl ?_
          refine St.gOff (dj := 19) rfl rfl rfl rfl ?_
          refine St.gOff (dj := 19) rfl rfl rfl rfl ?_
          refine St.gOff (dj := 19) rfl rfl rfl rfl ?_
          refine St.gOff (dj := 19) rfl rfl rfl rfl ?_
          refine St.gOff (dj := 19) rfl rfl rfl rfl ?_
          refine St.gOff (dj := 16) rfl rfl rfl rfl ?_
          refine St.p rfl rfl ?_
          refine St.p rfl rfl ?_
          refine St.gOff (dj := 31) rfl rfl rfl rfl ?_
          refine St.gOff (dj := 31) rfl rfl rfl rfl ?_
          refine St.gOff (dj := 31) rfl rfl rfl rfl ?_
          refine St.gOff (dj := 31) rfl rfl rfl rfl ?_
          refine St.p rfl rfl ?_
          refine St.p rfl rfl ?_
          refine St.gOff (dj := 37) rfl rfl rfl rfl ?_
          refine St.gOff (dj := 37) rfl rfl rfl rfl ?_
          refine St.gOff (dj := 37) rfl rfl rfl rfl ?_
          refine St.gOff (dj := 37) rfl rfl rfl rfl ?_
          refine St.gOff (dj := 41) rfl rfl rfl rfl ?_
          refine St.gOff (dj := 41) rfl rfl rfl rfl ?_
          refine St.gOff (dj := 41) rfl rfl rfl rfl ?_
          refine St.gOff (dj := 37) rfl rfl rfl rfl ?_
          refine St.p rfl rfl ?_
          refine St.doneQ ?_
          injection hj1 with hj1
          subst hj1
          refine St.thenN ?_
          exact St.hereE () ⟨rfl, rfl, rfl, rfl, rfl, trivial⟩ (fun _ w => ((.d (.k .z)) : Keep _ _).sat w)
        · replace hj1 := bif_f hb2 hj1
          refine St.gOn (dj := 16) rfl rfl ?_
          refine St.p rfl rfl ?_
          refine St.gOn (dj := 16) rfl rfl ?_
          refine St.p rfl rfl ?_
          refine St.gOn (dj := 16) rfl rfl ?_
          refine St.p rfl rfl ?_
          refine St.gSplit (dj := 19) _ rfl (fun hb3 => ?_) (fun hb3 => ?_)
          · replace hj1 := bif_t hb3 hj1
            refine St.gOn (dj := 19) rfl rfl ?_
            refine St.p rfl rfl ?_
            refine St.gOn (dj := 19) rfl rfl ?_
            refine St.loadB 0 rfl rfl (.head _) rfl rfl ?_
            refine St.gOn (dj := 19) rfl rfl ?_
            refine St.p rfl rfl ?_
            refine St.gOn (dj := 19) rfl rfl ?_
            refine St.p rfl rfl ?_
            refine St.gOn (dj := 19) rfl rfl ?_
            refine St.p rfl rfl ?_
            refine St.gOn (dj := 19) rfl rfl ?_
            obtain ⟨x2, hx2, hj1⟩ := bnd_e hj1
            refine St.ixL hx2 rfl rfl rfl (.tail _ (.head _)) rfl rfl rfl rfl rfl fun b2 ob2 => ?_
            refine St.gOn (dj := 19) rfl rfl ?_
            refine St.p rfl rfl ?_
            refine St.gOn (dj := 19) rfl rfl ?_
            refine St.load ob2 0 rfl rfl (.head _) rfl rfl ?_
            refine St.gOn (dj := 19) rfl rfl ?_
            refine St.p rfl rfl ?_
            refine St.gOn (dj := 16) rfl rfl ?_
            iterate 3 refine St.p rfl rfl ?_
            refine St.gSplit (dj := 31) _ rfl (fun hb4 => ?_) (fun hb4 => ?_)
            · replace hj1 := bif_t hb4 hj1
              refine St.gOff (dj := 31) rfl rfl rfl rfl ?_
              refine St.gOff (dj := 31) rfl rfl rfl rfl ?_
              refine St.gOff (dj := 31) rfl rfl rfl rfl ?_
              refine St.gOff (dj := 31) rfl rfl rfl rfl ?_
              refine St.p rfl rfl ?_
              refine St.p rfl rfl ?_
              refine St.gOff (dj := 37) rfl rfl rfl rfl ?_
              refine St.gOff (dj := 37) rfl rfl rfl rfl ?_
              refine St.gOff (dj := 37) rfl rfl rfl rfl ?_
              refine St.gOff (dj := 37) rfl rfl rfl rfl ?_
              refine St.gOff (dj := 41) rfl rfl rfl rfl ?_
              refine St.gOff (dj := 41) rfl rfl rfl rfl ?_
              refine St.gOff (dj := 41) rfl rfl rfl rfl ?_
              refine St.gOff (dj := 37) rfl rfl rfl rfl ?_
              refine St.p rfl rfl ?_
              refine St.doneQ ?_
              injection hj1 with hj1
              subst hj1
              refine St.thenN ?_
              exact St.hereE () ⟨rfl, rfl, rfl, rfl, rfl, trivial⟩ (fun _ w => ((.d (.d (.k .z))) : Keep _ _).sat w)
            · replace hj1 := bif_f hb4 hj1
              refine St.gOn (dj := 31) rfl rfl ?_
              refine St.p rfl rfl ?_
              refine St.gOn (dj := 31) rfl rfl ?_
              refine St.loadB 2 rfl rfl (.tail _ (.head _)) rfl rfl ?_
              refine St.gOn (dj := 31) rfl rfl ?_
              refine St.p rfl rfl ?_
              refine St.gOn (dj := 31) rfl rfl ?_
              iterate 3 refine St.p rfl rfl ?_
              refine St.gSplit (dj := 37) _ rfl (fun hb5 => ?_) (fun hb5 => ?_)
              · replace hj1 := bif_t hb5 hj1
                refine St.gOff (dj := 37) rfl rfl rfl rfl ?_
                refine St.gOff (dj := 37) rfl rfl rfl rfl ?_
                refine St.gOff (dj := 37) rfl rfl rfl rfl ?_
                refine St.gOff (dj := 37) rfl rfl rfl rfl ?_
                refine St.gOff (dj := 41) rfl rfl rfl rfl ?_
                refine St.gOff (dj := 41) rfl rfl rfl rfl ?_
                refine St.gOff (dj := 41) rfl rfl rfl rfl ?_
                refine St.gOff (dj := 37) rfl rfl rfl rfl ?_
                refine St.p rfl rfl ?_
                refine St.doneQ ?_
                injection hj1 with hj1
                subst hj1
                refine St.thenN ?_
                exact St.hereE () ⟨rfl, rfl, rfl, rfl, rfl, trivial⟩ (fun _ w => ((.d (.d (.k .z))) : Keep _ _).sat w)
              · replace hj1 := bif_f hb5 hj1
                refine St.gOn (dj := 37) rfl rfl ?_
                refine St.p rfl rfl ?_
                refine St.gOn (dj := 37) rfl rfl ?_
                refine St.loadB 1 rfl rfl (.tail _ (.head _)) rfl rfl ?_
                refine St.gOn (dj := 37) rfl rfl ?_
                refine St.p rfl rfl ?_
                refine St.gOn (dj := 37) rfl rfl ?_
                refine St.p rfl rfl ?_
                refine St.gSplit (dj := 41) _ rfl (fun hb6 => ?_) (fun hb6 => ?_)
                · replace hj1 := bif_t hb6 hj1
                  refine St.gOn (dj := 41) rfl rfl ?_
                  refine St.p rfl rfl ?_
                  refine St.gOn (dj := 41) rfl rfl ?_
                  refine St.loadB 2 rfl rfl (.tail _ (.head _)) rfl rfl ?_
                  refine St.gOn (dj := 41) rfl rfl ?_
                  refine St.p rfl rfl ?_
                  refine St.gOn (dj := 37) rfl rfl ?_
                  refine St.p rfl rfl ?_
                  refine St.p rfl rfl ?_
                  refine St.doneQ ?_
                  injection hj1 with hj1
                  subst hj1
                  refine St.thenN ?_
                  exact St.hereE () ⟨rfl, rfl, rfl, rfl, rfl, trivial⟩ (fun _ w => ((.d (.d (.k .z))) : Keep _ _).sat w)
                · replace hj1 := bif_f hb6 hj1
                  refine St.gOff (dj := 41) rfl rfl rfl rfl ?_
                  refine St.gOff (dj := 41) rfl rfl rfl rfl ?_
                  refine St.gOff (dj := 41) rfl rfl rfl rfl ?_
                  refine St.gOn (dj := 37) rfl rfl ?_
                  refine St.p rfl rfl ?_
                  refine St.p rfl rfl ?_
                  refine St.doneQ ?_
                  injection hj1 with hj1
                  subst hj1
                  refine St.thenN ?_
                  exact St.hereE () ⟨rfl, rfl, rfl, rfl, rfl, trivial⟩ (fun _ w => ((.d (.d (.k .z))) : Keep _ _).sat w)
          · replace hj1 := bif_f hb3 hj1
            refine St.gOff (dj := 19) rfl rfl rfl rfl ?_
            refine St.gOff (dj := 19) rfl rfl rfl rfl ?_
            refine St.gOff (dj := 19) rfl rfl rfl rfl ?_
            refine St.gOff (dj := 19) rfl rfl rfl rfl ?_
            refine St.gOff (dj := 19) rfl rfl rfl rfl ?_
            refine St.gOff (dj := 19) rfl rfl rfl rfl ?_
            refine St.gOff (dj := 19) rfl rfl rfl rfl ?_
            refine St.gOff (dj := 19) rfl rfl rfl rfl ?_
            refine St.gOff (dj := 19) rfl rfl rfl rfl ?_
            refine St.gOn (dj := 16) rfl rfl ?_
            iterate 3 refine St.p rfl rfl ?_
            refine St.gOn (dj := 31) rfl rfl ?_
            refine St.p rfl rfl ?_
            refine St.gOn (dj := 31) rfl rfl ?_
            refine St.loadB 2 rfl rfl (.head _) rfl rfl ?_
            refine St.gOn (dj := 31) rfl rfl ?_
            refine St.p rfl rfl ?_
            refine St.gOn (dj := 31) rfl rfl ?_
            iterate 3 refine St.p rfl rfl ?_
            refine St.gSplit (dj := 37) _ rfl (fun hb7 => ?_) (fun hb7 => ?_)
            · replace hj1 := bif_t hb7 hj1
              refine St.gOff (dj := 37) rfl rfl rfl rfl ?_
              refine St.gOff (dj := 37) rfl rfl rfl rfl ?_
              refine St.gOff (dj := 37) rfl rfl rfl rfl ?_
              refine St.gOff (dj := 37) rfl rfl rfl rfl ?_
              refine St.gOff (dj := 41) rfl rfl rfl rfl ?_
              refine St.gOff (dj := 41) rfl rfl rfl rfl ?_
              refine St.gOff (dj := 41) rfl rfl rfl rfl ?_
              refine St.gOff (dj := 37) rfl rfl rfl rfl ?_
              refine St.p rfl rfl ?_
              refine St.doneQ ?_
              injection hj1 with hj1
              subst hj1
              refine St.thenN ?_
              exact St.hereE () ⟨rfl, rfl, rfl, rfl, rfl, trivial⟩ (fun _ w => ((.d (.k .z)) : Keep _ _).sat w)
            · replace hj1 := bif_f hb7 hj1
              refine St.gOn (dj := 37) rfl rfl ?_
              refine St.p rfl rfl ?_
              refine St.gOn (dj := 37) rfl rfl ?_
              refine St.loadB 1 rfl rfl (.head _) rfl rfl ?_
              refine St.gOn (dj := 37) rfl rfl ?_
              refine St.p rfl rfl ?_
              refine St.gOn (dj := 37) rfl rfl ?_
              refine St.p rfl rfl ?_
              refine St.gSplit (dj := 41) _ rfl (fun hb8 => ?_) (fun hb8 => ?_)
              · replace hj1 := bif_t hb8 hj1
                refine St.gOn (dj := 41) rfl rfl ?_
                refine St.p rfl rfl ?_
                refine St.gOn (dj := 41) rfl rfl ?_
                refine St.loadB 2 rfl rfl (.head _) rfl rfl ?_
                refine St.gOn (dj := 41) rfl rfl ?_
                refine St.p rfl rfl ?_
                refine St.gOn (dj := 37) rfl rfl ?_
                refine St.p rfl rfl ?_
                refine St.p rfl rfl ?_
                refine St.doneQ ?_
                injection hj1 with hj1
                subst hj1
                refine St.thenN ?_
                exact St.hereE () ⟨rfl, rfl, rfl, rfl, rfl, trivial⟩ (fun _ w => ((.d (.k .z)) : Keep _ _).sat w)
              · replace hj1 := bif_f hb8 hj1
                refine St.gOff (dj := 41) rfl rfl rfl rfl ?_
                refine St.gOff (dj := 41) rfl rfl rfl rfl ?_
                refine St.gOff (dj := 41) rfl rfl rfl rfl ?_
                refine St.gOn (dj := 37) rfl rfl ?_
                refine St.p rfl rfl ?_
                refine St.p rfl rfl ?_
                refine St.doneQ ?_
                injection hj1 with hj1
                subst hj1
                refine St.thenN ?_
                exact St.hereE () ⟨rfl, rfl, rfl, rfl, rfl, trivial⟩ (fun _ w => ((.d (.k .z)) : Keep _ _).sat w)
      · rintro e3
        refine St.cond _ rfl (fun hb9 => ?_) (fun hb9 => ?_)
        · replace h1 := bif_t hb9 h1
          refine St.seq ?_
          refine St.region ?_
          refine St.p rfl rfl ?_
          refine St.done ?_
          refine St.thenN ?_
          refine St.prune (Γ' := [(2, _)]) ⟨rfl, trivial⟩ (.d .z) ?_
          refine St.ret ?_
          repeat (first | refine St.thenR ?_ | refine St.blkR ?_)
          injection h1 with h1
          subst h1
          have ho := hd1 _ rfl
          subst ho
          have h : some _ = some _ := h
          injection h with h
          subst h
          exact St.finR Try.results17 (.tmp rfl .nil) rfl [] ⟨rfl, rfl⟩ (fun _ w => (.z : Keep _ _).sat w)
        · replace h1 := bif_f hb9 h1
          refine St.skip ?_
          refine St.blkN ?_
          refine St.thenN ?_
          refine St.prune (Γ' := [(0, _), (5, _), (6, _), (7, _)]) ⟨rfl, rfl, rfl, rfl, trivial⟩ (.k .z) ?_
          refine St.region ?_
          refine St.p rfl rfl ?_
          refine St.p rfl rfl ?_
          refine St.done ?_
          injection h1 with h1
          subst h1
          refine St.thenN ?_
          exact St.again _ () hm1 trivial ⟨rfl, rfl, rfl, rfl, trivial⟩ (fun _ w => ((.k .z) : Keep _ _).sat w)
    · replace h1 := bif_f hb1 h1
      refine St.exit ?_
      repeat (first | refine St.thenX ?_ | refine St.blkMiss rfl ?_)
      refine St.blkHit ?_
      injection h1 with h1
      subst h1
      have ho := hd1 _ rfl
      subst ho
      refine St.thenN ?_
      exact St.hereI () () rfl trivial (fun _ w => ((.d .z) : Keep _ _).sat w)
  · rintro o2 e2 ho
    subst ho
    have h := unR h
    refine St.seq ?_
    refine St.region ?_
    refine St.p rfl rfl ?_
    refine St.done ?_
    refine St.thenN ?_
    refine St.ret ?_
    repeat (first | refine St.thenR ?_ | refine St.blkR ?_)
    injection h with h
    subst h
    exact St.finR Try.results17 (.tmp rfl .nil) rfl [] ⟨rfl, rfl⟩ (fun _ w => (.z : Keep _ _).sat w)

theorem ent48 : Ent Try.prog 48 := ⟨_, Try.func48, by kernel_rfl, by kernel_rfl⟩

noncomputable def m_inventory_identified (l_p0 : (List T_Known)) : Option (List (ByteArray × Int)) :=
  bnd (loopM (τ := (List (ByteArray × Int))) (fun (s1 : Int × (List (ByteArray × Int))) => bif decide (s1.1 < (l_p0.length : Int)) then (bnd (elt l_p0 s1.1) fun x1 => some (.next (IntKind.wrap .i64 (s1.1 + 1), mset kstr.eq s1.2 x1.Serial (IntKind.wrap .i64 (((mget kstr.eq s1.2 x1.Serial).getD 0) + 1))))) else (some (.done s1.2))) (0, [])) fun o1 => bnd (loopM (τ := (List (ByteArray × Int))) (fun (s2 : Int × (List (ByteArray × Int))) => bif decide (s2.1 < (l_p0.length : Int)) then (bnd (elt l_p0 s2.1) fun x2 => bnd ((bif !(x2.Serial.toList == ((⟨#[]⟩) : ByteArray).toList) then (some (((mget kstr.eq o1 x2.Serial).getD 0) == 1)) else (some false) : Option Bool)) fun o3 => bif o3 then (some (.next (IntKind.wrap .i64 (s2.1 + 1), mset kstr.eq s2.2 x2.Serial x2.Slot))) else (some (.next (IntKind.wrap .i64 (s2.1 + 1), s2.2)))) else (some (.done s2.2))) (0, [])) fun o2 => some o2

theorem c_inventory_identified {l_p0 : (List T_Known)} {A1 : Option Addr} {c1 : Nat} {r : (List (ByteArray × Int))} (h : m_inventory_identified l_p0 = some r) :
    Fun Try.prog 48 [.slice A1 l_p0.length c1] [.ro (SlL e_Known A1 c1 l_p0)] (fun v_ F_ => ∃ (g1 : Nat), v_ = .map (some g1) ∧ F_ = [.res (MapB kstr (fun x => .int .i64 x) g1 r)]) := by
  unfold m_inventory_identified at h
  refine Fun.intro Try.func48 rfl rfl rfl fun w R => ?_
  refine St.seq ?_
  refine St.region ?_
  refine St.p rfl rfl ?_
  refine St.done ?_
  refine St.thenN ?_
  refine St.prune (Γ' := [(0, _)]) ⟨rfl, trivial⟩ (.k .z) ?_
  refine St.seq ?_
  refine St.region ?_
  refine St.makeMap (K := kstr) (vv := (fun x => .int .i64 x)) rfl fun g1 => ?_
  refine St.p rfl rfl ?_
  refine St.done ?_
  refine St.thenN ?_
  refine St.prune (Γ' := [(0, _), (3, _)]) ⟨rfl, rfl, trivial⟩ (.k (.k .z)) ?_
  refine St.seq ?_
  refine St.seq ?_
  refine St.region ?_
  iterate 3 refine St.p rfl rfl ?_
  refine St.done ?_
  refine St.thenN ?_
  obtain ⟨o1, hl1, h⟩ := bnd_e h
  refine St.cutE (fun (e2 : Unit) => [(0, .slice A1 l_p0.length c1), (3, .map (some g1))]) (fun e2 => .res (MapB kstr (fun x => .int .i64 x) g1 o1) :: .ro (SlL e_Known A1 c1 l_p0) :: R) ?_ ?_
  · refine St.block ?_
    refine St.loop hl1 (fun (s1 : Int × (List (ByteArray × Int))) (e1 : Unit) => [(0, .slice A1 l_p0.length c1), (3, .map (some g1)), (10, .slice A1 l_p0.length c1), (11, .int .i64 (l_p0.length : Int)), (12, .int .i64 s1.1)]) (fun s1 e1 => .res (MapB kstr (fun x => .int .i64 x) g1 s1.2) :: .ro (SlL e_Known A1 c1 l_p0) :: R) (fun _ _ => True) () trivial ⟨rfl, rfl, rfl, rfl, rfl, trivial⟩ (fun _ w => ((.k (.k .z)) : Keep _ _).sat w) ?_
    rintro s1 e1 - hit1
    obtain ⟨st1, hm1, hd1⟩ := iter_e hit1
    have h1 := hm1
    refine St.seq ?_
    refine St.region ?_
    refine St.p rfl rfl ?_
    refine St.done ?_
    refine St.thenN ?_
    refine St.seq ?_
    refine St.cond _ rfl (fun hb1 => ?_) (fun hb1 => ?_)
    · replace h1 := bif_t hb1 h1
      refine St.skip ?_
      refine St.thenN ?_
      refine St.prune (Γ' := [(0, _), (3, _), (10, _), (11, _), (12, _)]) ⟨rfl, rfl, rfl, rfl, rfl, trivial⟩ (.k (.k .z)) ?_
      refine St.seq ?_
      refine St.block ?_
      refine St.seq ?_
      refine St.region ?_
      obtain ⟨x1, hx1, h1⟩ := bnd_e h1
      refine St.ixL hx1 rfl rfl rfl (.tail _ (.head _)) rfl rfl rfl rfl rfl fun b1 ob1 => ?_
      refine St.load ob1 0 rfl rfl (.head _) rfl rfl ?_
      refine St.alloc rfl rfl fun g2 => ?_
      refine St.store 0 rfl rfl rfl rfl rfl rfl .z rfl ?_
      refine St.done ?_
      refine St.thenN ?_
      refine St.prune (Γ' := [(0, _), (3, _), (5, _), (10, _), (11, _), (12, _)]) ⟨rfl, rfl, rfl, rfl, rfl, rfl, trivial⟩ (.k (.d (.k (.k .z)))) ?_
      refine St.region ?_
      refine St.p rfl rfl ?_
      refine St.p rfl rfl ?_
      refine St.loadB 2 rfl rfl (.head _) rfl rfl ?_
      refine St.lookup (K := kstr) (vv := (fun x => .int .i64 x)) (u := .int .i64 ((mget kstr.eq s1.2 x1.Serial).getD 0)) 0 x1.Serial rfl rfl rfl (.tail _ (.head _)) rfl rfl rfl rfl rfl rfl rfl ?_
      refine St.p rfl rfl ?_
      refine St.mapUpdate (K := kstr) (vv := (fun x => .int .i64 x)) x1.Serial (IntKind.wrap .i64 (((mget kstr.eq s1.2 x1.Serial).getD 0) + 1)) rfl rfl rfl (.s .z) rfl rfl rfl rfl ?_
      refine St.done ?_
      refine St.blkN ?_
      refine St.thenN ?_
      refine St.prune (Γ' := [(0, _), (3, _), (10, _), (11, _), (12, _)]) ⟨rfl, rfl, rfl, rfl, rfl, trivial⟩ (.k (.d (.k .z))) ?_
      refine St.region ?_
      refine St.p rfl rfl ?_
      refine St.p rfl rfl ?_
      refine St.done ?_
      injection h1 with h1
      subst h1
      refine St.thenN ?_
      exact St.again _ () hm1 trivial ⟨rfl, rfl, rfl, rfl, rfl, trivial⟩ (fun _ w => ((.k (.k .z)) : Keep _ _).sat w)
    · replace h1 := bif_f hb1 h1
      refine St.exit ?_
      repeat (first | refine St.thenX ?_ | refine St.blkMiss rfl ?_)
      refine St.blkHit ?_
      injection h1 with h1
      subst h1
      have ho := hd1 _ rfl
      subst ho
      refine St.thenN ?_
      exact St.hereE () ⟨rfl, rfl, trivial⟩ (fun _ w => ((.k (.k .z)) : Keep _ _).sat w)
  · rintro e2
    refine St.seq ?_
    refine St.region ?_
    refine St.makeMap (K := kstr) (vv := (fun x => .int .i64 x)) rfl fun g3 => ?_
    refine St.p rfl rfl ?_
    refine St.done ?_
    refine St.thenN ?_
    refine St.prune (Γ' := [(0, _), (3, _), (6, _)]) ⟨rfl, rfl, rfl, trivial⟩ (.k (.k (.k .z))) ?_
    refine St.seq ?_
    refine St.seq ?_
    refine St.region ?_
    iterate 3 refine St.p rfl rfl ?_
    refine St.done ?_
    refine St.thenN ?_
    refine St.prune (Γ' := [(3, _), (6, _), (23, _), (24, _), (25, _)]) ⟨rfl, rfl, rfl, rfl, rfl, trivial⟩ (.k (.k (.k .z))) ?_
    obtain ⟨o2, hl2, h⟩ := bnd_e h
    refine St.cutE (fun (e4 : Unit) => [(6, .map (some g3))]) (fun e4 => .res (MapB kstr (fun x => .int .i64 x) g3 o2) :: R) ?_ ?_
    · refine St.block ?_
      refine St.loop hl2 (fun (s2 : Int × (List (ByteArray × Int))) (e3 : Unit) => [(3, .map (some g1)), (6, .map (some g3)), (23, .slice A1 l_p0.length c1), (24, .int .i64 (l_p0.length : Int)), (25, .int .i64 s2.1)]) (fun s2 e3 => .res (MapB kstr (fun x => .int .i64 x) g3 s2.2) :: .res (MapB kstr (fun x => .int .i64 x) g1 o1) :: .ro (SlL e_Known A1 c1 l_p0) :: R) (fun _ _ => True) () trivial ⟨rfl, rfl, rfl, rfl, rfl, trivial⟩ (fun _ w => ((.k (.k (.k .z))) : Keep _ _).sat w) ?_
      rintro s2 e3 - hit2
      obtain ⟨st2, hm2, hd2⟩ := iter_e hit2
      have h2 := hm2
      refine St.seq ?_
      refine St.region ?_
      refine St.p rfl rfl ?_
      refine St.done ?_
      refine St.thenN ?_
      refine St.seq ?_
      refine St.cond _ rfl (fun hb2 => ?_) (fun hb2 => ?_)
      · replace h2 := bif_t hb2 h2
        refine St.skip ?_
        refine St.thenN ?_
        refine St.prune (Γ' := [(3, _), (6, _), (23, _), (24, _), (25, _)]) ⟨rfl, rfl, rfl, rfl, rfl, trivial⟩ (.k (.k (.k .z))) ?_
        refine St.seq ?_
        refine St.block ?_
        refine St.seq ?_
        refine St.region ?_
        obtain ⟨x2, hx2, h2⟩ := bnd_e h2
        refine St.ixL hx2 rfl rfl rfl (.tail _ (.tail _ (.head _))) rfl rfl rfl rfl rfl fun b2 ob2 => ?_
        refine St.load ob2 0 rfl rfl (.head _) rfl rfl ?_
        refine St.alloc rfl rfl fun g4 => ?_
        refine St.store 0 rfl rfl rfl rfl rfl rfl .z rfl ?_
        refine St.done ?_
        refine St.thenN ?_
        refine St.prune (Γ' := [(3, _), (6, _), (8, _), (23, _), (24, _), (25, _)]) ⟨rfl, rfl, rfl, rfl, rfl, rfl, trivial⟩ (.k (.d (.k (.k (.k .z))))) ?_
        refine St.seq ?_
        obtain ⟨o3, hj1, h2⟩ := bnd_e h2
        refine St.cutE (fun (e5 : Unit) => [(3, .map (some g1)), (6, .map (some g3)), (8, .pointer (some ⟨g4, 0, none⟩)), (23, .slice A1 l_p0.length c1), (24, .int .i64 (l_p0.length : Int)), (25, .int .i64 s2.1), (38, .bool o3)]) (fun e5 => .res (Box g4 45 (bx_T_Known x2)) :: .res (MapB kstr (fun x => .int .i64 x) g3 s2.2) :: .res (MapB kstr (fun x => .int .i64 x) g1 o1) :: .ro (SlL e_Known A1 c1 l_p0) :: R) ?_ ?_
        · refine St.region ?_
          refine St.p rfl rfl ?_
          refine St.loadB 2 rfl rfl (.head _) rfl rfl ?_
          refine St.p rfl rfl ?_
          refine St.p rfl rfl ?_
          refine St.gSplit (dj := 32) _ rfl (fun hb3 => ?_) (fun hb3 => ?_)
          · replace hj1 := bif_t hb3 hj1
            refine St.gOn (dj := 32) rfl rfl ?_
            refine St.p rfl rfl ?_
            refine St.gOn (dj := 32) rfl rfl ?_
            refine St.p rfl rfl ?_
            refine St.gOn (dj := 32) rfl rfl ?_
            refine St.loadB 2 rfl rfl (.head _) rfl rfl ?_
            refine St.gOn (dj := 32) rfl rfl ?_
            refine St.lookup (K := kstr) (vv := (fun x => .int .i64 x)) (u := .int .i64 ((mget kstr.eq o1 x2.Serial).getD 0)) 0 x2.Serial rfl rfl rfl (.tail _ (.tail _ (.head _))) rfl rfl rfl rfl rfl rfl rfl ?_
            refine St.gOn (dj := 32) rfl rfl ?_
            refine St.p rfl rfl ?_
            refine St.p rfl rfl ?_
            refine St.done ?_
            injection hj1 with hj1
            subst hj1
            refine St.thenN ?_
            exact St.hereE () ⟨rfl, rfl, rfl, rfl, rfl, rfl, rfl, trivial⟩ (fun _ w => ((.k (.k (.k (.k .z)))) : Keep _ _).sat w)
          · replace hj1 := bif_f hb3 hj1
            refine St.gOff (dj := 32) rfl rfl rfl rfl ?_
            refine St.gOff (dj := 32) rfl rfl rfl rfl ?_
            refine St.gOff (dj := 32) rfl rfl rfl rfl ?_
            refine St.gOff (dj := 32) rfl rfl rfl rfl ?_
            refine St.gOff (dj := 32) rfl rfl rfl rfl ?_
            refine St.p rfl rfl ?_
            refine St.done ?_
            injection hj1 with hj1
            subst hj1
            refine St.thenN ?_
            exact St.hereE () ⟨rfl, rfl, rfl, rfl, rfl, rfl, rfl, trivial⟩ (fun _ w => ((.k (.k (.k (.k .z)))) : Keep _ _).sat w)
        · rintro e5
          refine St.cond _ rfl (fun hb4 => ?_) (fun hb4 => ?_)
          · replace h2 := bif_t hb4 h2
            refine St.region ?_
            refine St.p rfl rfl ?_
            refine St.p rfl rfl ?_
            refine St.loadB 2 rfl rfl (.head _) rfl rfl ?_
            refine St.p rfl rfl ?_
            refine St.loadB 0 rfl rfl (.head _) rfl rfl ?_
            refine St.mapUpdate (K := kstr) (vv := (fun x => .int .i64 x)) x2.Serial x2.Slot rfl rfl rfl (.s .z) rfl rfl rfl rfl ?_
            refine St.done ?_
            refine St.blkN ?_
            refine St.thenN ?_
            refine St.prune (Γ' := [(3, _), (6, _), (23, _), (24, _), (25, _)]) ⟨rfl, rfl, rfl, rfl, rfl, trivial⟩ (.k (.d (.k (.k .z)))) ?_
            refine St.region ?_
            refine St.p rfl rfl ?_
            refine St.p rfl rfl ?_
            refine St.done ?_
            injection h2 with h2
            subst h2
            refine St.thenN ?_
            exact St.again _ () hm2 trivial ⟨rfl, rfl, rfl, rfl, rfl, trivial⟩ (fun _ w => ((.k (.k (.k .z))) : Keep _ _).sat w)
          · replace h2 := bif_f hb4 h2
            refine St.skip ?_
            refine St.blkN ?_
            refine St.thenN ?_
            refine St.prune (Γ' := [(3, _), (6, _), (23, _), (24, _), (25, _)]) ⟨rfl, rfl, rfl, rfl, rfl, trivial⟩ (.d (.k (.k (.k .z)))) ?_
            refine St.region ?_
            refine St.p rfl rfl ?_
            refine St.p rfl rfl ?_
            refine St.done ?_
            injection h2 with h2
            subst h2
            refine St.thenN ?_
            exact St.again _ () hm2 trivial ⟨rfl, rfl, rfl, rfl, rfl, trivial⟩ (fun _ w => ((.k (.k (.k .z))) : Keep _ _).sat w)
      · replace h2 := bif_f hb2 h2
        refine St.exit ?_
        repeat (first | refine St.thenX ?_ | refine St.blkMiss rfl ?_)
        refine St.blkHit ?_
        injection h2 with h2
        subst h2
        have ho := hd2 _ rfl
        subst ho
        refine St.thenN ?_
        exact St.hereE () ⟨rfl, trivial⟩ (fun _ w => ((.k (.d (.d .z))) : Keep _ _).sat w)
    · rintro e4
      refine St.seq ?_
      refine St.region ?_
      refine St.p rfl rfl ?_
      refine St.p rfl rfl ?_
      refine St.done ?_
      refine St.thenN ?_
      refine St.prune (Γ' := [(2, _)]) ⟨rfl, trivial⟩ (.k .z) ?_
      refine St.ret ?_
      repeat (first | refine St.thenR ?_ | refine St.blkR ?_)
      injection h with h
      subst h
      exact St.finR Try.results48 (.tmp rfl .nil) rfl [.res (MapB kstr (fun x => .int .i64 x) g3 o2)] ⟨g3, rfl, rfl⟩ (fun _ w => ((.k .z) : Keep _ _).sat w)

theorem ent52 : Ent Try.prog 52 := ⟨_, Try.func52, by kernel_rfl, by kernel_rfl⟩

noncomputable def m_inventory_at_1 (k_p0 : T_Known) (cap0 : Int) : Option Bool :=
  some (k_p0.Slot == cap0)

theorem c_inventory_at_1 {k_p0 : T_Known} {cap0 : Int} {gb1 : Nat} {r : Bool} (h : m_inventory_at_1 k_p0 cap0 = some r) :
    Fun Try.prog 52 [.agg (bx_T_Known k_p0).toArray, .pointer (some ⟨gb1, 0, none⟩)] [.res (Box gb1 3 [.int .i64 cap0])] (fun v_ F_ => v_ = .bool r ∧ F_ = [.res (Box gb1 3 [.int .i64 cap0])]) := by
  unfold m_inventory_at_1 at h
  refine Fun.intro Try.func52 rfl rfl rfl fun w R => ?_
  refine St.seq ?_
  refine St.region ?_
  refine St.box rfl rfl fun g1 => ?_
  refine St.p rfl rfl ?_
  refine St.done ?_
  refine St.thenN ?_
  refine St.prune (Γ' := [(1, _), (2, _)]) ⟨rfl, rfl, trivial⟩ (.k (.k .z)) ?_
  refine St.seq ?_
  refine St.region ?_
  refine St.p rfl rfl ?_
  refine St.loadB 0 rfl rfl (.head _) rfl rfl ?_
  refine St.loadB 0 rfl rfl (.tail _ (.head _)) rfl rfl ?_
  refine St.p rfl rfl ?_
  refine St.p rfl rfl ?_
  refine St.done ?_
  refine St.thenN ?_
  refine St.prune (Γ' := [(3, _)]) ⟨rfl, trivial⟩ (.d (.k .z)) ?_
  refine St.ret ?_
  repeat (first | refine St.thenR ?_ | refine St.blkR ?_)
  injection h with h
  subst h
  exact St.finR Try.results52 (.tmp rfl .nil) rfl [.res (Box gb1 3 [.int .i64 cap0])] ⟨rfl, rfl⟩ (fun _ w => ((.k .z) : Keep _ _).sat w)

theorem ent51 : Ent Try.prog 51 := ⟨_, Try.func51, by kernel_rfl, by kernel_rfl⟩

noncomputable def m_slices_IndexFunc__api_Known_api_Known_f52 (s_p0 : (List T_Known)) (f_p1_c0 : Int) : Option Int :=
  bnd (loopM (τ := Int ⊕ Unit) (fun (s1 : Int) => bif decide (s1 < (s_p0.length : Int)) then (bnd (elt s_p0 s1) fun x1 => bnd (m_inventory_at_1 x1 f_p1_c0) fun r1 => bif r1 then (some (.done (.inl s1))) else (some (.next (IntKind.wrap .i64 (s1 + 1))))) else (some (.done (.inr ())))) 0) fun o1 => retOr o1 fun o2 => some (-1)

theorem c_slices_IndexFunc__api_Known_api_Known_f52 {s_p0 : (List T_Known)} {f_p1_c0 : Int} {A1 : Option Addr} {c1 : Nat} {gb1 : Nat} {r : Int} (h : m_slices_IndexFunc__api_Known_api_Known_f52 s_p0 f_p1_c0 = some r) :
    Fun Try.prog 51 [.slice A1 s_p0.length c1, .func (.func 52) #[] #[.pointer (some ⟨gb1, 0, none⟩)]] [.ro (SlL e_Known A1 c1 s_p0), .res (Box gb1 3 [.int .i64 f_p1_c0])] (fun v_ F_ => v_ = .int .i64 r ∧ F_ = [.res (Box gb1 3 [.int .i64 f_p1_c0])]) := by
  unfold m_slices_IndexFunc__api_Known_api_Known_f52 at h
  refine Fun.intro Try.func51 rfl rfl rfl fun w R => ?_
  refine St.seq ?_
  refine St.region ?_
  refine St.p rfl rfl ?_
  refine St.done ?_
  refine St.thenN ?_
  refine St.prune (Γ' := [(0, _), (1, _)]) ⟨rfl, rfl, trivial⟩ (.k (.k .z)) ?_
  refine St.seq ?_
  refine St.seq ?_
  refine St.region ?_
  iterate 3 refine St.p rfl rfl ?_
  refine St.done ?_
  refine St.thenN ?_
  refine St.prune (Γ' := [(0, _), (1, _), (7, _), (8, _)]) ⟨rfl, rfl, rfl, rfl, trivial⟩ (.k (.k .z)) ?_
  obtain ⟨o1, hl1, h⟩ := bnd_e h
  refine St.cutI (fun (o2 : Unit) (e2 : Unit) => []) (fun o2 e2 => .res (Box gb1 3 [.int .i64 f_p1_c0]) :: R) (fun o2 => o1 = .inr o2) ?_ ?_
  · refine St.block ?_
    refine St.loop hl1 (fun (s1 : Int) (e1 : Unit) => [(0, .slice A1 s_p0.length c1), (1, .func (.func 52) #[] #[.pointer (some ⟨gb1, 0, none⟩)]), (7, .int .i64 (s_p0.length : Int)), (8, .int .i64 s1)]) (fun s1 e1 => .ro (SlL e_Known A1 c1 s_p0) :: .res (Box gb1 3 [.int .i64 f_p1_c0]) :: R) (fun _ _ => True) () trivial ⟨rfl, rfl, rfl, rfl, trivial⟩ (fun _ w => ((.k (.k .z)) : Keep _ _).sat w) ?_
    rintro s1 e1 - hit1
    obtain ⟨st1, hm1, hd1⟩ := iter_e hit1
    have h1 := hm1
    refine St.seq ?_
    refine St.region ?_
    refine St.p rfl rfl ?_
    refine St.done ?_
    refine St.thenN ?_
    refine St.seq ?_
    refine St.cond _ rfl (fun hb1 => ?_) (fun hb1 => ?_)
    · replace h1 := bif_t hb1 h1
      refine St.skip ?_
      refine St.thenN ?_
      refine St.prune (Γ' := [(0, _), (1, _), (7, _), (8, _)]) ⟨rfl, rfl, rfl, rfl, trivial⟩ (.k (.k .z)) ?_
      refine St.seq ?_
      refine St.block ?_
      refine St.seq ?_
      refine St.region ?_
      refine St.p rfl rfl ?_
      refine St.p rfl rfl ?_
      refine St.done ?_
      refine St.thenN ?_
      refine St.prune (Γ' := [(0, _), (1, _), (5, _), (7, _), (8, _)]) ⟨rfl, rfl, rfl, rfl, rfl, trivial⟩ (.k (.k .z)) ?_
      refine St.seq ?_
      refine St.region ?_
      iterate 3 refine St.p rfl rfl ?_
      obtain ⟨x1, hx1, h1⟩ := bnd_e h1
      refine St.ixL hx1 rfl rfl rfl (.head _) rfl rfl rfl rfl rfl fun b1 ob1 => ?_
      refine St.load ob1 0 rfl rfl (.head _) rfl rfl ?_
      obtain ⟨r1, hr1, h1⟩ := bnd_e h1
      refine St.callC (args := [.agg (bx_T_Known x1).toArray]) (us := [.pointer (some ⟨gb1, 0, none⟩)]) (c_inventory_at_1 hr1) ent52 rfl rfl rfl (fun _ w => (w.front (.s (.s .z)))) ?_
      rintro _ _ ⟨rfl, rfl⟩
      refine St.asrt (F' := .res (Box gb1 3 [.int .i64 f_p1_c0]) :: .ro (Cells b1 ob1 (bx_T_Known x1)) :: .ro (SlL e_Known A1 c1 s_p0) :: R) (fun _ w => w) ?_
      refine St.done ?_
      refine St.thenN ?_
      refine St.prune (Γ' := [(0, _), (1, _), (5, _), (7, _), (8, _), (16, _)]) ⟨rfl, rfl, rfl, rfl, rfl, rfl, trivial⟩ (.k (.d (.k .z))) ?_
      refine St.cond _ rfl (fun hb2 => ?_) (fun hb2 => ?_)
      · replace h1 := bif_t hb2 h1
        refine St.seq ?_
        refine St.region ?_
        refine St.p rfl rfl ?_
        refine St.p rfl rfl ?_
        refine St.done ?_
        refine St.thenN ?_
        refine St.prune (Γ' := [(4, _)]) ⟨rfl, trivial⟩ (.k (.d .z)) ?_
        refine St.ret ?_
        repeat (first | refine St.thenR ?_ | refine St.blkR ?_)
        injection h1 with h1
        subst h1
        have ho := hd1 _ rfl
        subst ho
        have h : some _ = some _ := h
        injection h with h
        subst h
        exact St.finR Try.results51 (.tmp rfl .nil) rfl [.res (Box gb1 3 [.int .i64 f_p1_c0])] ⟨rfl, rfl⟩ (fun _ w => ((.k .z) : Keep _ _).sat w)
      · replace h1 := bif_f hb2 h1
        refine St.skip ?_
        refine St.blkN ?_
        refine St.thenN ?_
        refine St.prune (Γ' := [(0, _), (1, _), (7, _), (8, _)]) ⟨rfl, rfl, rfl, rfl, trivial⟩ (.k (.k .z)) ?_
        refine St.region ?_
        refine St.p rfl rfl ?_
        refine St.p rfl rfl ?_
        refine St.done ?_
        injection h1 with h1
        subst h1
        refine St.thenN ?_
        exact St.again _ () hm1 trivial ⟨rfl, rfl, rfl, rfl, trivial⟩ (fun _ w => ((.k (.k .z)) : Keep _ _).sat ((w.front .z).front (.s .z)))
    · replace h1 := bif_f hb1 h1
      refine St.exit ?_
      repeat (first | refine St.thenX ?_ | refine St.blkMiss rfl ?_)
      refine St.blkHit ?_
      injection h1 with h1
      subst h1
      have ho := hd1 _ rfl
      subst ho
      refine St.thenN ?_
      exact St.hereI () () rfl trivial (fun _ w => ((.d (.k .z)) : Keep _ _).sat w)
  · rintro o2 e2 ho
    subst ho
    have h := unR h
    refine St.seq ?_
    refine St.region ?_
    refine St.p rfl rfl ?_
    refine St.done ?_
    refine St.thenN ?_
    refine St.ret ?_
    repeat (first | refine St.thenR ?_ | refine St.blkR ?_)
    injection h with h
    subst h
    exact St.finR Try.results51 (.tmp rfl .nil) rfl [.res (Box gb1 3 [.int .i64 f_p1_c0])] ⟨rfl, rfl⟩ (fun _ w => ((.k .z) : Keep _ _).sat w)

theorem ent45 : Ent Try.prog 45 := ⟨_, Try.func45, by kernel_rfl, by kernel_rfl⟩

noncomputable def m_inventory_at (l_p0 : (List T_Known)) (slot : Int) : Option (T_Known × Bool) :=
  bnd (m_slices_IndexFunc__api_Known_api_Known_f52 l_p0 slot) fun r1 => bif decide (r1 < 0) then (some ((⟨0, false, ⟨#[]⟩, 0⟩ : T_Known), false)) else (bnd (elt l_p0 r1) fun x1 => some (x1, true))

theorem c_inventory_at {l_p0 : (List T_Known)} {slot : Int} {A1 : Option Addr} {c1 : Nat} {r : (T_Known × Bool)} (h : m_inventory_at l_p0 slot = some r) :
    Fun Try.prog 45 [.slice A1 l_p0.length c1, .int .i64 slot] [.ro (SlL e_Known A1 c1 l_p0)] (Val (.tuple #[.agg (bx_T_Known r.1).toArray, .bool r.2])) := by
  unfold m_inventory_at at h
  refine Fun.intro Try.func45 rfl rfl rfl fun w R => ?_
  refine St.seq ?_
  refine St.region ?_
  refine St.box rfl rfl fun g1 => ?_
  refine St.alloc rfl rfl fun g2 => ?_
  refine St.p rfl rfl ?_
  refine St.done ?_
  refine St.thenN ?_
  refine St.prune (Γ' := [(0, _), (3, _), (4, _)]) ⟨rfl, rfl, rfl, trivial⟩ (.k (.k (.k .z))) ?_
  refine St.seq ?_
  refine St.region ?_
  refine St.p rfl rfl ?_
  refine St.p rfl rfl ?_
  obtain ⟨r1, hr1, h⟩ := bnd_e h
  refine St.call (c_slices_IndexFunc__api_Known_api_Known_f52 hr1) ent51 rfl rfl rfl (fun _ w => Sat.dup (G := [.ro (SlL e_Known A1 c1 l_p0)]) rfl ⟨(.tail _ (.tail _ (.head _))), trivial⟩ (w.front (.s .z))) ?_
  rintro _ _ ⟨rfl, rfl⟩
  refine St.asrt (F' := .res (Box g1 3 [.int .i64 slot]) :: .res (Box g2 45 [.int .i64 0, .bool false, .string (⟨#[]⟩), .int .u32 0]) :: .ro (SlL e_Known A1 c1 l_p0) :: R) (fun _ w => w) ?_
  refine St.p rfl rfl ?_
  refine St.done ?_
  refine St.thenN ?_
  refine St.prune (Γ' := [(0, _), (4, _), (6, _)]) ⟨rfl, rfl, rfl, trivial⟩ (.d (.k (.k .z))) ?_
  refine St.seq ?_
  refine St.seq ?_
  refine St.region ?_
  refine St.p rfl rfl ?_
  refine St.p rfl rfl ?_
  refine St.done ?_
  refine St.thenN ?_
  refine St.prune (Γ' := [(0, _), (4, _), (6, _), (11, _)]) ⟨rfl, rfl, rfl, rfl, trivial⟩ (.k (.k .z)) ?_
  refine St.cond _ rfl (fun hb1 => ?_) (fun hb1 => ?_)
  · replace h := bif_t hb1 h
    refine St.seq ?_
    refine St.region ?_
    refine St.p rfl rfl ?_
    refine St.store 0 rfl rfl rfl rfl rfl rfl .z rfl ?_
    refine St.p rfl rfl ?_
    refine St.done ?_
    refine St.thenN ?_
    refine St.prune (Γ' := [(4, _), (5, _)]) ⟨rfl, rfl, trivial⟩ (.k (.d .z)) ?_
    refine St.ret ?_
    repeat (first | refine St.thenR ?_ | refine St.blkR ?_)
    injection h with h
    subst h
    exact St.finR Try.results45 (.cell rfl (.head _) rfl (.tmp rfl .nil)) rfl [] ⟨rfl, rfl⟩ (fun _ w => ((.d .z) : Keep _ _).sat w)
  · replace h := bif_f hb1 h
    refine St.skip ?_
    refine St.thenN ?_
    refine St.prune (Γ' := [(0, _), (4, _), (6, _)]) ⟨rfl, rfl, rfl, trivial⟩ (.k (.k .z)) ?_
    refine St.seq ?_
    refine St.region ?_
    refine St.p rfl rfl ?_
    refine St.p rfl rfl ?_
    obtain ⟨x1, hx1, h⟩ := bnd_e h
    refine St.ixL hx1 rfl rfl rfl (.tail _ (.head _)) rfl rfl rfl rfl rfl fun b1 ob1 => ?_
    refine St.load ob1 0 rfl rfl (.head _) rfl rfl ?_
    refine St.store 0 rfl rfl rfl rfl rfl rfl (.s .z) rfl ?_
    refine St.p rfl rfl ?_
    refine St.done ?_
    refine St.thenN ?_
    refine St.prune (Γ' := [(4, _), (5, _)]) ⟨rfl, rfl, trivial⟩ (.k (.d (.d .z))) ?_
    refine St.ret ?_
    repeat (first | refine St.thenR ?_ | refine St.blkR ?_)
    injection h with h
    subst h
    exact St.finR Try.results45 (.cell rfl (.head _) rfl (.tmp rfl .nil)) rfl [] ⟨rfl, rfl⟩ (fun _ w => ((.d .z) : Keep _ _).sat w)

theorem ent49 : Ent Try.prog 49 := ⟨_, Try.func49, by kernel_rfl, by kernel_rfl⟩

noncomputable def m_inventory_other (k_p0 : T_Known) (own : (List (ByteArray × Int))) (others : (List (ByteArray × Int))) : Option Int :=
  bnd ((bif !((mget kstr.eq own k_p0.Serial).isSome) then (some true) else (some (!((mget kstr.eq others k_p0.Serial).isSome))) : Option Bool)) fun o1 => bif o1 then (some (-1)) else (some ((mget kstr.eq others k_p0.Serial).getD 0))

theorem c_inventory_other {k_p0 : T_Known} {own : (List (ByteArray × Int))} {others : (List (ByteArray × Int))} {gb1 : Nat} {gb2 : Nat} {r : Int} (h : m_inventory_other k_p0 own others = some r) :
    Fun Try.prog 49 [.agg (bx_T_Known k_p0).toArray, .map (some gb1), .map (some gb2)] [.res (MapB kstr (fun x => .int .i64 x) gb1 own), .res (MapB kstr (fun x => .int .i64 x) gb2 others)] (fun v_ F_ => v_ = .int .i64 r ∧ F_ = [.res (MapB kstr (fun x => .int .i64 x) gb1 own), .res (MapB kstr (fun x => .int .i64 x) gb2 others)]) := by
  unfold m_inventory_other at h
  refine Fun.intro Try.func49 rfl rfl rfl fun w R => ?_
  refine St.seq ?_
  refine St.region ?_
  refine St.box rfl rfl fun g1 => ?_
  refine St.p rfl rfl ?_
  refine St.done ?_
  refine St.thenN ?_
  refine St.prune (Γ' := [(1, _), (2, _), (3, _)]) ⟨rfl, rfl, rfl, trivial⟩ (.k (.k (.k .z))) ?_
  refine St.seq ?_
  refine St.region ?_
  refine St.p rfl rfl ?_
  refine St.p rfl rfl ?_
  refine St.loadB 2 rfl rfl (.head _) rfl rfl ?_
  refine St.lookup (K := kstr) (vv := (fun x => .int .i64 x)) (u := .tuple #[.int .i64 ((mget kstr.eq own k_p0.Serial).getD 0), .bool ((mget kstr.eq own k_p0.Serial).isSome)]) 0 k_p0.Serial rfl rfl rfl (.tail _ (.head _)) rfl rfl rfl rfl rfl rfl rfl ?_
  iterate 5 refine St.p rfl rfl ?_
  refine St.done ?_
  refine St.thenN ?_
  refine St.prune (Γ' := [(2, _), (3, _), (8, _)]) ⟨rfl, rfl, rfl, trivial⟩ (.k (.k (.k .z))) ?_
  refine St.seq ?_
  refine St.region ?_
  refine St.p rfl rfl ?_
  refine St.p rfl rfl ?_
  refine St.loadB 2 rfl rfl (.head _) rfl rfl ?_
  refine St.lookup (K := kstr) (vv := (fun x => .int .i64 x)) (u := .tuple #[.int .i64 ((mget kstr.eq others k_p0.Serial).getD 0), .bool ((mget kstr.eq others k_p0.Serial).isSome)]) 0 k_p0.Serial rfl rfl rfl (.tail _ (.tail _ (.head _))) rfl rfl rfl rfl rfl rfl rfl ?_
  iterate 5 refine St.p rfl rfl ?_
  refine St.done ?_
  refine St.thenN ?_
  refine St.prune (Γ' := [(8, _), (9, _), (10, _)]) ⟨rfl, rfl, rfl, trivial⟩ (.d (.k (.k .z))) ?_
  refine St.seq ?_
  refine St.seq ?_
  obtain ⟨o1, hj1, h⟩ := bnd_e h
  refine St.cutE (fun (e1 : Unit) => [(9, .int .i64 ((mget kstr.eq others k_p0.Serial).getD 0)), (30, .bool o1)]) (fun e1 => .res (MapB kstr (fun x => .int .i64 x) gb1 own) :: .res (MapB kstr (fun x => .int .i64 x) gb2 others) :: R) ?_ ?_
  · refine St.region ?_
    iterate 3 refine St.p rfl rfl ?_
    refine St.gSplit (dj := 27) _ rfl (fun hb1 => ?_) (fun hb1 => ?_)
    · replace hj1 := bif_t hb1 hj1
      refine St.gOff (dj := 27) rfl rfl rfl rfl ?_
      refine St.gOff (dj := 27) rfl rfl rfl rfl ?_
      refine St.p rfl rfl ?_
      refine St.done ?_
      injection hj1 with hj1
      subst hj1
      refine St.thenN ?_
      exact St.hereE () ⟨rfl, rfl, trivial⟩ (fun _ w => ((.k (.k .z)) : Keep _ _).sat w)
    · replace hj1 := bif_f hb1 hj1
      refine St.gOn (dj := 27) rfl rfl ?_
      refine St.p rfl rfl ?_
      refine St.gOn (dj := 27) rfl rfl ?_
      refine St.p rfl rfl ?_
      refine St.p rfl rfl ?_
      refine St.done ?_
      injection hj1 with hj1
      subst hj1
      refine St.thenN ?_
      exact St.hereE () ⟨rfl, rfl, trivial⟩ (fun _ w => ((.k (.k .z)) : Keep _ _).sat w)
  · rintro e1
    refine St.cond _ rfl (fun hb2 => ?_) (fun hb2 => ?_)
    · replace h := bif_t hb2 h
      refine St.seq ?_
      refine St.region ?_
      refine St.p rfl rfl ?_
      refine St.done ?_
      refine St.thenN ?_
      refine St.prune (Γ' := [(6, _)]) ⟨rfl, trivial⟩ (.k (.k .z)) ?_
      refine St.ret ?_
      repeat (first | refine St.thenR ?_ | refine St.blkR ?_)
      injection h with h
      subst h
      exact St.finR Try.results49 (.tmp rfl .nil) rfl [.res (MapB kstr (fun x => .int .i64 x) gb1 own), .res (MapB kstr (fun x => .int .i64 x) gb2 others)] ⟨rfl, rfl⟩ (fun _ w => ((.k (.k .z)) : Keep _ _).sat ((w.front (.s .z)).front (.s .z)))
    · replace h := bif_f hb2 h
      refine St.skip ?_
      refine St.thenN ?_
      refine St.prune (Γ' := [(9, _)]) ⟨rfl, trivial⟩ (.k (.k .z)) ?_
      refine St.seq ?_
      refine St.region ?_
      refine St.p rfl rfl ?_
      refine St.p rfl rfl ?_
      refine St.done ?_
      refine St.thenN ?_
      refine St.prune (Γ' := [(6, _)]) ⟨rfl, trivial⟩ (.k (.k .z)) ?_
      refine St.ret ?_
      repeat (first | refine St.thenR ?_ | refine St.blkR ?_)
      injection h with h
      subst h
      exact St.finR Try.results49 (.tmp rfl .nil) rfl [.res (MapB kstr (fun x => .int .i64 x) gb1 own), .res (MapB kstr (fun x => .int .i64 x) gb2 others)] ⟨rfl, rfl⟩ (fun _ w => ((.k (.k .z)) : Keep _ _).sat ((w.front (.s .z)).front (.s .z)))

theorem ent35 : Ent Try.prog 35 := ⟨_, Try.func35, by kernel_rfl, by kernel_rfl⟩

noncomputable def m_inventory_compare (old_p0 : (List T_Known)) (new_p1 : (List T_Known)) (slot : Int) : Option (List T_Difference) :=
  bnd (m_inventory_identified old_p0) fun r1 => bnd (m_inventory_identified new_p1) fun r2 => bnd (m_inventory_at old_p0 slot) fun r3 => bnd (m_inventory_at new_p1 slot) fun r4 => bnd ((bif r3.2 then (bnd (m_inventory_other r3.1 r1 r2) fun r5 => some (r5 == (-1))) else (some false) : Option Bool)) fun o1 => bnd ((bif r4.2 then (bnd (m_inventory_other r4.1 r2 r1) fun r6 => some r6) else (some (-1)) : Option Int)) fun o2 => bnd ((bnd ((bif o1 then (bif !r4.2 then (some true) else (some (o2 != (-1)))) else (some false) : Option Bool)) fun o4 => bif o4 then (bnd (app 24 ([]) [(⟨2, slot, 0⟩ : T_Difference)]) fun l1 => some l1) else (some ([])) : Option (List T_Difference))) fun o3 => bif !r4.2 then (some o3) else (bnd ((bif (o2 != (-1)) then (some (o2 != slot)) else (some false) : Option Bool)) fun o5 => bif o5 then (bnd (app 24 o3 [(⟨4, slot, o2⟩ : T_Difference)]) fun l2 => some l2) else (bif (o2 == slot) then (bif (r3.1.Sum != r4.1.Sum) then (bnd (app 24 o3 [(⟨5, slot, 0⟩ : T_Difference)]) fun l3 => some l3) else (some o3)) else (bif !o1 then (bnd (app 24 o3 [(⟨1, slot, 0⟩ : T_Difference)]) fun l4 => some l4) else (bif !((r3.1.Slot == r4.1.Slot) && ((r3.1.Good == r4.1.Good) && ((r3.1.Serial.toList == r4.1.Serial.toList) && ((r3.1.Sum == r4.1.Sum) && true)))) then (bnd (app 24 o3 [(⟨3, slot, 0⟩ : T_Difference)]) fun l5 => some l5) else (some o3)))))

set_option maxHeartbeats 4000000 in
theorem c_inventory_compare {old_p0 : (List T_Known)} {new_p1 : (List T_Known)} {slot : Int} {A1 : Option Addr} {c1 : Nat} {A2 : Option Addr} {c2 : Nat} {r : (List T_Difference)} (h : m_inventory_compare old_p0 new_p1 slot = some r) :
    Fun Try.prog 35 [.slice A1 old_p0.length c1, .slice A2 new_p1.length c2, .int .i64 slot] [.ro (SlL e_Known A1 c1 old_p0), .ro (SlL e_Known A2 c2 new_p1)] (fun v_ F_ => ∃ (A1 : Option Addr) (c1 : Nat), v_ = .slice A1 r.length c1 ∧ F_ = [.res (OwnL e_Difference 40 A1 c1 r)]) := by
  unfold m_inventory_compare at h
  refine Fun.intro Try.func35 rfl rfl rfl fun w R => ?_
  refine St.seq ?_
  refine St.region ?_
  refine St.p rfl rfl ?_
  refine St.done ?_
  refine St.thenN ?_
  refine St.prune (Γ' := [(0, _), (1, _), (2, _)]) ⟨rfl, rfl, rfl, trivial⟩ (.k (.k .z)) ?_
  refine St.seq ?_
  refine St.region ?_
  refine St.p rfl rfl ?_
  obtain ⟨r1, hr1, h⟩ := bnd_e h
  refine St.call (c_inventory_identified hr1) ent48 rfl rfl rfl (fun _ w => Sat.dup (G := [.ro (SlL e_Known A1 c1 old_p0)]) rfl ⟨(.head _), trivial⟩ w) ?_
  rintro _ _ ⟨g1, rfl, rfl⟩
  refine St.asrt (F' := .res (MapB kstr (fun x => .int .i64 x) g1 r1) :: .ro (SlL e_Known A1 c1 old_p0) :: .ro (SlL e_Known A2 c2 new_p1) :: R) (fun _ w => w) ?_
  refine St.p rfl rfl ?_
  obtain ⟨r2, hr2, h⟩ := bnd_e h
  refine St.call (c_inventory_identified hr2) ent48 rfl rfl rfl (fun _ w => Sat.dup (G := [.ro (SlL e_Known A2 c2 new_p1)]) rfl ⟨(.tail _ (.tail _ (.head _))), trivial⟩ w) ?_
  rintro _ _ ⟨g2, rfl, rfl⟩
  refine St.asrt (F' := .res (MapB kstr (fun x => .int .i64 x) g2 r2) :: .res (MapB kstr (fun x => .int .i64 x) g1 r1) :: .ro (SlL e_Known A1 c1 old_p0) :: .ro (SlL e_Known A2 c2 new_p1) :: R) (fun _ w => w) ?_
  refine St.p rfl rfl ?_
  refine St.p rfl rfl ?_
  refine St.done ?_
  refine St.thenN ?_
  refine St.prune (Γ' := [(0, _), (1, _), (2, _), (7, _), (8, _)]) ⟨rfl, rfl, rfl, rfl, rfl, trivial⟩ (.k (.k (.k (.k .z)))) ?_
  refine St.seq ?_
  refine St.region ?_
  refine St.p rfl rfl ?_
  refine St.p rfl rfl ?_
  obtain ⟨r3, hr3, h⟩ := bnd_e h
  refine St.callV (c_inventory_at hr3) ent45 rfl rfl rfl rfl ⟨(.tail _ (.tail _ (.head _))), trivial⟩ ?_
  iterate 3 refine St.p rfl rfl ?_
  refine St.alloc rfl rfl fun g3 => ?_
  refine St.store 0 rfl rfl rfl rfl rfl rfl .z rfl ?_
  refine St.p rfl rfl ?_
  refine St.done ?_
  refine St.thenN ?_
  refine St.prune (Γ' := [(1, _), (2, _), (7, _), (8, _), (9, _), (10, _)]) ⟨rfl, rfl, rfl, rfl, rfl, rfl, trivial⟩ (.k (.k (.k (.d (.k .z))))) ?_
  refine St.seq ?_
  refine St.region ?_
  refine St.p rfl rfl ?_
  refine St.p rfl rfl ?_
  obtain ⟨r4, hr4, h⟩ := bnd_e h
  refine St.callV (c_inventory_at hr4) ent45 rfl rfl rfl rfl ⟨(.tail _ (.tail _ (.tail _ (.head _)))), trivial⟩ ?_
  iterate 3 refine St.p rfl rfl ?_
  refine St.alloc rfl rfl fun g4 => ?_
  refine St.store 0 rfl rfl rfl rfl rfl rfl .z rfl ?_
  refine St.p rfl rfl ?_
  refine St.done ?_
  refine St.thenN ?_
  refine St.prune (Γ' := [(2, _), (7, _), (8, _), (9, _), (10, _), (11, _), (12, _)]) ⟨rfl, rfl, rfl, rfl, rfl, rfl, rfl, trivial⟩ (.k (.k (.k (.k (.d .z))))) ?_
  refine St.seq ?_
  obtain ⟨o1, hj1, h⟩ := bnd_e h
  refine St.cutE (fun (e1 : Unit) => [(2, .int .i64 slot), (7, .map (some g1)), (8, .map (some g2)), (9, .pointer (some ⟨g3, 0, none⟩)), (11, .pointer (some ⟨g4, 0, none⟩)), (12, .bool r4.2), (13, .bool o1)]) (fun e1 => .res (Box g4 45 (bx_T_Known r4.1)) :: .res (Box g3 45 (bx_T_Known r3.1)) :: .res (MapB kstr (fun x => .int .i64 x) g2 r2) :: .res (MapB kstr (fun x => .int .i64 x) g1 r1) :: R) ?_ ?_
  · refine St.region ?_
    refine St.p rfl rfl ?_
    refine St.p rfl rfl ?_
    refine St.gSplit (dj := 33) _ rfl (fun hb1 => ?_) (fun hb1 => ?_)
    · replace hj1 := bif_t hb1 hj1
      refine St.gOn (dj := 33) rfl rfl ?_
      refine St.loadB 0 rfl rfl (.tail _ (.head _)) rfl rfl ?_
      refine St.gOn (dj := 33) rfl rfl ?_
      refine St.p rfl rfl ?_
      refine St.gOn (dj := 33) rfl rfl ?_
      refine St.p rfl rfl ?_
      refine St.gOn (dj := 33) rfl rfl ?_
      obtain ⟨r5, hr5, hj1⟩ := bnd_e hj1
      refine St.call (c_inventory_other hr5) ent49 rfl rfl rfl (fun _ w => ((w.front (.s (.s .z))).front (.s (.s (.s .z))))) ?_
      rintro _ _ ⟨rfl, rfl⟩
      refine St.asrt (F' := .res (MapB kstr (fun x => .int .i64 x) g1 r1) :: .res (MapB kstr (fun x => .int .i64 x) g2 r2) :: .res (Box g4 45 (bx_T_Known r4.1)) :: .res (Box g3 45 (bx_T_Known r3.1)) :: R) (fun _ w => w) ?_
      refine St.gOn (dj := 33) rfl rfl ?_
      iterate 3 refine St.p rfl rfl ?_
      refine St.done ?_
      injection hj1 with hj1
      subst hj1
      refine St.thenN ?_
      exact St.hereE () ⟨rfl, rfl, rfl, rfl, rfl, rfl, rfl, trivial⟩ (fun _ w => ((.k (.k (.k (.k .z)))) : Keep _ _).sat ((((w.front .z).front (.s .z)).front (.s (.s (.s .z)))).front (.s (.s (.s .z)))))
    · replace hj1 := bif_f hb1 hj1
      refine St.gOff (dj := 33) rfl rfl rfl rfl ?_
      refine St.gOff (dj := 33) rfl rfl rfl rfl ?_
      refine St.gOff (dj := 33) rfl rfl rfl rfl ?_
      refine St.gOff (dj := 33) rfl rfl rfl rfl ?_
      refine St.gOff (dj := 33) rfl rfl rfl rfl ?_
      refine St.p rfl rfl ?_
      refine St.p rfl rfl ?_
      refine St.done ?_
      injection hj1 with hj1
      subst hj1
      refine St.thenN ?_
      exact St.hereE () ⟨rfl, rfl, rfl, rfl, rfl, rfl, rfl, trivial⟩ (fun _ w => ((.k (.k (.k (.k .z)))) : Keep _ _).sat w)
  · rintro e1
    refine St.seq ?_
    refine St.region ?_
    refine St.p rfl rfl ?_
    refine St.done ?_
    refine St.thenN ?_
    refine St.seq ?_
    obtain ⟨o2, hj2, h⟩ := bnd_e h
    refine St.cutE (fun (e2 : Unit) => [(2, .int .i64 slot), (9, .pointer (some ⟨g3, 0, none⟩)), (11, .pointer (some ⟨g4, 0, none⟩)), (12, .bool r4.2), (13, .bool o1), (14, .int .i64 o2)]) (fun e2 => .res (Box g4 45 (bx_T_Known r4.1)) :: .res (Box g3 45 (bx_T_Known r3.1)) :: R) ?_ ?_
    · refine St.seq ?_
      refine St.region ?_
      refine St.p rfl rfl ?_
      refine St.done ?_
      refine St.thenN ?_
      refine St.cond _ rfl (fun hb2 => ?_) (fun hb2 => ?_)
      · replace hj2 := bif_t hb2 hj2
        refine St.region ?_
        refine St.loadB 0 rfl rfl (.head _) rfl rfl ?_
        refine St.p rfl rfl ?_
        refine St.p rfl rfl ?_
        obtain ⟨r6, hr6, hj2⟩ := bnd_e hj2
        refine St.call (c_inventory_other hr6) ent49 rfl rfl rfl (fun _ w => ((w.front (.s (.s (.s .z)))).front (.s (.s (.s .z))))) ?_
        rintro _ _ ⟨rfl, rfl⟩
        refine St.asrt (F' := .res (MapB kstr (fun x => .int .i64 x) g2 r2) :: .res (MapB kstr (fun x => .int .i64 x) g1 r1) :: .res (Box g4 45 (bx_T_Known r4.1)) :: .res (Box g3 45 (bx_T_Known r3.1)) :: R) (fun _ w => w) ?_
        refine St.p rfl rfl ?_
        refine St.done ?_
        injection hj2 with hj2
        subst hj2
        refine St.thenN ?_
        exact St.hereE () ⟨rfl, rfl, rfl, rfl, rfl, rfl, trivial⟩ (fun _ w => ((.d (.d (.k (.k .z)))) : Keep _ _).sat w)
      · replace hj2 := bif_f hb2 hj2
        refine St.skip ?_
        injection hj2 with hj2
        subst hj2
        refine St.thenN ?_
        exact St.hereE () ⟨rfl, rfl, rfl, rfl, rfl, rfl, trivial⟩ (fun _ w => ((.k (.k (.d (.d .z)))) : Keep _ _).sat w)
    · rintro e2
      refine St.seq ?_
      refine St.region ?_
      refine St.p rfl rfl ?_
      refine St.done ?_
      refine St.thenN ?_
      refine St.seq ?_
      obtain ⟨o3, hj3, h⟩ := bnd_e h
      refine St.cutE (fun (e3 : Option Addr × Nat) => [(2, .int .i64 slot), (9, .pointer (some ⟨g3, 0, none⟩)), (11, .pointer (some ⟨g4, 0, none⟩)), (12, .bool r4.2), (13, .bool o1), (14, .int .i64 o2), (15, .slice e3.1 o3.length e3.2)]) (fun e3 => .res (OwnL e_Difference 40 e3.1 e3.2 o3) :: .res (Box g4 45 (bx_T_Known r4.1)) :: .res (Box g3 45 (bx_T_Known r3.1)) :: R) ?_ ?_
      · refine St.seq ?_
        obtain ⟨o4, hj4, hj3⟩ := bnd_e hj3
        refine St.cutE (fun (e4 : Unit) => [(2, .int .i64 slot), (9, .pointer (some ⟨g3, 0, none⟩)), (11, .pointer (some ⟨g4, 0, none⟩)), (12, .bool r4.2), (13, .bool o1), (14, .int .i64 o2), (15, .slice none 0 0), (53, .bool o4)]) (fun e4 => .res (Box g4 45 (bx_T_Known r4.1)) :: .res (Box g3 45 (bx_T_Known r3.1)) :: R) ?_ ?_
        · refine St.region ?_
          refine St.p rfl rfl ?_
          refine St.p rfl rfl ?_
          refine St.gSplit (dj := 46) _ rfl (fun hb3 => ?_) (fun hb3 => ?_)
          · replace hj4 := bif_t hb3 hj4
            refine St.gOn (dj := 46) rfl rfl ?_
            refine St.p rfl rfl ?_
            refine St.gOn (dj := 46) rfl rfl ?_
            refine St.p rfl rfl ?_
            refine St.gOn (dj := 46) rfl rfl ?_
            refine St.p rfl rfl ?_
            refine St.gSplit (dj := 49) _ rfl (fun hb4 => ?_) (fun hb4 => ?_)
            · replace hj4 := bif_t hb4 hj4
              refine St.gOff (dj := 49) rfl rfl rfl rfl ?_
              refine St.gOff (dj := 49) rfl rfl rfl rfl ?_
              refine St.gOn (dj := 46) rfl rfl ?_
              refine St.p rfl rfl ?_
              refine St.p rfl rfl ?_
              refine St.done ?_
              injection hj4 with hj4
              subst hj4
              refine St.thenN ?_
              exact St.hereE () ⟨rfl, rfl, rfl, rfl, rfl, rfl, rfl, rfl, trivial⟩ (fun _ w => ((.k (.k .z)) : Keep _ _).sat w)
            · replace hj4 := bif_f hb4 hj4
              refine St.gOn (dj := 49) rfl rfl ?_
              refine St.p rfl rfl ?_
              refine St.gOn (dj := 49) rfl rfl ?_
              refine St.p rfl rfl ?_
              refine St.gOn (dj := 46) rfl rfl ?_
              refine St.p rfl rfl ?_
              refine St.p rfl rfl ?_
              refine St.done ?_
              injection hj4 with hj4
              subst hj4
              refine St.thenN ?_
              exact St.hereE () ⟨rfl, rfl, rfl, rfl, rfl, rfl, rfl, rfl, trivial⟩ (fun _ w => ((.k (.k .z)) : Keep _ _).sat w)
          · replace hj4 := bif_f hb3 hj4
            refine St.gOff (dj := 46) rfl rfl rfl rfl ?_
            refine St.gOff (dj := 46) rfl rfl rfl rfl ?_
            refine St.gOff (dj := 46) rfl rfl rfl rfl ?_
            refine St.gOff (dj := 49) rfl rfl rfl rfl ?_
            refine St.gOff (dj := 49) rfl rfl rfl rfl ?_
            refine St.gOff (dj := 46) rfl rfl rfl rfl ?_
            refine St.p rfl rfl ?_
            refine St.done ?_
            injection hj4 with hj4
            subst hj4
            refine St.thenN ?_
            exact St.hereE () ⟨rfl, rfl, rfl, rfl, rfl, rfl, rfl, rfl, trivial⟩ (fun _ w => ((.k (.k .z)) : Keep _ _).sat w)
        · rintro e4
          refine St.cond _ rfl (fun hb5 => ?_) (fun hb5 => ?_)
          · replace hj3 := bif_t hb5 hj3
            refine St.region ?_
            iterate 3 refine St.p rfl rfl ?_
            refine St.buildSlice rfl rfl rfl rfl rfl rfl rfl rfl fun g5 => ?_
            refine St.asrt (fun _ w => w.nilL e_Difference 40) ?_
            obtain ⟨l1, hl1, hj3⟩ := bnd_e hj3
            refine St.app (E := e_Difference) hl1 rfl rfl rfl .z rfl rfl rfl rfl rfl rfl rfl rfl (srcB (.tail _ (.head _)) rfl rfl) rfl rfl fun A4 c4 => ?_
            refine St.p rfl rfl ?_
            refine St.done ?_
            injection hj3 with hj3
            subst hj3
            refine St.thenN ?_
            exact St.hereE (A4, c4) ⟨rfl, rfl, rfl, rfl, rfl, rfl, rfl, trivial⟩ (fun _ w => ((.k (.d (.k (.k .z)))) : Keep _ _).sat w)
          · replace hj3 := bif_f hb5 hj3
            refine St.skip ?_
            refine St.asrt (fun _ w => w.nilL e_Difference 40) ?_
            injection hj3 with hj3
            subst hj3
            refine St.thenN ?_
            exact St.hereE (none, 0) ⟨rfl, rfl, rfl, rfl, rfl, rfl, rfl, trivial⟩ (fun _ w => ((.k (.k (.k .z))) : Keep _ _).sat w)
      · rintro ⟨A3, c3⟩
        refine St.seq ?_
        refine St.block ?_
        refine St.seq ?_
        refine St.region ?_
        iterate 3 refine St.p rfl rfl ?_
        refine St.done ?_
        refine St.thenN ?_
        refine St.prune (Γ' := [(2, _), (9, _), (11, _), (13, _), (14, _), (15, _), (59, _)]) ⟨rfl, rfl, rfl, rfl, rfl, rfl, rfl, trivial⟩ (.k (.k (.k .z))) ?_
        refine St.cond _ rfl (fun hb6 => ?_) (fun hb6 => ?_)
        · replace h := bif_t hb6 h
          refine St.skip ?_
          refine St.blkN ?_
          refine St.thenN ?_
          refine St.prune (Γ' := [(15, _)]) ⟨rfl, trivial⟩ (.k (.d (.d .z))) ?_
          refine St.seq ?_
          refine St.region ?_
          refine St.p rfl rfl ?_
          refine St.p rfl rfl ?_
          refine St.done ?_
          refine St.thenN ?_
          refine St.prune (Γ' := [(6, _)]) ⟨rfl, trivial⟩ (.k .z) ?_
          refine St.ret ?_
          repeat (first | refine St.thenR ?_ | refine St.blkR ?_)
          injection h with h
          subst h
          exact St.finR Try.results35 (.tmp rfl .nil) rfl [.res (OwnL e_Difference 40 A3 c3 o3)] ⟨A3, c3, rfl, rfl⟩ (fun _ w => ((.k .z) : Keep _ _).sat w)
        · replace h := bif_f hb6 h
          refine St.seq ?_
          obtain ⟨o5, hj5, h⟩ := bnd_e h
          refine St.cutE (fun (e5 : Unit) => [(2, .int .i64 slot), (9, .pointer (some ⟨g3, 0, none⟩)), (11, .pointer (some ⟨g4, 0, none⟩)), (13, .bool o1), (14, .int .i64 o2), (15, .slice A3 o3.length c3), (62, .bool o5)]) (fun e5 => .res (OwnL e_Difference 40 A3 c3 o3) :: .res (Box g4 45 (bx_T_Known r4.1)) :: .res (Box g3 45 (bx_T_Known r3.1)) :: R) ?_ ?_
          · refine St.region ?_
            iterate 3 refine St.p rfl rfl ?_
            refine St.gSplit (dj := 65) _ rfl (fun hb7 => ?_) (fun hb7 => ?_)
            · replace hj5 := bif_t hb7 hj5
              refine St.gOn (dj := 65) rfl rfl ?_
              refine St.p rfl rfl ?_
              refine St.gOn (dj := 65) rfl rfl ?_
              refine St.p rfl rfl ?_
              refine St.gOn (dj := 65) rfl rfl ?_
              iterate 3 refine St.p rfl rfl ?_
              refine St.done ?_
              injection hj5 with hj5
              subst hj5
              refine St.thenN ?_
              exact St.hereE () ⟨rfl, rfl, rfl, rfl, rfl, rfl, rfl, trivial⟩ (fun _ w => ((.k (.k (.k .z))) : Keep _ _).sat w)
            · replace hj5 := bif_f hb7 hj5
              refine St.gOff (dj := 65) rfl rfl rfl rfl ?_
              refine St.gOff (dj := 65) rfl rfl rfl rfl ?_
              refine St.gOff (dj := 65) rfl rfl rfl rfl ?_
              refine St.p rfl rfl ?_
              refine St.p rfl rfl ?_
              refine St.done ?_
              injection hj5 with hj5
              subst hj5
              refine St.thenN ?_
              exact St.hereE () ⟨rfl, rfl, rfl, rfl, rfl, rfl, rfl, trivial⟩ (fun _ w => ((.k (.k (.k .z))) : Keep _ _).sat w)
          · rintro e5
            refine St.cond _ rfl (fun hb8 => ?_) (fun hb8 => ?_)
            · replace h := bif_t hb8 h
              refine St.region ?_
              iterate 4 refine St.p rfl rfl ?_
              refine St.buildSlice rfl rfl rfl rfl rfl rfl rfl rfl fun g6 => ?_
              obtain ⟨l2, hl2, h⟩ := bnd_e h
              refine St.app (E := e_Difference) hl2 rfl rfl rfl (.s .z) rfl rfl rfl rfl rfl rfl rfl rfl (srcB (.head _) rfl rfl) rfl rfl fun A5 c5 => ?_
              refine St.p rfl rfl ?_
              refine St.done ?_
              refine St.blkN ?_
              refine St.thenN ?_
              refine St.prune (Γ' := [(15, _)]) ⟨rfl, trivial⟩ (.k (.d (.d (.d .z)))) ?_
              refine St.seq ?_
              refine St.region ?_
              refine St.p rfl rfl ?_
              refine St.p rfl rfl ?_
              refine St.done ?_
              refine St.thenN ?_
              refine St.prune (Γ' := [(6, _)]) ⟨rfl, trivial⟩ (.k .z) ?_
              refine St.ret ?_
              repeat (first | refine St.thenR ?_ | refine St.blkR ?_)
              injection h with h
              subst h
              exact St.finR Try.results35 (.tmp rfl .nil) rfl [.res (OwnL e_Difference 40 A5 c5 l2)] ⟨A5, c5, rfl, rfl⟩ (fun _ w => ((.k .z) : Keep _ _).sat w)
            · replace h := bif_f hb8 h
              refine St.seq ?_
              refine St.region ?_
              iterate 4 refine St.p rfl rfl ?_
              refine St.done ?_
              refine St.thenN ?_
              refine St.prune (Γ' := [(2, _), (9, _), (11, _), (13, _), (15, _), (76, _)]) ⟨rfl, rfl, rfl, rfl, rfl, rfl, trivial⟩ (.k (.k (.k .z))) ?_
              refine St.cond _ rfl (fun hb9 => ?_) (fun hb9 => ?_)
              · replace h := bif_t hb9 h
                refine St.seq ?_
                refine St.region ?_
                refine St.p rfl rfl ?_
                refine St.loadB 3 rfl rfl (.tail _ (.tail _ (.head _))) rfl rfl ?_
                refine St.p rfl rfl ?_
                refine St.loadB 3 rfl rfl (.tail _ (.head _)) rfl rfl ?_
                refine St.p rfl rfl ?_
                refine St.done ?_
                refine St.thenN ?_
                refine St.prune (Γ' := [(2, _), (15, _), (84, _)]) ⟨rfl, rfl, rfl, trivial⟩ (.k (.d (.d .z))) ?_
                refine St.cond _ rfl (fun hb10 => ?_) (fun hb10 => ?_)
                · replace h := bif_t hb10 h
                  refine St.region ?_
                  iterate 3 refine St.p rfl rfl ?_
                  refine St.buildSlice rfl rfl rfl rfl rfl rfl rfl rfl fun g7 => ?_
                  obtain ⟨l3, hl3, h⟩ := bnd_e h
                  refine St.app (E := e_Difference) hl3 rfl rfl rfl (.s .z) rfl rfl rfl rfl rfl rfl rfl rfl (srcB (.head _) rfl rfl) rfl rfl fun A6 c6 => ?_
                  refine St.p rfl rfl ?_
                  refine St.done ?_
                  refine St.blkN ?_
                  refine St.thenN ?_
                  refine St.prune (Γ' := [(15, _)]) ⟨rfl, trivial⟩ (.k (.d .z)) ?_
                  refine St.seq ?_
                  refine St.region ?_
                  refine St.p rfl rfl ?_
                  refine St.p rfl rfl ?_
                  refine St.done ?_
                  refine St.thenN ?_
                  refine St.prune (Γ' := [(6, _)]) ⟨rfl, trivial⟩ (.k .z) ?_
                  refine St.ret ?_
                  repeat (first | refine St.thenR ?_ | refine St.blkR ?_)
                  injection h with h
                  subst h
                  exact St.finR Try.results35 (.tmp rfl .nil) rfl [.res (OwnL e_Difference 40 A6 c6 l3)] ⟨A6, c6, rfl, rfl⟩ (fun _ w => ((.k .z) : Keep _ _).sat w)
                · replace h := bif_f hb10 h
                  refine St.skip ?_
                  refine St.blkN ?_
                  refine St.thenN ?_
                  refine St.prune (Γ' := [(15, _)]) ⟨rfl, trivial⟩ (.k .z) ?_
                  refine St.seq ?_
                  refine St.region ?_
                  refine St.p rfl rfl ?_
                  refine St.p rfl rfl ?_
                  refine St.done ?_
                  refine St.thenN ?_
                  refine St.prune (Γ' := [(6, _)]) ⟨rfl, trivial⟩ (.k .z) ?_
                  refine St.ret ?_
                  repeat (first | refine St.thenR ?_ | refine St.blkR ?_)
                  injection h with h
                  subst h
                  exact St.finR Try.results35 (.tmp rfl .nil) rfl [.res (OwnL e_Difference 40 A3 c3 o3)] ⟨A3, c3, rfl, rfl⟩ (fun _ w => ((.k .z) : Keep _ _).sat w)
              · replace h := bif_f hb9 h
                refine St.seq ?_
                refine St.region ?_
                iterate 3 refine St.p rfl rfl ?_
                refine St.done ?_
                refine St.thenN ?_
                refine St.prune (Γ' := [(2, _), (9, _), (11, _), (15, _), (90, _)]) ⟨rfl, rfl, rfl, rfl, rfl, trivial⟩ (.k (.k (.k .z))) ?_
                refine St.cond _ rfl (fun hb11 => ?_) (fun hb11 => ?_)
                · replace h := bif_t hb11 h
                  refine St.region ?_
                  iterate 3 refine St.p rfl rfl ?_
                  refine St.buildSlice rfl rfl rfl rfl rfl rfl rfl rfl fun g8 => ?_
                  obtain ⟨l4, hl4, h⟩ := bnd_e h
                  refine St.app (E := e_Difference) hl4 rfl rfl rfl (.s .z) rfl rfl rfl rfl rfl rfl rfl rfl (srcB (.head _) rfl rfl) rfl rfl fun A7 c7 => ?_
                  refine St.p rfl rfl ?_
                  refine St.done ?_
                  refine St.blkN ?_
                  refine St.thenN ?_
                  refine St.prune (Γ' := [(15, _)]) ⟨rfl, trivial⟩ (.k (.d (.d (.d .z)))) ?_
                  refine St.seq ?_
                  refine St.region ?_
                  refine St.p rfl rfl ?_
                  refine St.p rfl rfl ?_
                  refine St.done ?_
                  refine St.thenN ?_
                  refine St.prune (Γ' := [(6, _)]) ⟨rfl, trivial⟩ (.k .z) ?_
                  refine St.ret ?_
                  repeat (first | refine St.thenR ?_ | refine St.blkR ?_)
                  injection h with h
                  subst h
                  exact St.finR Try.results35 (.tmp rfl .nil) rfl [.res (OwnL e_Difference 40 A7 c7 l4)] ⟨A7, c7, rfl, rfl⟩ (fun _ w => ((.k .z) : Keep _ _).sat w)
                · replace h := bif_f hb11 h
                  refine St.seq ?_
                  refine St.region ?_
                  refine St.loadB 0 rfl rfl (.tail _ (.tail _ (.head _))) rfl rfl ?_
                  refine St.loadB 0 rfl rfl (.tail _ (.head _)) rfl rfl ?_
                  refine St.p rfl rfl ?_
                  refine St.p rfl rfl ?_
                  refine St.done ?_
                  refine St.thenN ?_
                  refine St.prune (Γ' := [(2, _), (15, _), (98, _)]) ⟨rfl, rfl, rfl, trivial⟩ (.k (.d (.d .z))) ?_
                  refine St.cond _ rfl (fun hb12 => ?_) (fun hb12 => ?_)
                  · replace h := bif_t hb12 h
                    refine St.region ?_
                    iterate 3 refine St.p rfl rfl ?_
                    refine St.buildSlice rfl rfl rfl rfl rfl rfl rfl rfl fun g9 => ?_
                    obtain ⟨l5, hl5, h⟩ := bnd_e h
                    refine St.app (E := e_Difference) hl5 rfl rfl rfl (.s .z) rfl rfl rfl rfl rfl rfl rfl rfl (srcB (.head _) rfl rfl) rfl rfl fun A8 c8 => ?_
                    refine St.p rfl rfl ?_
                    refine St.done ?_
                    refine St.blkN ?_
                    refine St.thenN ?_
                    refine St.prune (Γ' := [(15, _)]) ⟨rfl, trivial⟩ (.k (.d .z)) ?_
                    refine St.seq ?_
                    refine St.region ?_
                    refine St.p rfl rfl ?_
                    refine St.p rfl rfl ?_
                    refine St.done ?_
                    refine St.thenN ?_
                    refine St.prune (Γ' := [(6, _)]) ⟨rfl, trivial⟩ (.k .z) ?_
                    refine St.ret ?_
                    repeat (first | refine St.thenR ?_ | refine St.blkR ?_)
                    injection h with h
                    subst h
                    exact St.finR Try.results35 (.tmp rfl .nil) rfl [.res (OwnL e_Difference 40 A8 c8 l5)] ⟨A8, c8, rfl, rfl⟩ (fun _ w => ((.k .z) : Keep _ _).sat w)
                  · replace h := bif_f hb12 h
                    refine St.skip ?_
                    refine St.blkN ?_
                    refine St.thenN ?_
                    refine St.prune (Γ' := [(15, _)]) ⟨rfl, trivial⟩ (.k .z) ?_
                    refine St.seq ?_
                    refine St.region ?_
                    refine St.p rfl rfl ?_
                    refine St.p rfl rfl ?_
                    refine St.done ?_
                    refine St.thenN ?_
                    refine St.prune (Γ' := [(6, _)]) ⟨rfl, trivial⟩ (.k .z) ?_
                    refine St.ret ?_
                    repeat (first | refine St.thenR ?_ | refine St.blkR ?_)
                    injection h with h
                    subst h
                    exact St.finR Try.results35 (.tmp rfl .nil) rfl [.res (OwnL e_Difference 40 A3 c3 o3)] ⟨A3, c3, rfl, rfl⟩ (fun _ w => ((.k .z) : Keep _ _).sat w)

theorem ent14 : Ent Try.prog 14 := ⟨_, Try.func14, by kernel_rfl, by kernel_rfl⟩

noncomputable def m_inventory_Compare (old_p0 : (List T_Known)) (new_p1 : (List T_Known)) : Option ((List T_Difference) × Int) :=
  bnd ((bnd (m_inventory_Valid old_p0) fun r1 => bif !r1 then (some true) else (bnd (m_inventory_Valid new_p1) fun r2 => some (!r2)) : Option Bool)) fun o1 => bif o1 then (some ([], 1)) else (bnd (loopM (τ := List T_Difference) (fun (s1 : List T_Difference × Int) => bif decide (s1.2 < 16) then (bnd (m_inventory_compare old_p0 new_p1 s1.2) fun r3 => bnd (app 24 s1.1 r3) fun l1 => some (.next (l1, IntKind.wrap .i64 (s1.2 + 1)))) else (some (.done s1.1))) ([], 0)) fun o2 => some (o2, 0))

theorem c_inventory_Compare {old_p0 : (List T_Known)} {new_p1 : (List T_Known)} {A1 : Option Addr} {c1 : Nat} {A2 : Option Addr} {c2 : Nat} {r : ((List T_Difference) × Int)} (h : m_inventory_Compare old_p0 new_p1 = some r) :
    Fun Try.prog 14 [.slice A1 old_p0.length c1, .slice A2 new_p1.length c2] [.ro (SlL e_Known A1 c1 old_p0), .ro (SlL e_Known A2 c2 new_p1)] (fun v_ F_ => ∃ (A1 : Option Addr) (c1 : Nat), v_ = .tuple #[.slice A1 r.1.length c1, .int .i64 r.2] ∧ F_ = [.res (OwnL e_Difference 40 A1 c1 r.1)]) := by
  unfold m_inventory_Compare at h
  refine Fun.intro Try.func14 rfl rfl rfl fun w R => ?_
  refine St.seq ?_
  refine St.region ?_
  refine St.p rfl rfl ?_
  refine St.p rfl rfl ?_
  refine St.done ?_
  refine St.thenN ?_
  refine St.prune (Γ' := [(0, _), (1, _)]) ⟨rfl, rfl, trivial⟩ (.k (.k .z)) ?_
  refine St.seq ?_
  refine St.seq ?_
  obtain ⟨o1, hj1, h⟩ := bnd_e h
  refine St.cutE (fun (e1 : Unit) => [(0, .slice A1 old_p0.length c1), (1, .slice A2 new_p1.length c2), (15, .bool o1)]) (fun e1 => .ro (SlL e_Known A1 c1 old_p0) :: .ro (SlL e_Known A2 c2 new_p1) :: R) ?_ ?_
  · refine St.region ?_
    refine St.p rfl rfl ?_
    obtain ⟨r1, hr1, hj1⟩ := bnd_e hj1
    refine St.callV (c_inventory_Valid hr1) ent17 rfl rfl rfl rfl ⟨(.head _), trivial⟩ ?_
    refine St.p rfl rfl ?_
    refine St.p rfl rfl ?_
    refine St.gSplit (dj := 11) _ rfl (fun hb1 => ?_) (fun hb1 => ?_)
    · replace hj1 := bif_t hb1 hj1
      refine St.gOff (dj := 11) rfl rfl rfl rfl ?_
      refine St.gOff (dj := 11) rfl rfl rfl rfl ?_
      refine St.gOff (dj := 11) rfl rfl rfl rfl ?_
      refine St.p rfl rfl ?_
      refine St.done ?_
      injection hj1 with hj1
      subst hj1
      refine St.thenN ?_
      exact St.hereE () ⟨rfl, rfl, rfl, trivial⟩ (fun _ w => ((.k (.k .z)) : Keep _ _).sat w)
    · replace hj1 := bif_f hb1 hj1
      refine St.gOn (dj := 11) rfl rfl ?_
      refine St.p rfl rfl ?_
      refine St.gOn (dj := 11) rfl rfl ?_
      obtain ⟨r2, hr2, hj1⟩ := bnd_e hj1
      refine St.callV (c_inventory_Valid hr2) ent17 rfl rfl rfl rfl ⟨(.tail _ (.head _)), trivial⟩ ?_
      refine St.gOn (dj := 11) rfl rfl ?_
      refine St.p rfl rfl ?_
      refine St.p rfl rfl ?_
      refine St.done ?_
      injection hj1 with hj1
      subst hj1
      refine St.thenN ?_
      exact St.hereE () ⟨rfl, rfl, rfl, trivial⟩ (fun _ w => ((.k (.k .z)) : Keep _ _).sat w)
  · rintro e1
    refine St.cond _ rfl (fun hb2 => ?_) (fun hb2 => ?_)
    · replace h := bif_t hb2 h
      refine St.seq ?_
      refine St.region ?_
      refine St.p rfl rfl ?_
      refine St.p rfl rfl ?_
      refine St.done ?_
      refine St.thenN ?_
      refine St.prune (Γ' := [(4, _), (5, _)]) ⟨rfl, rfl, trivial⟩ (.d (.d .z)) ?_
      refine St.ret ?_
      repeat (first | refine St.thenR ?_ | refine St.blkR ?_)
      refine St.asrt (fun _ w => w.nilL e_Difference 40) ?_
      injection h with h
      subst h
      exact St.finR Try.results14 (.tmp rfl (.tmp rfl .nil)) rfl [.res (OwnL e_Difference 40 none 0 ([] : List T_Difference))] ⟨none, 0, rfl, rfl⟩ (fun _ w => ((.k .z) : Keep _ _).sat w)
    · replace h := bif_f hb2 h
      refine St.skip ?_
      refine St.thenN ?_
      refine St.prune (Γ' := [(0, _), (1, _)]) ⟨rfl, rfl, trivial⟩ (.k (.k .z)) ?_
      refine St.seq ?_
      refine St.region ?_
      refine St.p rfl rfl ?_
      refine St.done ?_
      refine St.thenN ?_
      refine St.seq ?_
      refine St.seq ?_
      refine St.region ?_
      refine St.p rfl rfl ?_
      refine St.done ?_
      refine St.thenN ?_
      refine St.asrt (fun _ w => w.nilL e_Difference 40) ?_
      obtain ⟨o2, hl1, h⟩ := bnd_e h
      refine St.cutE (fun (e3 : Option Addr × Nat) => [(6, .slice e3.1 o2.length e3.2)]) (fun e3 => .res (OwnL e_Difference 40 e3.1 e3.2 o2) :: R) ?_ ?_
      · refine St.block ?_
        refine St.loop hl1 (fun (s1 : List T_Difference × Int) (e2 : Option Addr × Nat) => [(0, .slice A1 old_p0.length c1), (1, .slice A2 new_p1.length c2), (6, .slice e2.1 s1.1.length e2.2), (16, .int .i64 s1.2)]) (fun s1 e2 => .res (OwnL e_Difference 40 e2.1 e2.2 s1.1) :: .ro (SlL e_Known A1 c1 old_p0) :: .ro (SlL e_Known A2 c2 new_p1) :: R) (fun _ _ => True) (none, 0) trivial ⟨rfl, rfl, rfl, rfl, trivial⟩ (fun _ w => ((.k (.k (.k .z))) : Keep _ _).sat w) ?_
        rintro s1 ⟨A3, c3⟩ - hit1
        obtain ⟨st1, hm1, hd1⟩ := iter_e hit1
        have h1 := hm1
        refine St.seq ?_
        refine St.region ?_
        refine St.p rfl rfl ?_
        refine St.done ?_
        refine St.thenN ?_
        refine St.seq ?_
        refine St.cond _ rfl (fun hb3 => ?_) (fun hb3 => ?_)
        · replace h1 := bif_t hb3 h1
          refine St.skip ?_
          refine St.thenN ?_
          refine St.prune (Γ' := [(0, _), (1, _), (6, _), (16, _)]) ⟨rfl, rfl, rfl, rfl, trivial⟩ (.k (.k (.k .z))) ?_
          refine St.seq ?_
          refine St.block ?_
          refine St.seq ?_
          refine St.region ?_
          refine St.p rfl rfl ?_
          refine St.p rfl rfl ?_
          refine St.done ?_
          refine St.thenN ?_
          refine St.prune (Γ' := [(0, _), (1, _), (6, _), (7, _), (16, _)]) ⟨rfl, rfl, rfl, rfl, rfl, trivial⟩ (.k (.k (.k .z))) ?_
          refine St.region ?_
          iterate 4 refine St.p rfl rfl ?_
          obtain ⟨r3, hr3, h1⟩ := bnd_e h1
          refine St.call (c_inventory_compare hr3) ent35 rfl rfl rfl (fun _ w => Sat.dup (G := [.ro (SlL e_Known A1 c1 old_p0), .ro (SlL e_Known A2 c2 new_p1)]) rfl ⟨(.tail _ (.head _)), (.tail _ (.tail _ (.head _))), trivial⟩ w) ?_
          rintro _ _ ⟨A5, c5, rfl, rfl⟩
          refine St.asrt (F' := .res (OwnL e_Difference 40 A5 c5 r3) :: .res (OwnL e_Difference 40 A3 c3 s1.1) :: .ro (SlL e_Known A1 c1 old_p0) :: .ro (SlL e_Known A2 c2 new_p1) :: R) (fun _ w => w) ?_
          refine St.asrt (fun _ w => (w.front .z).meltL) ?_
          obtain ⟨l1, hl1, h1⟩ := bnd_e h1
          refine St.app (E := e_Difference) hl1 rfl rfl rfl (.s .z) rfl rfl rfl rfl rfl rfl rfl rfl (srcL (.head _)) rfl rfl fun A6 c6 => ?_
          refine St.p rfl rfl ?_
          refine St.done ?_
          refine St.blkN ?_
          refine St.thenN ?_
          refine St.prune (Γ' := [(0, _), (1, _), (6, _), (16, _)]) ⟨rfl, rfl, rfl, rfl, trivial⟩ (.k (.d (.k (.k .z)))) ?_
          refine St.region ?_
          refine St.p rfl rfl ?_
          refine St.p rfl rfl ?_
          refine St.done ?_
          injection h1 with h1
          subst h1
          refine St.thenN ?_
          exact St.again _ (A6, c6) hm1 trivial ⟨rfl, rfl, rfl, rfl, trivial⟩ (fun _ w => ((.k (.k (.k .z))) : Keep _ _).sat w)
        · replace h1 := bif_f hb3 h1
          refine St.exit ?_
          repeat (first | refine St.thenX ?_ | refine St.blkMiss rfl ?_)
          refine St.blkHit ?_
          injection h1 with h1
          subst h1
          have ho := hd1 _ rfl
          subst ho
          refine St.thenN ?_
          exact St.hereE (A3, c3) ⟨rfl, trivial⟩ (fun _ w => ((.k (.d (.d .z))) : Keep _ _).sat w)
      · rintro ⟨A4, c4⟩
        refine St.seq ?_
        refine St.region ?_
        iterate 3 refine St.p rfl rfl ?_
        refine St.done ?_
        refine St.thenN ?_
        refine St.prune (Γ' := [(4, _), (5, _)]) ⟨rfl, rfl, trivial⟩ (.k .z) ?_
        refine St.ret ?_
        repeat (first | refine St.thenR ?_ | refine St.blkR ?_)
        injection h with h
        subst h
        exact St.finR Try.results14 (.tmp rfl (.tmp rfl .nil)) rfl [.res (OwnL e_Difference 40 A4 c4 o2)] ⟨A4, c4, rfl, rfl⟩ (fun _ w => ((.k .z) : Keep _ _).sat w)

theorem ent16 : Ent Try.prog 16 := ⟨_, Try.func16, by kernel_rfl, by kernel_rfl⟩

noncomputable def m_ref19_SameDifferences (a_p0 : (List T_Difference)) (b_p1 : (List T_Difference)) : Option Bool :=
  bif ((a_p0.length : Int) != (b_p1.length : Int)) then (some false) else (bnd (loopM (τ := Bool ⊕ Unit) (fun (s1 : Int) => bif decide (s1 < (a_p0.length : Int)) then (bnd (elt a_p0 s1) fun x1 => bnd (elt b_p1 s1) fun x2 => bif !((x1.Kind == x2.Kind) && ((x1.Slot == x2.Slot) && ((x1.From == x2.From) && true))) then (some (.done (.inl false))) else (some (.next (IntKind.wrap .i64 (s1 + 1))))) else (some (.done (.inr ())))) 0) fun o1 => retOr o1 fun o2 => some true)

theorem c_ref19_SameDifferences {a_p0 : (List T_Difference)} {b_p1 : (List T_Difference)} {A1 : Option Addr} {c1 : Nat} {A2 : Option Addr} {c2 : Nat} {r : Bool} (h : m_ref19_SameDifferences a_p0 b_p1 = some r) :
    Fun Try.prog 16 [.slice A1 a_p0.length c1, .slice A2 b_p1.length c2] [.ro (SlL e_Difference A1 c1 a_p0), .ro (SlL e_Difference A2 c2 b_p1)] (Val (.bool r)) := by
  unfold m_ref19_SameDifferences at h
  refine Fun.intro Try.func16 rfl rfl rfl fun w R => ?_
  refine St.seq ?_
  refine St.region ?_
  refine St.p rfl rfl ?_
  refine St.done ?_
  refine St.thenN ?_
  refine St.prune (Γ' := [(0, _), (1, _)]) ⟨rfl, rfl, trivial⟩ (.k (.k .z)) ?_
  refine St.seq ?_
  refine St.seq ?_
  refine St.region ?_
  iterate 5 refine St.p rfl rfl ?_
  refine St.done ?_
  refine St.thenN ?_
  refine St.prune (Γ' := [(0, _), (1, _), (10, _)]) ⟨rfl, rfl, rfl, trivial⟩ (.k (.k .z)) ?_
  refine St.cond _ rfl (fun hb1 => ?_) (fun hb1 => ?_)
  · replace h := bif_t hb1 h
    refine St.seq ?_
    refine St.region ?_
    refine St.p rfl rfl ?_
    refine St.done ?_
    refine St.thenN ?_
    refine St.prune (Γ' := [(4, _)]) ⟨rfl, trivial⟩ (.d (.d .z)) ?_
    refine St.ret ?_
    repeat (first | refine St.thenR ?_ | refine St.blkR ?_)
    injection h with h
    subst h
    exact St.finR Try.results16 (.tmp rfl .nil) rfl [] ⟨rfl, rfl⟩ (fun _ w => (.z : Keep _ _).sat w)
  · replace h := bif_f hb1 h
    refine St.skip ?_
    refine St.thenN ?_
    refine St.prune (Γ' := [(0, _), (1, _)]) ⟨rfl, rfl, trivial⟩ (.k (.k .z)) ?_
    refine St.seq ?_
    refine St.seq ?_
    refine St.region ?_
    refine St.p rfl rfl ?_
    refine St.done ?_
    refine St.thenN ?_
    obtain ⟨o1, hl1, h⟩ := bnd_e h
    refine St.cutI (fun (o2 : Unit) (e2 : Unit) => []) (fun o2 e2 => R) (fun o2 => o1 = .inr o2) ?_ ?_
    · refine St.block ?_
      refine St.loop hl1 (fun (s1 : Int) (e1 : Unit) => [(0, .slice A1 a_p0.length c1), (1, .slice A2 b_p1.length c2), (5, .int .i64 s1)]) (fun s1 e1 => .ro (SlL e_Difference A1 c1 a_p0) :: .ro (SlL e_Difference A2 c2 b_p1) :: R) (fun _ _ => True) () trivial ⟨rfl, rfl, rfl, trivial⟩ (fun _ w => ((.k (.k .z)) : Keep _ _).sat w) ?_
      rintro s1 e1 - hit1
      obtain ⟨st1, hm1, hd1⟩ := iter_e hit1
      have h1 := hm1
      refine St.seq ?_
      refine St.seq ?_
      refine St.region ?_
      iterate 4 refine St.p rfl rfl ?_
      refine St.done ?_
      refine St.thenN ?_
      refine St.prune (Γ' := [(0, _), (1, _), (5, _), (14, _)]) ⟨rfl, rfl, rfl, rfl, trivial⟩ (.k (.k .z)) ?_
      refine St.cond _ rfl (fun hb2 => ?_) (fun hb2 => ?_)
      · replace h1 := bif_t hb2 h1
        refine St.skip ?_
        refine St.thenN ?_
        refine St.prune (Γ' := [(0, _), (1, _), (5, _)]) ⟨rfl, rfl, rfl, trivial⟩ (.k (.k .z)) ?_
        refine St.seq ?_
        refine St.block ?_
        refine St.seq ?_
        refine St.regionF mixed (by kernel_rfl) ?_
        refine St.p rfl rfl ?_
        refine St.p rfl rfl ?_
        obtain ⟨x1, hx1, h1⟩ := bnd_e h1
        refine St.ixL hx1 rfl rfl rfl (.head _) rfl rfl rfl rfl rfl fun b1 ob1 => ?_
        refine St.load ob1 0 rfl rfl (.head _) rfl rfl ?_
        refine St.p rfl rfl ?_
        refine St.p rfl rfl ?_
        obtain ⟨x2, hx2, h1⟩ := bnd_e h1
        refine St.ixL hx2 rfl rfl rfl (.tail _ (.tail _ (.head _))) rfl rfl rfl rfl rfl fun b2 ob2 => ?_
        refine St.load ob2 0 rfl rfl (.head _) rfl rfl ?_
        refine St.p rfl rfl ?_
        refine St.doneQ ?_
        refine St.thenN ?_
        refine St.prune (Γ' := [(0, _), (1, _), (5, _), (25, _)]) ⟨rfl, rfl, rfl, rfl, trivial⟩ (.d (.d (.k (.k .z)))) ?_
        refine St.cond _ rfl (fun hb3 => ?_) (fun hb3 => ?_)
        · replace h1 := bif_t hb3 h1
          refine St.seq ?_
          refine St.region ?_
          refine St.p rfl rfl ?_
          refine St.done ?_
          refine St.thenN ?_
          refine St.prune (Γ' := [(4, _)]) ⟨rfl, trivial⟩ (.d (.d .z)) ?_
          refine St.ret ?_
          repeat (first | refine St.thenR ?_ | refine St.blkR ?_)
          injection h1 with h1
          subst h1
          have ho := hd1 _ rfl
          subst ho
          have h : some _ = some _ := h
          injection h with h
          subst h
          exact St.finR Try.results16 (.tmp rfl .nil) rfl [] ⟨rfl, rfl⟩ (fun _ w => (.z : Keep _ _).sat w)
        · replace h1 := bif_f hb3 h1
          refine St.skip ?_
          refine St.blkN ?_
          refine St.thenN ?_
          refine St.prune (Γ' := [(0, _), (1, _), (5, _)]) ⟨rfl, rfl, rfl, trivial⟩ (.k (.k .z)) ?_
          refine St.region ?_
          iterate 3 refine St.p rfl rfl ?_
          refine St.done ?_
          injection h1 with h1
          subst h1
          refine St.thenN ?_
          exact St.again _ () hm1 trivial ⟨rfl, rfl, rfl, trivial⟩ (fun _ w => ((.k (.k .z)) : Keep _ _).sat w)
      · replace h1 := bif_f hb2 h1
        refine St.exit ?_
        repeat (first | refine St.thenX ?_ | refine St.blkMiss rfl ?_)
        refine St.blkHit ?_
        injection h1 with h1
        subst h1
        have ho := hd1 _ rfl
        subst ho
        refine St.thenN ?_
        exact St.hereI () () rfl trivial (fun _ w => ((.d (.d .z)) : Keep _ _).sat w)
    · rintro o2 e2 ho
      subst ho
      have h := unR h
      refine St.seq ?_
      refine St.region ?_
      refine St.p rfl rfl ?_
      refine St.done ?_
      refine St.thenN ?_
      refine St.ret ?_
      repeat (first | refine St.thenR ?_ | refine St.blkR ?_)
      injection h with h
      subst h
      exact St.finR Try.results16 (.tmp rfl .nil) rfl [] ⟨rfl, rfl⟩ (fun _ w => (.z : Keep _ _).sat w)

theorem ent11 : Ent Try.prog 11 := ⟨_, Try.func11, by kernel_rfl, by kernel_rfl⟩

noncomputable def m_law19_awake  : Option Bool :=
  bnd (m_law19_known 0 (⟨#[65]⟩)) fun r1 => bnd (m_law19_known 1 (⟨#[66]⟩)) fun r2 => bnd (m_law19_known 0 (⟨#[66]⟩)) fun r3 => bnd (m_law19_known 2 (⟨#[65]⟩)) fun r4 => bnd (m_inventory_Compare ([r1, r2]) ([r3, r4])) fun r5 => bnd ((bif (r5.2 == 0) then (bnd (m_ref19_SameDifferences r5.1 ([(⟨4, 0, 1⟩ : T_Difference), (⟨4, 2, 0⟩ : T_Difference)])) fun r6 => some r6) else (some false) : Option Bool)) fun o1 => some o1

theorem c_law19_awake  {r : Bool} (h : m_law19_awake = some r) :
    Fun Try.prog 11 [] [] (Val (.bool r)) := by
  unfold m_law19_awake at h
  refine Fun.intro Try.func11 rfl rfl rfl fun w R => ?_
  refine St.seq ?_
  refine St.region ?_
  refine St.p rfl rfl ?_
  refine St.done ?_
  refine St.thenN ?_
  refine St.prune (Γ' := []) trivial .z ?_
  refine St.seq ?_
  refine St.region ?_
  obtain ⟨r1, hr1, h⟩ := bnd_e h
  refine St.callV (c_law19_known hr1) ent21 rfl rfl rfl rfl trivial ?_
  obtain ⟨r2, hr2, h⟩ := bnd_e h
  refine St.callV (c_law19_known hr2) ent21 rfl rfl rfl rfl trivial ?_
  refine St.buildSlice rfl rfl rfl rfl rfl rfl rfl rfl fun g1 => ?_
  obtain ⟨r3, hr3, h⟩ := bnd_e h
  refine St.callV (c_law19_known hr3) ent21 rfl rfl rfl rfl trivial ?_
  obtain ⟨r4, hr4, h⟩ := bnd_e h
  refine St.callV (c_law19_known hr4) ent21 rfl rfl rfl rfl trivial ?_
  refine St.buildSlice rfl rfl rfl rfl rfl rfl rfl rfl fun g2 => ?_
  refine St.asrt (fun _ w => (w.front (.s .z)).litL (E := e_Known) (e := 45) [r1, r2] rfl rfl) ?_
  refine St.asrt (fun _ w => (w.front (.s .z)).litL (E := e_Known) (e := 45) [r3, r4] rfl rfl) ?_
  refine St.asrt (fun _ w => (w.front (.s .z)).meltL) ?_
  refine St.asrt (fun _ w => (w.front (.s .z)).meltL) ?_
  obtain ⟨r5, hr5, h⟩ := bnd_e h
  refine St.call (c_inventory_Compare hr5) ent14 rfl rfl rfl (fun _ w => Sat.dup (G := [.ro (SlL e_Known (some ⟨g1, 0, none⟩) ([r1, r2] : List T_Known).length ([r1, r2])), .ro (SlL e_Known (some ⟨g2, 0, none⟩) ([r3, r4] : List T_Known).length ([r3, r4]))]) rfl ⟨(.tail _ (.head _)), (.head _), trivial⟩ w) ?_
  rintro _ _ ⟨A1, c1, rfl, rfl⟩
  refine St.asrt (F' := .res (OwnL e_Difference 40 A1 c1 r5.1) :: .ro (SlL e_Known (some ⟨g2, 0, none⟩) ([r3, r4] : List T_Known).length ([r3, r4])) :: .ro (SlL e_Known (some ⟨g1, 0, none⟩) ([r1, r2] : List T_Known).length ([r1, r2])) :: R) (fun _ w => w) ?_
  iterate 5 refine St.p rfl rfl ?_
  refine St.done ?_
  refine St.thenN ?_
  refine St.prune (Γ' := [(1, _), (2, _)]) ⟨rfl, rfl, trivial⟩ (.k (.d (.d .z))) ?_
  refine St.seq ?_
  obtain ⟨o1, hj1, h⟩ := bnd_e h
  refine St.cutE (fun (e1 : Unit) => [(0, .bool o1)]) (fun e1 => R) ?_ ?_
  · refine St.region ?_
    iterate 3 refine St.p rfl rfl ?_
    refine St.gSplit (dj := 15) _ rfl (fun hb1 => ?_) (fun hb1 => ?_)
    · replace hj1 := bif_t hb1 hj1
      refine St.gOn (dj := 15) rfl rfl ?_
      refine St.p rfl rfl ?_
      refine St.gOn (dj := 15) rfl rfl ?_
      refine St.p rfl rfl ?_
      refine St.gOn (dj := 15) rfl rfl ?_
      refine St.p rfl rfl ?_
      refine St.gOn (dj := 15) rfl rfl ?_
      refine St.buildSlice rfl rfl rfl rfl rfl rfl rfl rfl fun g3 => ?_
      refine St.gOn (dj := 15) rfl rfl ?_
      refine St.asrt (fun _ w => (w.front .z).litL (E := e_Difference) (e := 40) [(⟨4, 0, 1⟩ : T_Difference), (⟨4, 2, 0⟩ : T_Difference)] rfl rfl) ?_
      refine St.asrt (fun _ w => (w.front (.s .z)).meltL) ?_
      refine St.asrt (fun _ w => (w.front (.s .z)).meltL) ?_
      obtain ⟨r6, hr6, hj1⟩ := bnd_e hj1
      refine St.callV (c_ref19_SameDifferences hr6) ent16 rfl rfl rfl rfl ⟨(.tail _ (.head _)), (.head _), trivial⟩ ?_
      refine St.p rfl rfl ?_
      refine St.p rfl rfl ?_
      refine St.done ?_
      injection hj1 with hj1
      subst hj1
      refine St.thenN ?_
      exact St.hereE () ⟨rfl, trivial⟩ (fun _ w => ((.d (.d .z)) : Keep _ _).sat w)
    · replace hj1 := bif_f hb1 hj1
      refine St.gOff (dj := 15) rfl rfl rfl rfl ?_
      refine St.gOff (dj := 15) rfl rfl rfl rfl ?_
      refine St.gOff (dj := 15) rfl rfl rfl rfl ?_
      refine St.gOff (dj := 15) rfl rfl rfl rfl ?_
      refine St.gOff (dj := 15) rfl rfl rfl rfl ?_
      refine St.p rfl rfl ?_
      refine St.p rfl rfl ?_
      refine St.done ?_
      injection hj1 with hj1
      subst hj1
      refine St.thenN ?_
      exact St.hereE () ⟨rfl, trivial⟩ (fun _ w => ((.d .z) : Keep _ _).sat w)
  · rintro e1
    refine St.ret ?_
    repeat (first | refine St.thenR ?_ | refine St.blkR ?_)
    injection h with h
    subst h
    exact St.finR Try.results11 (.tmp rfl .nil) rfl [] ⟨rfl, rfl⟩ (fun _ w => (.z : Keep _ _).sat w)

theorem ent12 : Ent Try.prog 12 := ⟨_, Try.func12, by kernel_rfl, by kernel_rfl⟩

noncomputable def m_made_Roll (l_p0 : (List Int)) : Option T_Dice :=
  some (⟨l_p0, 0⟩ : T_Dice)

theorem c_made_Roll {l_p0 : (List Int)} {A1 : Option Addr} {c1 : Nat} {r : T_Dice} (h : m_made_Roll l_p0 = some r) :
    Fun Try.prog 12 [.slice A1 l_p0.length c1] [.ro (SlL ei64 A1 c1 l_p0)] (fun v_ F_ => ∃ (g1 : Nat) (A1 : Option Addr) (c1 : Nat), v_ = .pointer (some ⟨g1, 0, none⟩) ∧ F_ = [.ro (SlL ei64 A1 c1 r.L), .res (Box g1 73 [.slice A1 r.L.length c1, .int .i64 r.At])]) := by
  unfold m_made_Roll at h
  refine Fun.intro Try.func12 rfl rfl rfl fun w R => ?_
  refine St.seq ?_
  refine St.region ?_
  refine St.p rfl rfl ?_
  refine St.done ?_
  refine St.thenN ?_
  refine St.prune (Γ' := [(0, _)]) ⟨rfl, trivial⟩ (.k .z) ?_
  refine St.seq ?_
  refine St.region ?_
  refine St.p rfl rfl ?_
  refine St.p rfl rfl ?_
  refine St.box rfl rfl fun g1 => ?_
  refine St.p rfl rfl ?_
  refine St.done ?_
  refine St.thenN ?_
  refine St.prune (Γ' := [(2, _)]) ⟨rfl, trivial⟩ (.k (.k .z)) ?_
  refine St.ret ?_
  repeat (first | refine St.thenR ?_ | refine St.blkR ?_)
  injection h with h
  subst h
  exact St.finR Try.results12 (.tmp rfl .nil) rfl [.ro (SlL ei64 A1 c1 l_p0), .res (Box g1 73 [.slice A1 l_p0.length c1, .int .i64 0])] ⟨g1, A1, c1, rfl, rfl⟩ (fun _ w => ((.k (.k (.d .z))) : Keep _ _).sat (Sat.dup (G := [.ro (SlL ei64 A1 c1 l_p0)]) rfl ⟨(.tail _ (.head _)), trivial⟩ w))

theorem ent20 : Ent Try.prog 20 := ⟨_, Try.func20, by kernel_rfl, by kernel_rfl⟩

noncomputable def m_made_Mod (n_p0 : Int) (m_p1 : Int) : Option Int :=
  bnd (remM n_p0 m_p1) fun q1 => bif decide (q1 < 0) then (some (IntKind.wrap .i64 (q1 + m_p1))) else (some q1)

theorem c_made_Mod {n_p0 : Int} {m_p1 : Int} {r : Int} (h : m_made_Mod n_p0 m_p1 = some r) :
    Fun Try.prog 20 [.int .i64 n_p0, .int .i64 m_p1] [] (Val (.int .i64 r)) := by
  unfold m_made_Mod at h
  refine Fun.intro Try.func20 rfl rfl rfl fun w R => ?_
  refine St.seq ?_
  refine St.region ?_
  refine St.p rfl rfl ?_
  refine St.done ?_
  refine St.thenN ?_
  refine St.prune (Γ' := [(0, _), (1, _)]) ⟨rfl, rfl, trivial⟩ .z ?_
  refine St.seq ?_
  refine St.region ?_
  refine St.p rfl rfl ?_
  refine St.p rfl rfl ?_
  obtain ⟨q1, hq1, h⟩ := bnd_e h
  refine St.rem rfl rfl rfl hq1 ?_
  refine St.p rfl rfl ?_
  refine St.done ?_
  refine St.thenN ?_
  refine St.prune (Γ' := [(0, _), (1, _)]) ⟨rfl, rfl, trivial⟩ .z ?_
  refine St.seq ?_
  refine St.seq ?_
  refine St.region ?_
  refine St.p rfl rfl ?_
  refine St.p rfl rfl ?_
  refine St.done ?_
  refine St.thenN ?_
  refine St.prune (Γ' := [(0, _), (1, _), (9, _)]) ⟨rfl, rfl, rfl, trivial⟩ .z ?_
  refine St.cond _ rfl (fun hb1 => ?_) (fun hb1 => ?_)
  · replace h := bif_t hb1 h
    refine St.region ?_
    iterate 4 refine St.p rfl rfl ?_
    refine St.done ?_
    refine St.thenN ?_
    refine St.prune (Γ' := [(0, _)]) ⟨rfl, trivial⟩ .z ?_
    refine St.seq ?_
    refine St.region ?_
    refine St.p rfl rfl ?_
    refine St.p rfl rfl ?_
    refine St.done ?_
    refine St.thenN ?_
    refine St.prune (Γ' := [(4, _)]) ⟨rfl, trivial⟩ .z ?_
    refine St.ret ?_
    repeat (first | refine St.thenR ?_ | refine St.blkR ?_)
    injection h with h
    subst h
    exact St.finR Try.results20 (.tmp rfl .nil) rfl [] ⟨rfl, rfl⟩ (fun _ w => (.z : Keep _ _).sat w)
  · replace h := bif_f hb1 h
    refine St.skip ?_
    refine St.thenN ?_
    refine St.prune (Γ' := [(0, _)]) ⟨rfl, trivial⟩ .z ?_
    refine St.seq ?_
    refine St.region ?_
    refine St.p rfl rfl ?_
    refine St.p rfl rfl ?_
    refine St.done ?_
    refine St.thenN ?_
    refine St.prune (Γ' := [(4, _)]) ⟨rfl, trivial⟩ .z ?_
    refine St.ret ?_
    repeat (first | refine St.thenR ?_ | refine St.blkR ?_)
    injection h with h
    subst h
    exact St.finR Try.results20 (.tmp rfl .nil) rfl [] ⟨rfl, rfl⟩ (fun _ w => (.z : Keep _ _).sat w)

theorem ent22 : Ent Try.prog 22 := ⟨_, Try.func22, by kernel_rfl, by kernel_rfl⟩

noncomputable def m_made_Dice_Next (d_p0 : T_Dice) (n_p1 : Int) : Option (T_Dice × Int) :=
  bif decide (d_p0.At ≥ (d_p0.L.length : Int)) then (some (d_p0, 0)) else (bnd (elt d_p0.L (IntKind.wrap .i64 ((IntKind.wrap .i64 (d_p0.At + 1)) - 1))) fun x1 => bnd (m_made_Mod x1 n_p1) fun r1 => some ((⟨d_p0.L, IntKind.wrap .i64 (d_p0.At + 1)⟩ : T_Dice), r1))

theorem c_made_Dice_Next {d_p0 : T_Dice} {n_p1 : Int} {A1 : Option Addr} {c1 : Nat} {gb1 : Nat} {r : (T_Dice × Int)} (h : m_made_Dice_Next d_p0 n_p1 = some r) :
    Fun Try.prog 22 [.pointer (some ⟨gb1, 0, none⟩), .int .i64 n_p1] [.ro (SlL ei64 A1 c1 d_p0.L), .res (Box gb1 73 [.slice A1 d_p0.L.length c1, .int .i64 d_p0.At])] (fun v_ F_ => ∃ (A1 : Option Addr) (c1 : Nat), v_ = .int .i64 r.2 ∧ F_ = [.ro (SlL ei64 A1 c1 r.1.L), .res (Box gb1 73 [.slice A1 r.1.L.length c1, .int .i64 r.1.At])]) := by
  unfold m_made_Dice_Next at h
  refine Fun.intro Try.func22 rfl rfl rfl fun w R => ?_
  refine St.seq ?_
  refine St.region ?_
  refine St.p rfl rfl ?_
  refine St.done ?_
  refine St.thenN ?_
  refine St.prune (Γ' := [(0, _), (1, _)]) ⟨rfl, rfl, trivial⟩ (.k (.k .z)) ?_
  refine St.seq ?_
  refine St.seq ?_
  refine St.regionF mixed (by kernel_rfl) ?_
  iterate 3 refine St.p rfl rfl ?_
  refine St.loadB 1 rfl rfl (.tail _ (.head _)) rfl rfl ?_
  iterate 3 refine St.p rfl rfl ?_
  refine St.loadB 0 rfl rfl (.tail _ (.head _)) rfl rfl ?_
  refine St.p rfl rfl ?_
  refine St.p rfl rfl ?_
  refine St.doneQ ?_
  refine St.thenN ?_
  refine St.prune (Γ' := [(0, _), (1, _), (14, _)]) ⟨rfl, rfl, rfl, trivial⟩ (.k (.k .z)) ?_
  refine St.cond _ rfl (fun hb1 => ?_) (fun hb1 => ?_)
  · replace h := bif_t hb1 h
    refine St.seq ?_
    refine St.region ?_
    refine St.p rfl rfl ?_
    refine St.done ?_
    refine St.thenN ?_
    refine St.prune (Γ' := [(4, _)]) ⟨rfl, trivial⟩ (.k (.k .z)) ?_
    refine St.ret ?_
    repeat (first | refine St.thenR ?_ | refine St.blkR ?_)
    injection h with h
    subst h
    exact St.finR Try.results22 (.tmp rfl .nil) rfl [.ro (SlL ei64 A1 c1 d_p0.L), .res (Box gb1 73 [.slice A1 d_p0.L.length c1, .int .i64 d_p0.At])] ⟨A1, c1, rfl, rfl⟩ (fun _ w => ((.k (.k (.d .z))) : Keep _ _).sat (Sat.dup (G := [.ro (SlL ei64 A1 c1 d_p0.L)]) rfl ⟨(.tail _ (.head _)), trivial⟩ (w.front (.s .z))))
  · replace h := bif_f hb1 h
    refine St.skip ?_
    refine St.thenN ?_
    refine St.prune (Γ' := [(0, _), (1, _)]) ⟨rfl, rfl, trivial⟩ (.k (.k .z)) ?_
    refine St.seq ?_
    refine St.region ?_
    iterate 3 refine St.p rfl rfl ?_
    refine St.loadB 1 rfl rfl (.tail _ (.head _)) rfl rfl ?_
    iterate 3 refine St.p rfl rfl ?_
    refine St.store 1 rfl rfl rfl rfl rfl rfl (.s .z) rfl ?_
    refine St.done ?_
    refine St.thenN ?_
    refine St.prune (Γ' := [(0, _), (1, _)]) ⟨rfl, rfl, trivial⟩ (.k (.k .z)) ?_
    refine St.seq ?_
    refine St.regionF mixed (by kernel_rfl) ?_
    iterate 3 refine St.p rfl rfl ?_
    refine St.loadB 0 rfl rfl (.head _) rfl rfl ?_
    iterate 3 refine St.p rfl rfl ?_
    refine St.loadB 1 rfl rfl (.head _) rfl rfl ?_
    refine St.p rfl rfl ?_
    obtain ⟨x1, hx1, h⟩ := bnd_e h
    refine St.ixL hx1 rfl rfl rfl (.tail _ (.head _)) rfl rfl rfl rfl rfl fun b1 ob1 => ?_
    refine St.load ob1 0 rfl rfl (.head _) rfl rfl ?_
    refine St.p rfl rfl ?_
    obtain ⟨r1, hr1, h⟩ := bnd_e h
    refine St.callV (c_made_Mod hr1) ent20 rfl rfl rfl rfl trivial ?_
    refine St.p rfl rfl ?_
    refine St.doneQ ?_
    refine St.thenN ?_
    refine St.prune (Γ' := [(4, _)]) ⟨rfl, trivial⟩ (.d (.k (.k .z))) ?_
    refine St.ret ?_
    repeat (first | refine St.thenR ?_ | refine St.blkR ?_)
    injection h with h
    subst h
    exact St.finR Try.results22 (.tmp rfl .nil) rfl [.ro (SlL ei64 A1 c1 d_p0.L), .res (Box gb1 73 [.slice A1 d_p0.L.length c1, .int .i64 (IntKind.wrap .i64 (d_p0.At + 1))])] ⟨A1, c1, rfl, rfl⟩ (fun _ w => ((.k (.k (.d .z))) : Keep _ _).sat (Sat.dup (G := [.ro (SlL ei64 A1 c1 d_p0.L)]) rfl ⟨(.tail _ (.head _)), trivial⟩ w))

theorem ent23 : Ent Try.prog 23 := ⟨_, Try.func23, by kernel_rfl, by kernel_rfl⟩

noncomputable def m_made_Dice_Bool (d_p0 : T_Dice) (n_p1 : Int) : Option (T_Dice × Bool) :=
  bnd (m_made_Dice_Next d_p0 n_p1) fun r1 => some (r1.1, (r1.2 == (IntKind.wrap .i64 (n_p1 - 1))))

theorem c_made_Dice_Bool {d_p0 : T_Dice} {n_p1 : Int} {A1 : Option Addr} {c1 : Nat} {gb1 : Nat} {r : (T_Dice × Bool)} (h : m_made_Dice_Bool d_p0 n_p1 = some r) :
    Fun Try.prog 23 [.pointer (some ⟨gb1, 0, none⟩), .int .i64 n_p1] [.ro (SlL ei64 A1 c1 d_p0.L), .res (Box gb1 73 [.slice A1 d_p0.L.length c1, .int .i64 d_p0.At])] (fun v_ F_ => ∃ (A1 : Option Addr) (c1 : Nat), v_ = .bool r.2 ∧ F_ = [.ro (SlL ei64 A1 c1 r.1.L), .res (Box gb1 73 [.slice A1 r.1.L.length c1, .int .i64 r.1.At])]) := by
  unfold m_made_Dice_Bool at h
  refine Fun.intro Try.func23 rfl rfl rfl fun w R => ?_
  refine St.seq ?_
  refine St.region ?_
  refine St.p rfl rfl ?_
  refine St.done ?_
  refine St.thenN ?_
  refine St.prune (Γ' := [(0, _), (1, _)]) ⟨rfl, rfl, trivial⟩ (.k (.k .z)) ?_
  refine St.seq ?_
  refine St.region ?_
  refine St.p rfl rfl ?_
  refine St.p rfl rfl ?_
  obtain ⟨r1, hr1, h⟩ := bnd_e h
  refine St.call (c_made_Dice_Next hr1) ent22 rfl rfl rfl (fun _ w => Sat.dup (G := [.ro (SlL ei64 A1 c1 d_p0.L)]) rfl ⟨(.tail _ (.head _)), trivial⟩ (w.front (.s .z))) ?_
  rintro _ _ ⟨A2, c2, rfl, rfl⟩
  refine St.asrt (F' := .ro (SlL ei64 A2 c2 r1.1.L) :: .res (Box gb1 73 [.slice A2 r1.1.L.length c2, .int .i64 r1.1.At]) :: .ro (SlL ei64 A1 c1 d_p0.L) :: R) (fun _ w => w) ?_
  iterate 4 refine St.p rfl rfl ?_
  refine St.done ?_
  refine St.thenN ?_
  refine St.prune (Γ' := [(4, _)]) ⟨rfl, trivial⟩ (.k (.k (.d .z))) ?_
  refine St.ret ?_
  repeat (first | refine St.thenR ?_ | refine St.blkR ?_)
  injection h with h
  subst h
  exact St.finR Try.results23 (.tmp rfl .nil) rfl [.ro (SlL ei64 A2 c2 r1.1.L), .res (Box gb1 73 [.slice A2 r1.1.L.length c2, .int .i64 r1.1.At])] ⟨A2, c2, rfl, rfl⟩ (fun _ w => ((.k (.k (.d .z))) : Keep _ _).sat (Sat.dup (G := [.ro (SlL ei64 A2 c2 r1.1.L)]) rfl ⟨(.tail _ (.head _)), trivial⟩ (w.front (.s .z))))

theorem ent13 : Ent Try.prog 13 := ⟨_, Try.func13, by kernel_rfl, by kernel_rfl⟩

noncomputable def m_made_Dice_Inventory (d_p0 : T_Dice) : Option (T_Dice × (List T_Known)) :=
  bnd (m_made_Dice_Next d_p0 3) fun r1 => bnd (loopM (τ := List T_Known × List Int × Int) (fun (s1 : List T_Known × Int × List Int × Int) => bif decide (s1.2.1 < 16) then (bnd (m_made_Dice_Bool (⟨s1.2.2.1, s1.2.2.2⟩ : T_Dice) 5) fun r2 => bnd (m_made_Dice_Next r2.1 3) fun r3 => bif !r2.2 then (bnd (m_made_Dice_Next r3.1 6) fun r4 => bnd (elt ([⟨#[]⟩, ⟨#[65, 49]⟩, ⟨#[66, 50]⟩, ⟨#[67, 51]⟩, ⟨#[68, 52]⟩, ⟨#[69, 53]⟩]) r4.2) fun x1 => bnd (app 40 s1.1 [(⟨s1.2.1, !r2.2, x1, IntKind.wrap .u32 r3.2⟩ : T_Known)]) fun l1 => bnd (m_made_Dice_Next r4.1 5) fun r5 => some (.next (l1, IntKind.wrap .i64 (s1.2.1 + (IntKind.wrap .i64 (1 + r5.2))), r5.1.L, r5.1.At))) else (bnd (app 40 s1.1 [(⟨s1.2.1, !r2.2, ⟨#[]⟩, IntKind.wrap .u32 r3.2⟩ : T_Known)]) fun l2 => bnd (m_made_Dice_Next r3.1 5) fun r6 => some (.next (l2, IntKind.wrap .i64 (s1.2.1 + (IntKind.wrap .i64 (1 + r6.2))), r6.1.L, r6.1.At)))) else (some (.done (s1.1, s1.2.2.1, s1.2.2.2)))) ([], r1.2, r1.1.L, r1.1.At)) fun o1 => some ((⟨o1.2.1, o1.2.2⟩ : T_Dice), o1.1)

theorem c_made_Dice_Inventory {d_p0 : T_Dice} {A1 : Option Addr} {c1 : Nat} {gb1 : Nat} {r : (T_Dice × (List T_Known))} (h : m_made_Dice_Inventory d_p0 = some r) :
    Fun Try.prog 13 [.pointer (some ⟨gb1, 0, none⟩)] [.ro (SlL ei64 A1 c1 d_p0.L), .res (Box gb1 73 [.slice A1 d_p0.L.length c1, .int .i64 d_p0.At])] (fun v_ F_ => ∃ (A1 : Option Addr) (c1 : Nat) (A2 : Option Addr) (c2 : Nat), v_ = .slice A2 r.2.length c2 ∧ F_ = [.ro (SlL ei64 A1 c1 r.1.L), .res (Box gb1 73 [.slice A1 r.1.L.length c1, .int .i64 r.1.At]), .res (OwnL e_Known 45 A2 c2 r.2)]) := by
  unfold m_made_Dice_Inventory at h
  refine Fun.intro Try.func13 rfl rfl rfl fun w R => ?_
  refine St.seq ?_
  refine St.region ?_
  refine St.p rfl rfl ?_
  refine St.done ?_
  refine St.thenN ?_
  refine St.prune (Γ' := [(0, _)]) ⟨rfl, trivial⟩ (.k (.k .z)) ?_
  refine St.seq ?_
  refine St.region ?_
  refine St.p rfl rfl ?_
  refine St.alloc rfl rfl fun g1 => ?_
  refine St.store 0 rfl rfl rfl rfl rfl rfl .z rfl ?_
  refine St.asrt (fun _ w => (w.front .z).litL (E := estr) (e := 74) [⟨#[]⟩, ⟨#[65, 49]⟩, ⟨#[66, 50]⟩, ⟨#[67, 51]⟩, ⟨#[68, 52]⟩, ⟨#[69, 53]⟩] rfl rfl) ?_
  refine St.done ?_
  refine St.thenN ?_
  refine St.prune (Γ' := [(0, _), (3, _)]) ⟨rfl, rfl, trivial⟩ (.k (.k (.k .z))) ?_
  refine St.seq ?_
  refine St.region ?_
  refine St.p rfl rfl ?_
  refine St.done ?_
  refine St.thenN ?_
  refine St.seq ?_
  refine St.seq ?_
  refine St.region ?_
  refine St.p rfl rfl ?_
  obtain ⟨r1, hr1, h⟩ := bnd_e h
  refine St.call (c_made_Dice_Next hr1) ent22 rfl rfl rfl (fun _ w => Sat.dup (G := [.ro (SlL ei64 A1 c1 d_p0.L)]) rfl ⟨(.tail _ (.tail _ (.head _))), trivial⟩ (w.front (.s (.s .z)))) ?_
  rintro _ _ ⟨A2, c2, rfl, rfl⟩
  refine St.asrt (F' := .ro (SlL ei64 A2 c2 r1.1.L) :: .res (Box gb1 73 [.slice A2 r1.1.L.length c2, .int .i64 r1.1.At]) :: .res (OwnL estr 74 (some ⟨g1, 0, none⟩) ([⟨#[]⟩, ⟨#[65, 49]⟩, ⟨#[66, 50]⟩, ⟨#[67, 51]⟩, ⟨#[68, 52]⟩, ⟨#[69, 53]⟩] : List ByteArray).length ([⟨#[]⟩, ⟨#[65, 49]⟩, ⟨#[66, 50]⟩, ⟨#[67, 51]⟩, ⟨#[68, 52]⟩, ⟨#[69, 53]⟩])) :: .ro (SlL ei64 A1 c1 d_p0.L) :: R) (fun _ w => w) ?_
  refine St.p rfl rfl ?_
  refine St.done ?_
  refine St.thenN ?_
  refine St.prune (Γ' := [(0, _), (3, _), (4, _), (5, _)]) ⟨rfl, rfl, rfl, rfl, trivial⟩ (.k (.k (.k (.d .z)))) ?_
  refine St.asrt (fun _ w => w.nilL e_Known 45) ?_
  obtain ⟨o1, hl1, h⟩ := bnd_e h
  refine St.cutE (fun (e2 : Option Addr × Nat × Option Addr × Nat) => [(4, .slice e2.1 o1.1.length e2.2.1)]) (fun e2 => .ro (SlL ei64 e2.2.2.1 e2.2.2.2 o1.2.1) :: .res (OwnL e_Known 45 e2.1 e2.2.1 o1.1) :: .res (Box gb1 73 [.slice e2.2.2.1 o1.2.1.length e2.2.2.2, .int .i64 o1.2.2]) :: R) ?_ ?_
  · refine St.block ?_
    refine St.loop hl1 (fun (s1 : List T_Known × Int × List Int × Int) (e1 : Option Addr × Nat × Option Addr × Nat) => [(0, .pointer (some ⟨gb1, 0, none⟩)), (3, .pointer (some ⟨g1, 0, none⟩)), (4, .slice e1.1 s1.1.length e1.2.1), (5, .int .i64 s1.2.1)]) (fun s1 e1 => .ro (SlL ei64 e1.2.2.1 e1.2.2.2 s1.2.2.1) :: .res (OwnL e_Known 45 e1.1 e1.2.1 s1.1) :: .res (Box gb1 73 [.slice e1.2.2.1 s1.2.2.1.length e1.2.2.2, .int .i64 s1.2.2.2]) :: .res (OwnL estr 74 (some ⟨g1, 0, none⟩) ([⟨#[]⟩, ⟨#[65, 49]⟩, ⟨#[66, 50]⟩, ⟨#[67, 51]⟩, ⟨#[68, 52]⟩, ⟨#[69, 53]⟩] : List ByteArray).length ([⟨#[]⟩, ⟨#[65, 49]⟩, ⟨#[66, 50]⟩, ⟨#[67, 51]⟩, ⟨#[68, 52]⟩, ⟨#[69, 53]⟩])) :: R) (fun _ _ => True) (none, 0, A2, c2) trivial ⟨rfl, rfl, rfl, rfl, trivial⟩ (fun _ w => ((.k (.k (.k (.k .z)))) : Keep _ _).sat ((((w.front (.s (.s (.s .z)))).front (.s (.s (.s .z)))).front (.s (.s .z))).front (.s (.s (.s .z))))) ?_
    rintro s1 ⟨A3, c3, A4, c4⟩ - hit1
    obtain ⟨st1, hm1, hd1⟩ := iter_e hit1
    have h1 := hm1
    refine St.seq ?_
    refine St.seq ?_
    refine St.region ?_
    refine St.p rfl rfl ?_
    refine St.p rfl rfl ?_
    refine St.done ?_
    refine St.thenN ?_
    refine St.prune (Γ' := [(0, _), (3, _), (4, _), (5, _), (11, _)]) ⟨rfl, rfl, rfl, rfl, rfl, trivial⟩ (.k (.k (.k (.k .z)))) ?_
    refine St.cond _ rfl (fun hb1 => ?_) (fun hb1 => ?_)
    · replace h1 := bif_t hb1 h1
      refine St.skip ?_
      refine St.thenN ?_
      refine St.prune (Γ' := [(0, _), (3, _), (4, _), (5, _)]) ⟨rfl, rfl, rfl, rfl, trivial⟩ (.k (.k (.k (.k .z)))) ?_
      refine St.seq ?_
      refine St.block ?_
      refine St.seq ?_
      refine St.region ?_
      refine St.p rfl rfl ?_
      refine St.p rfl rfl ?_
      obtain ⟨r2, hr2, h1⟩ := bnd_e h1
      refine St.call (c_made_Dice_Bool hr2) ent23 rfl rfl rfl (fun _ w => Sat.dup (G := [.ro (SlL ei64 A4 c4 s1.2.2.1)]) rfl ⟨(.tail _ (.head _)), trivial⟩ (w.front (.s (.s .z)))) ?_
      rintro _ _ ⟨A7, c7, rfl, rfl⟩
      refine St.asrt (F' := .ro (SlL ei64 A7 c7 r2.1.L) :: .res (Box gb1 73 [.slice A7 r2.1.L.length c7, .int .i64 r2.1.At]) :: .ro (SlL ei64 A4 c4 s1.2.2.1) :: .res (OwnL e_Known 45 A3 c3 s1.1) :: .res (OwnL estr 74 (some ⟨g1, 0, none⟩) ([⟨#[]⟩, ⟨#[65, 49]⟩, ⟨#[66, 50]⟩, ⟨#[67, 51]⟩, ⟨#[68, 52]⟩, ⟨#[69, 53]⟩] : List ByteArray).length ([⟨#[]⟩, ⟨#[65, 49]⟩, ⟨#[66, 50]⟩, ⟨#[67, 51]⟩, ⟨#[68, 52]⟩, ⟨#[69, 53]⟩])) :: R) (fun _ w => w) ?_
      refine St.p rfl rfl ?_
      refine St.p rfl rfl ?_
      obtain ⟨r3, hr3, h1⟩ := bnd_e h1
      refine St.call (c_made_Dice_Next hr3) ent22 rfl rfl rfl (fun _ w => Sat.dup (G := [.ro (SlL ei64 A7 c7 r2.1.L)]) rfl ⟨(.tail _ (.head _)), trivial⟩ (w.front (.s .z))) ?_
      rintro _ _ ⟨A8, c8, rfl, rfl⟩
      refine St.asrt (F' := .ro (SlL ei64 A8 c8 r3.1.L) :: .res (Box gb1 73 [.slice A8 r3.1.L.length c8, .int .i64 r3.1.At]) :: .ro (SlL ei64 A7 c7 r2.1.L) :: .ro (SlL ei64 A4 c4 s1.2.2.1) :: .res (OwnL e_Known 45 A3 c3 s1.1) :: .res (OwnL estr 74 (some ⟨g1, 0, none⟩) ([⟨#[]⟩, ⟨#[65, 49]⟩, ⟨#[66, 50]⟩, ⟨#[67, 51]⟩, ⟨#[68, 52]⟩, ⟨#[69, 53]⟩] : List ByteArray).length ([⟨#[]⟩, ⟨#[65, 49]⟩, ⟨#[66, 50]⟩, ⟨#[67, 51]⟩, ⟨#[68, 52]⟩, ⟨#[69, 53]⟩])) :: R) (fun _ w => w) ?_
      refine St.p rfl rfl ?_
      refine St.p rfl rfl ?_
      refine St.alloc rfl rfl fun g2 => ?_
      refine St.store 0 rfl rfl rfl rfl rfl rfl .z rfl ?_
      refine St.done ?_
      refine St.thenN ?_
      refine St.prune (Γ' := [(0, _), (3, _), (4, _), (5, _), (6, _)]) ⟨rfl, rfl, rfl, rfl, rfl, trivial⟩ (.k (.k (.k (.d (.d (.k (.k .z))))))) ?_
      refine St.seq ?_
      refine St.seq ?_
      refine St.region ?_
      refine St.p rfl rfl ?_
      refine St.loadB 1 rfl rfl (.head _) rfl rfl ?_
      refine St.done ?_
      refine St.thenN ?_
      refine St.prune (Γ' := [(0, _), (3, _), (4, _), (5, _), (6, _), (26, _)]) ⟨rfl, rfl, rfl, rfl, rfl, rfl, trivial⟩ (.k (.k (.k (.k (.k .z))))) ?_
      refine St.cond _ rfl (fun hb2 => ?_) (fun hb2 => ?_)
      · replace h1 := bif_t hb2 h1
        refine St.region ?_
        refine St.p rfl rfl ?_
        obtain ⟨r4, hr4, h1⟩ := bnd_e h1
        refine St.call (c_made_Dice_Next hr4) ent22 rfl rfl rfl (fun _ w => Sat.dup (G := [.ro (SlL ei64 A8 c8 r3.1.L)]) rfl ⟨(.tail _ (.tail _ (.head _))), trivial⟩ (w.front (.s (.s .z)))) ?_
        rintro _ _ ⟨A9, c9, rfl, rfl⟩
        refine St.asrt (F' := .ro (SlL ei64 A9 c9 r4.1.L) :: .res (Box gb1 73 [.slice A9 r4.1.L.length c9, .int .i64 r4.1.At]) :: .res (Box g2 45 [.int .i64 s1.2.1, .bool (!r2.2), .string (⟨#[]⟩), .int .u32 (IntKind.wrap .u32 r3.2)]) :: .ro (SlL ei64 A8 c8 r3.1.L) :: .res (OwnL e_Known 45 A3 c3 s1.1) :: .res (OwnL estr 74 (some ⟨g1, 0, none⟩) ([⟨#[]⟩, ⟨#[65, 49]⟩, ⟨#[66, 50]⟩, ⟨#[67, 51]⟩, ⟨#[68, 52]⟩, ⟨#[69, 53]⟩] : List ByteArray).length ([⟨#[]⟩, ⟨#[65, 49]⟩, ⟨#[66, 50]⟩, ⟨#[67, 51]⟩, ⟨#[68, 52]⟩, ⟨#[69, 53]⟩])) :: R) (fun _ w => w) ?_
        obtain ⟨x1, hx1, h1⟩ := bnd_e h1
        refine St.ixA (sz := 1) hx1 rfl rfl rfl rfl rfl rfl rfl rfl ?_
        refine St.ldO 0 hx1 rfl rfl (.tail _ (.tail _ (.tail _ (.tail _ (.tail _ (.head _)))))) rfl rfl ?_
        refine St.p rfl rfl ?_
        refine St.store 2 rfl rfl rfl rfl rfl rfl (.s (.s .z)) rfl ?_
        refine St.done ?_
        refine St.thenN ?_
        refine St.prune (Γ' := [(0, _), (3, _), (4, _), (5, _), (6, _)]) ⟨rfl, rfl, rfl, rfl, rfl, trivial⟩ (.k (.k (.k (.d (.k (.k .z)))))) ?_
        refine St.region ?_
        refine St.p rfl rfl ?_
        refine St.loadB 0 rfl rfl (.head _) rfl rfl ?_
        refine St.buildSlice rfl rfl rfl rfl rfl rfl rfl rfl fun g3 => ?_
        obtain ⟨l1, hl1, h1⟩ := bnd_e h1
        refine St.app (E := e_Known) hl1 rfl rfl rfl (.s (.s (.s (.s .z)))) rfl rfl rfl rfl rfl rfl rfl rfl (srcB (.head _) rfl rfl) rfl rfl fun A10 c10 => ?_
        refine St.p rfl rfl ?_
        refine St.done ?_
        refine St.blkN ?_
        refine St.thenN ?_
        refine St.prune (Γ' := [(0, _), (3, _), (4, _), (5, _)]) ⟨rfl, rfl, rfl, rfl, trivial⟩ (.k (.d (.d (.k (.k (.k .z)))))) ?_
        refine St.region ?_
        refine St.p rfl rfl ?_
        refine St.p rfl rfl ?_
        obtain ⟨r5, hr5, h1⟩ := bnd_e h1
        refine St.call (c_made_Dice_Next hr5) ent22 rfl rfl rfl (fun _ w => Sat.dup (G := [.ro (SlL ei64 A9 c9 r4.1.L)]) rfl ⟨(.tail _ (.tail _ (.head _))), trivial⟩ (w.front (.s (.s .z)))) ?_
        rintro _ _ ⟨A11, c11, rfl, rfl⟩
        refine St.asrt (F' := .ro (SlL ei64 A11 c11 r5.1.L) :: .res (Box gb1 73 [.slice A11 r5.1.L.length c11, .int .i64 r5.1.At]) :: .res (OwnL e_Known 45 A10 c10 l1) :: .ro (SlL ei64 A9 c9 r4.1.L) :: .res (OwnL estr 74 (some ⟨g1, 0, none⟩) ([⟨#[]⟩, ⟨#[65, 49]⟩, ⟨#[66, 50]⟩, ⟨#[67, 51]⟩, ⟨#[68, 52]⟩, ⟨#[69, 53]⟩] : List ByteArray).length ([⟨#[]⟩, ⟨#[65, 49]⟩, ⟨#[66, 50]⟩, ⟨#[67, 51]⟩, ⟨#[68, 52]⟩, ⟨#[69, 53]⟩])) :: R) (fun _ w => w) ?_
        iterate 3 refine St.p rfl rfl ?_
        refine St.done ?_
        injection h1 with h1
        subst h1
        refine St.thenN ?_
        exact St.again _ (A10, c10, A11, c11) hm1 trivial ⟨rfl, rfl, rfl, rfl, trivial⟩ (fun _ w => ((.k (.k (.k (.k (.d .z))))) : Keep _ _).sat ((((w.front (.s (.s (.s (.s .z))))).front (.s (.s .z))).front (.s (.s (.s .z)))).front (.s (.s (.s .z)))))
      · replace h1 := bif_f hb2 h1
        refine St.skip ?_
        refine St.thenN ?_
        refine St.prune (Γ' := [(0, _), (3, _), (4, _), (5, _), (6, _)]) ⟨rfl, rfl, rfl, rfl, rfl, trivial⟩ (.k (.k (.k (.k (.k .z))))) ?_
        refine St.region ?_
        refine St.p rfl rfl ?_
        refine St.loadB 0 rfl rfl (.head _) rfl rfl ?_
        refine St.buildSlice rfl rfl rfl rfl rfl rfl rfl rfl fun g4 => ?_
        obtain ⟨l2, hl2, h1⟩ := bnd_e h1
        refine St.app (E := e_Known) hl2 rfl rfl rfl (.s (.s (.s (.s .z)))) rfl rfl rfl rfl rfl rfl rfl rfl (srcB (.head _) rfl rfl) rfl rfl fun A12 c12 => ?_
        refine St.p rfl rfl ?_
        refine St.done ?_
        refine St.blkN ?_
        refine St.thenN ?_
        refine St.prune (Γ' := [(0, _), (3, _), (4, _), (5, _)]) ⟨rfl, rfl, rfl, rfl, trivial⟩ (.k (.d (.d (.k (.k (.k .z)))))) ?_
        refine St.region ?_
        refine St.p rfl rfl ?_
        refine St.p rfl rfl ?_
        obtain ⟨r6, hr6, h1⟩ := bnd_e h1
        refine St.call (c_made_Dice_Next hr6) ent22 rfl rfl rfl (fun _ w => Sat.dup (G := [.ro (SlL ei64 A8 c8 r3.1.L)]) rfl ⟨(.tail _ (.tail _ (.head _))), trivial⟩ (w.front (.s (.s .z)))) ?_
        rintro _ _ ⟨A13, c13, rfl, rfl⟩
        refine St.asrt (F' := .ro (SlL ei64 A13 c13 r6.1.L) :: .res (Box gb1 73 [.slice A13 r6.1.L.length c13, .int .i64 r6.1.At]) :: .res (OwnL e_Known 45 A12 c12 l2) :: .ro (SlL ei64 A8 c8 r3.1.L) :: .res (OwnL estr 74 (some ⟨g1, 0, none⟩) ([⟨#[]⟩, ⟨#[65, 49]⟩, ⟨#[66, 50]⟩, ⟨#[67, 51]⟩, ⟨#[68, 52]⟩, ⟨#[69, 53]⟩] : List ByteArray).length ([⟨#[]⟩, ⟨#[65, 49]⟩, ⟨#[66, 50]⟩, ⟨#[67, 51]⟩, ⟨#[68, 52]⟩, ⟨#[69, 53]⟩])) :: R) (fun _ w => w) ?_
        iterate 3 refine St.p rfl rfl ?_
        refine St.done ?_
        injection h1 with h1
        subst h1
        refine St.thenN ?_
        exact St.again _ (A12, c12, A13, c13) hm1 trivial ⟨rfl, rfl, rfl, rfl, trivial⟩ (fun _ w => ((.k (.k (.k (.k (.d .z))))) : Keep _ _).sat ((((w.front (.s (.s (.s (.s .z))))).front (.s (.s .z))).front (.s (.s (.s .z)))).front (.s (.s (.s .z)))))
    · replace h1 := bif_f hb1 h1
      refine St.exit ?_
      repeat (first | refine St.thenX ?_ | refine St.blkMiss rfl ?_)
      refine St.blkHit ?_
      injection h1 with h1
      subst h1
      have ho := hd1 _ rfl
      subst ho
      refine St.thenN ?_
      exact St.hereE (A3, c3, A4, c4) ⟨rfl, trivial⟩ (fun _ w => ((.k (.k (.k (.d .z)))) : Keep _ _).sat w)
  · rintro ⟨A5, c5, A6, c6⟩
    refine St.seq ?_
    refine St.region ?_
    refine St.p rfl rfl ?_
    refine St.p rfl rfl ?_
    refine St.done ?_
    refine St.thenN ?_
    refine St.prune (Γ' := [(2, _)]) ⟨rfl, trivial⟩ (.k (.k (.k .z))) ?_
    refine St.ret ?_
    repeat (first | refine St.thenR ?_ | refine St.blkR ?_)
    injection h with h
    subst h
    exact St.finR Try.results13 (.tmp rfl .nil) rfl [.ro (SlL ei64 A6 c6 o1.2.1), .res (Box gb1 73 [.slice A6 o1.2.1.length c6, .int .i64 o1.2.2]), .res (OwnL e_Known 45 A5 c5 o1.1)] ⟨A6, c6, A5, c5, rfl, rfl⟩ (fun _ w => ((.k (.k (.k (.d .z)))) : Keep _ _).sat (Sat.dup (G := [.ro (SlL ei64 A6 c6 o1.2.1)]) rfl ⟨(.tail _ (.tail _ (.head _))), trivial⟩ ((w.front (.s .z)).front (.s (.s .z)))))

theorem ent18 : Ent Try.prog 18 := ⟨_, Try.func18, by kernel_rfl, by kernel_rfl⟩

noncomputable def m_ref19_Valid (l_p0 : (List T_Known)) : Option Bool :=
  bnd (loopM (τ := Bool ⊕ Unit) (fun (s1 : Int) => bif decide (s1 < (l_p0.length : Int)) then (bnd ((bnd (elt l_p0 s1) fun x1 => bif decide (x1.Slot < 0) then (some true) else (bif decide (x1.Slot ≥ 16) then (some true) else (bif decide (s1 > 0) then (bnd (elt l_p0 (IntKind.wrap .i64 (s1 - 1))) fun x2 => bif decide (x1.Slot ≤ x2.Slot) then (some true) else (bif decide ((x1.Serial.size : Int) > 23) then (some true) else (bif !x1.Good then (some (!(x1.Serial.toList == ((⟨#[]⟩) : ByteArray).toList))) else (some false)))) else (bif decide ((x1.Serial.size : Int) > 23) then (some true) else (bif !x1.Good then (some (!(x1.Serial.toList == ((⟨#[]⟩) : ByteArray).toList))) else (some false))))) : Option Bool)) fun o3 => bif o3 then (some (.done (.inl false))) else (some (.next (IntKind.wrap .i64 (s1 + 1))))) else (some (.done (.inr ())))) 0) fun o1 => retOr o1 fun o2 => some true

set_option maxHeartbeats 4000000 in
theorem c_ref19_Valid {l_p0 : (List T_Known)} {A1 : Option Addr} {c1 : Nat} {r : Bool} (h : m_ref19_Valid l_p0 = some r) :
    Fun Try.prog 18 [.slice A1 l_p0.length c1] [.ro (SlL e_Known A1 c1 l_p0)] (Val (.bool r)) := by
  unfold m_ref19_Valid at h
  refine Fun.intro Try.func18 rfl rfl rfl fun w R => ?_
  refine St.seq ?_
  refine St.region ?_
  refine St.p rfl rfl ?_
  refine St.done ?_
  refine St.thenN ?_
  refine St.prune (Γ' := [(0, _)]) ⟨rfl, trivial⟩ (.k .z) ?_
  refine St.seq ?_
  refine St.seq ?_
  refine St.region ?_
  refine St.p rfl rfl ?_
  refine St.done ?_
  refine St.thenN ?_
  obtain ⟨o1, hl1, h⟩ := bnd_e h
  refine St.cutI (fun (o2 : Unit) (e2 : Unit) => []) (fun o2 e2 => R) (fun o2 => o1 = .inr o2) ?_ ?_
  · refine St.block ?_
    refine St.loop hl1 (fun (s1 : Int) (e1 : Unit) => [(0, .slice A1 l_p0.length c1), (3, .int .i64 s1)]) (fun s1 e1 => .ro (SlL e_Known A1 c1 l_p0) :: R) (fun _ _ => True) () trivial ⟨rfl, rfl, trivial⟩ (fun _ w => ((.k .z) : Keep _ _).sat w) ?_
    rintro s1 e1 - hit1
    obtain ⟨st1, hm1, hd1⟩ := iter_e hit1
    have h1 := hm1
    refine St.seq ?_
    refine St.seq ?_
    refine St.region ?_
    iterate 4 refine St.p rfl rfl ?_
    refine St.done ?_
    refine St.thenN ?_
    refine St.prune (Γ' := [(0, _), (3, _), (7, _)]) ⟨rfl, rfl, rfl, trivial⟩ (.k .z) ?_
    refine St.cond _ rfl (fun hb1 => ?_) (fun hb1 => ?_)
    · replace h1 := bif_t hb1 h1
      refine St.skip ?_
      refine St.thenN ?_
      refine St.prune (Γ' := [(0, _), (3, _)]) ⟨rfl, rfl, trivial⟩ (.k .z) ?_
      refine St.seq ?_
      refine St.block ?_
      refine St.seq ?_
      obtain ⟨o3, hj1, h1⟩ := bnd_e h1
      refine St.cutE (fun (e3 : Unit) => [(0, .slice A1 l_p0.length c1), (3, .int .i64 s1), (66, .bool o3)]) (fun e3 => .ro (SlL e_Known A1 c1 l_p0) :: R) ?_ ?_
      · refine St.regionF mixed (by kernel_rfl) ?_
        refine St.p rfl rfl ?_
        refine St.p rfl rfl ?_
        obtain ⟨x1, hx1, hj1⟩ := bnd_e hj1
        refine St.ixL hx1 rfl rfl rfl (.head _) rfl rfl rfl rfl rfl fun b1 ob1 => ?_
        refine St.p rfl rfl ?_
        refine St.load ob1 0 rfl rfl (.head _) rfl rfl ?_
        refine St.p rfl rfl ?_
        refine St.p rfl rfl ?_
        refine St.gSplit (dj := 16) _ rfl (fun hb2 => ?_) (fun hb2 => ?_)
        · replace hj1 := bif_t hb2 hj1
          refine St.gOff (dj := 16) rfl rfl rfl rfl ?_
          refine St.gOff (dj := 16) rfl rfl rfl rfl ?_
          refine St.gOff (dj := 16) rfl rfl rfl rfl ?_
          refine St.gOff (dj := 16) rfl rfl rfl rfl ?_
          refine St.gOff (dj := 16) rfl rfl rfl rfl ?_
          refine St.gOff (dj := 16) rfl rfl rfl rfl ?_
          refine St.p rfl rfl ?_
          refine St.p rfl rfl ?_
          refine St.gOff (dj := 24) rfl rfl rfl rfl ?_
          refine St.gOff (dj := 24) rfl rfl rfl rfl ?_
          refine St.gOff (dj := 24) rfl rfl rfl rfl ?_
          refine St.gOff (dj := 27) rfl rfl rfl rfl ?_
          refine St.gOff (dj := 27) rfl rfl rfl rfl ?_
          refine St.gOff (dj := 27) rfl rfl rfl rfl ?_
          refine St.gOff (dj := 27) rfl rfl rfl rfl ?_
          refine St.gOff (dj := 27) rfl rfl rfl rfl ?_
          refine St.gOff (dj := 27) rfl rfl rfl rfl ?_
          refine St.gOff (dj := 27) rfl rfl rfl rfl ?_
          refine St.gOff (dj := 27) rfl rfl rfl rfl ?_
          refine St.gOff (dj := 27) rfl rfl rfl rfl ?_
          refine St.gOff (dj := 27) rfl rfl rfl rfl ?_
          refine St.gOff (dj := 27) rfl rfl rfl rfl ?_
          refine St.gOff (dj := 27) rfl rfl rfl rfl ?_
          refine St.gOff (dj := 24) rfl rfl rfl rfl ?_
          refine St.p rfl rfl ?_
          refine St.p rfl rfl ?_
          refine St.gOff (dj := 42) rfl rfl rfl rfl ?_
          refine St.gOff (dj := 42) rfl rfl rfl rfl ?_
          refine St.gOff (dj := 42) rfl rfl rfl rfl ?_
          refine St.gOff (dj := 42) rfl rfl rfl rfl ?_
          refine St.gOff (dj := 42) rfl rfl rfl rfl ?_
          refine St.gOff (dj := 42) rfl rfl rfl rfl ?_
          refine St.gOff (dj := 42) rfl rfl rfl rfl ?_
          refine St.p rfl rfl ?_
          refine St.p rfl rfl ?_
          refine St.gOff (dj := 51) rfl rfl rfl rfl ?_
          refine St.gOff (dj := 51) rfl rfl rfl rfl ?_
          refine St.gOff (dj := 51) rfl rfl rfl rfl ?_
          refine St.gOff (dj := 51) rfl rfl rfl rfl ?_
          refine St.gOff (dj := 51) rfl rfl rfl rfl ?_
          refine St.gOff (dj := 51) rfl rfl rfl rfl ?_
          refine St.gOff (dj := 51) rfl rfl rfl rfl ?_
          refine St.gOff (dj := 58) rfl rfl rfl rfl ?_
          refine St.gOff (dj := 58) rfl rfl rfl rfl ?_
          refine St.gOff (dj := 58) rfl rfl rfl rfl ?_
          refine St.gOff (dj := 58) rfl rfl rfl rfl ?_
          refine St.gOff (dj := 58) rfl rfl rfl rfl ?_
          refine St.gOff (dj := 58) rfl rfl rfl rfl ?_
          refine St.gOff (dj := 51) rfl rfl rfl rfl ?_
          refine St.p rfl rfl ?_
          refine St.doneQ ?_
          injection hj1 with hj1
          subst hj1
          refine St.thenN ?_
          exact St.hereE () ⟨rfl, rfl, rfl, trivial⟩ (fun _ w => ((.d (.k .z)) : Keep _ _).sat w)
        · replace hj1 := bif_f hb2 hj1
          refine St.gOn (dj := 16) rfl rfl ?_
          refine St.p rfl rfl ?_
          refine St.gOn (dj := 16) rfl rfl ?_
          refine St.p rfl rfl ?_
          refine St.gOn (dj := 16) rfl rfl ?_
          refine St.ixL hx1 rfl rfl rfl (.tail _ (.head _)) rfl rfl rfl rfl rfl fun b2 ob2 => ?_
          refine St.gOn (dj := 16) rfl rfl ?_
          refine St.p rfl rfl ?_
          refine St.gOn (dj := 16) rfl rfl ?_
          refine St.load ob2 0 rfl rfl (.head _) rfl rfl ?_
          refine St.gOn (dj := 16) rfl rfl ?_
          iterate 3 refine St.p rfl rfl ?_
          refine St.gSplit (dj := 24) _ rfl (fun hb3 => ?_) (fun hb3 => ?_)
          · replace hj1 := bif_t hb3 hj1
            refine St.gOff (dj := 24) rfl rfl rfl rfl ?_
            refine St.gOff (dj := 24) rfl rfl rfl rfl ?_
            refine St.gOff (dj := 24) rfl rfl rfl rfl ?_
            refine St.gOff (dj := 27) rfl rfl rfl rfl ?_
            refine St.gOff (dj := 27) rfl rfl rfl rfl ?_
            refine St.gOff (dj := 27) rfl rfl rfl rfl ?_
            refine St.gOff (dj := 27) rfl rfl rfl rfl ?_
            refine St.gOff (dj := 27) rfl rfl rfl rfl ?_
            refine St.gOff (dj := 27) rfl rfl rfl rfl ?_
            refine St.gOff (dj := 27) rfl rfl rfl rfl ?_
            refine St.gOff (dj := 27) rfl rfl rfl rfl ?_
            refine St.gOff (dj := 27) rfl rfl rfl rfl ?_
            refine St.gOff (dj := 27) rfl rfl rfl rfl ?_
            refine St.gOff (dj := 27) rfl rfl rfl rfl ?_
            refine St.gOff (dj := 27) rfl rfl rfl rfl ?_
            refine St.gOff (dj := 24) rfl rfl rfl rfl ?_
            refine St.p rfl rfl ?_
            refine St.p rfl rfl ?_
            refine St.gOff (dj := 42) rfl rfl rfl rfl ?_
            refine St.gOff (dj := 42) rfl rfl rfl rfl ?_
            refine St.gOff (dj := 42) rfl rfl rfl rfl ?_
            refine St.gOff (dj := 42) rfl rfl rfl rfl ?_
            refine St.gOff (dj := 42) rfl rfl rfl rfl ?_
            refine St.gOff (dj := 42) rfl rfl rfl rfl ?_
            refine St.gOff (dj := 42) rfl rfl rfl rfl ?_
            refine St.p rfl rfl ?_
            refine St.p rfl rfl ?_
            refine St.gOff (dj := 51) rfl rfl rfl rfl ?_
            refine St.gOff (dj := 51) rfl rfl rfl rfl ?_
            refine St.gOff (dj := 51) rfl rfl rfl rfl ?_
            refine St.gOff (dj := 51) rfl rfl rfl rfl ?_
            refine St.gOff (dj := 51) rfl rfl rfl rfl ?_
            refine St.gOff (dj := 51) rfl rfl rfl rfl ?_
            refine St.gOff (dj := 51) rfl rfl rfl rfl ?_
            refine St.gOff (dj := 58) rfl rfl rfl rfl ?_
            refine St.gOff (dj := 58) rfl rfl rfl rfl ?_
            refine St.gOff (dj := 58) rfl rfl rfl rfl ?_
            refine St.gOff (dj := 58) rfl rfl rfl rfl ?_
            refine St.gOff (dj := 58) rfl rfl rfl rfl ?_
            refine St.gOff (dj := 58) rfl rfl rfl rfl ?_
            refine St.gOff (dj := 51) rfl rfl rfl rfl ?_
            refine St.p rfl rfl ?_
            refine St.doneQ ?_
            injection hj1 with hj1
            subst hj1
            refine St.thenN ?_
            exact St.hereE () ⟨rfl, rfl, rfl, trivial⟩ (fun _ w => ((.d (.d (.k .z))) : Keep _ _).sat w)
          · replace hj1 := bif_f hb3 hj1
            refine St.gOn (dj := 24) rfl rfl ?_
            refine St.p rfl rfl ?_
            refine St.gOn (dj := 24) rfl rfl ?_
            refine St.p rfl rfl ?_
            refine St.gOn (dj := 24) rfl rfl ?_
            refine St.p rfl rfl ?_
            refine St.gSplit (dj := 27) _ rfl (fun hb4 => ?_) (fun hb4 => ?_)
            · replace hj1 := bif_t hb4 hj1
              refine St.gOn (dj := 27) rfl rfl ?_
              refine St.p rfl rfl ?_
              refine St.gOn (dj := 27) rfl rfl ?_
              refine St.p rfl rfl ?_
              refine St.gOn (dj := 27) rfl rfl ?_
              refine St.ixL hx1 rfl rfl rfl (.tail _ (.tail _ (.head _))) rfl rfl rfl rfl rfl fun b3 ob3 => ?_
              refine St.gOn (dj := 27) rfl rfl ?_
              refine St.p rfl rfl ?_
              refine St.gOn (dj := 27) rfl rfl ?_
              refine St.load ob3 0 rfl rfl (.head _) rfl rfl ?_
              refine St.gOn (dj := 27) rfl rfl ?_
              refine St.p rfl rfl ?_
              refine St.gOn (dj := 27) rfl rfl ?_
              refine St.p rfl rfl ?_
              refine St.gOn (dj := 27) rfl rfl ?_
              refine St.p rfl rfl ?_
              refine St.gOn (dj := 27) rfl rfl ?_
              obtain ⟨x2, hx2, hj1⟩ := bnd_e hj1
              refine St.ixL hx2 rfl rfl rfl (.tail _ (.tail _ (.tail _ (.head _)))) rfl rfl rfl rfl rfl fun b4 ob4 => ?_
              refine St.gOn (dj := 27) rfl rfl ?_
              refine St.p rfl rfl ?_
              refine St.gOn (dj := 27) rfl rfl ?_
              refine St.load ob4 0 rfl rfl (.head _) rfl rfl ?_
              refine St.gOn (dj := 27) rfl rfl ?_
              refine St.p rfl rfl ?_
              refine St.gOn (dj := 24) rfl rfl ?_
              iterate 3 refine St.p rfl rfl ?_
              refine St.gSplit (dj := 42) _ rfl (fun hb5 => ?_) (fun hb5 => ?_)
              · replace hj1 := bif_t hb5 hj1
                refine St.gOff (dj := 42) rfl rfl rfl rfl ?_
                refine St.gOff (dj := 42) rfl rfl rfl rfl ?_
                refine St.gOff (dj := 42) rfl rfl rfl rfl ?_
                refine St.gOff (dj := 42) rfl rfl rfl rfl ?_
                refine St.gOff (dj := 42) rfl rfl rfl rfl ?_
                refine St.gOff (dj := 42) rfl rfl rfl rfl ?_
                refine St.gOff (dj := 42) rfl rfl rfl rfl ?_
                refine St.p rfl rfl ?_
                refine St.p rfl rfl ?_
                refine St.gOff (dj := 51) rfl rfl rfl rfl ?_
                refine St.gOff (dj := 51) rfl rfl rfl rfl ?_
                refine St.gOff (dj := 51) rfl rfl rfl rfl ?_
                refine St.gOff (dj := 51) rfl rfl rfl rfl ?_
                refine St.gOff (dj := 51) rfl rfl rfl rfl ?_
                refine St.gOff (dj := 51) rfl rfl rfl rfl ?_
                refine St.gOff (dj := 51) rfl rfl rfl rfl ?_
                refine St.gOff (dj := 58) rfl rfl rfl rfl ?_
                refine St.gOff (dj := 58) rfl rfl rfl rfl ?_
                refine St.gOff (dj := 58) rfl rfl rfl rfl ?_
                refine St.gOff (dj := 58) rfl rfl rfl rfl ?_
                refine St.gOff (dj := 58) rfl rfl rfl rfl ?_
                refine St.gOff (dj := 58) rfl rfl rfl rfl ?_
                refine St.gOff (dj := 51) rfl rfl rfl rfl ?_
                refine St.p rfl rfl ?_
                refine St.doneQ ?_
                injection hj1 with hj1
                subst hj1
                refine St.thenN ?_
                exact St.hereE () ⟨rfl, rfl, rfl, trivial⟩ (fun _ w => ((.d (.d (.d (.d (.k .z))))) : Keep _ _).sat w)
              · replace hj1 := bif_f hb5 hj1
                refine St.gOn (dj := 42) rfl rfl ?_
                refine St.p rfl rfl ?_
                refine St.gOn (dj := 42) rfl rfl ?_
                refine St.p rfl rfl ?_
                refine St.gOn (dj := 42) rfl rfl ?_
                refine St.ixL hx1 rfl rfl rfl (.tail _ (.tail _ (.tail _ (.tail _ (.head _))))) rfl rfl rfl rfl rfl fun b5 ob5 => ?_
                refine St.gOn (dj := 42) rfl rfl ?_
                refine St.p rfl rfl ?_
                refine St.gOn (dj := 42) rfl rfl ?_
                refine St.load ob5 2 rfl rfl (.head _) rfl rfl ?_
                refine St.gOn (dj := 42) rfl rfl ?_
                refine St.p rfl rfl ?_
                refine St.gOn (dj := 42) rfl rfl ?_
                iterate 3 refine St.p rfl rfl ?_
                refine St.gSplit (dj := 51) _ rfl (fun hb6 => ?_) (fun hb6 => ?_)
                · replace hj1 := bif_t hb6 hj1
                  refine St.gOff (dj := 51) rfl rfl rfl rfl ?_
                  refine St.gOff (dj := 51) rfl rfl rfl rfl ?_
                  refine St.gOff (dj := 51) rfl rfl rfl rfl ?_
                  refine St.gOff (dj := 51) rfl rfl rfl rfl ?_
                  refine St.gOff (dj := 51) rfl rfl rfl rfl ?_
                  refine St.gOff (dj := 51) rfl rfl rfl rfl ?_
                  refine St.gOff (dj := 51) rfl rfl rfl rfl ?_
                  refine St.gOff (dj := 58) rfl rfl rfl rfl ?_
                  refine St.gOff (dj := 58) rfl rfl rfl rfl ?_
                  refine St.gOff (dj := 58) rfl rfl rfl rfl ?_
                  refine St.gOff (dj := 58) rfl rfl rfl rfl ?_
                  refine St.gOff (dj := 58) rfl rfl rfl rfl ?_
                  refine St.gOff (dj := 58) rfl rfl rfl rfl ?_
                  refine St.gOff (dj := 51) rfl rfl rfl rfl ?_
                  refine St.p rfl rfl ?_
                  refine St.doneQ ?_
                  injection hj1 with hj1
                  subst hj1
                  refine St.thenN ?_
                  exact St.hereE () ⟨rfl, rfl, rfl, trivial⟩ (fun _ w => ((.d (.d (.d (.d (.d (.k .z)))))) : Keep _ _).sat w)
                · replace hj1 := bif_f hb6 hj1
                  refine St.gOn (dj := 51) rfl rfl ?_
                  refine St.p rfl rfl ?_
                  refine St.gOn (dj := 51) rfl rfl ?_
                  refine St.p rfl rfl ?_
                  refine St.gOn (dj := 51) rfl rfl ?_
                  refine St.ixL hx1 rfl rfl rfl (.tail _ (.tail _ (.tail _ (.tail _ (.tail _ (.head _)))))) rfl rfl rfl rfl rfl fun b6 ob6 => ?_
                  refine St.gOn (dj := 51) rfl rfl ?_
                  refine St.p rfl rfl ?_
                  refine St.gOn (dj := 51) rfl rfl ?_
                  refine St.load ob6 1 rfl rfl (.head _) rfl rfl ?_
                  refine St.gOn (dj := 51) rfl rfl ?_
                  refine St.p rfl rfl ?_
                  refine St.gOn (dj := 51) rfl rfl ?_
                  refine St.p rfl rfl ?_
                  refine St.gSplit (dj := 58) _ rfl (fun hb7 => ?_) (fun hb7 => ?_)
                  · replace hj1 := bif_t hb7 hj1
                    refine St.gOn (dj := 58) rfl rfl ?_
                    refine St.p rfl rfl ?_
                    refine St.gOn (dj := 58) rfl rfl ?_
                    refine St.p rfl rfl ?_
                    refine St.gOn (dj := 58) rfl rfl ?_
                    refine St.ixL hx1 rfl rfl rfl (.tail _ (.tail _ (.tail _ (.tail _ (.tail _ (.tail _ (.head _))))))) rfl rfl rfl rfl rfl fun b7 ob7 => ?_
                    refine St.gOn (dj := 58) rfl rfl ?_
                    refine St.p rfl rfl ?_
                    refine St.gOn (dj := 58) rfl rfl ?_
                    refine St.load ob7 2 rfl rfl (.head _) rfl rfl ?_
                    refine St.gOn (dj := 58) rfl rfl ?_
                    refine St.p rfl rfl ?_
                    refine St.gOn (dj := 51) rfl rfl ?_
                    refine St.p rfl rfl ?_
                    refine St.p rfl rfl ?_
                    refine St.doneQ ?_
                    injection hj1 with hj1
                    subst hj1
                    refine St.thenN ?_
                    exact St.hereE () ⟨rfl, rfl, rfl, trivial⟩ (fun _ w => ((.d (.d (.d (.d (.d (.d (.d (.k .z)))))))) : Keep _ _).sat w)
                  · replace hj1 := bif_f hb7 hj1
                    refine St.gOff (dj := 58) rfl rfl rfl rfl ?_
                    refine St.gOff (dj := 58) rfl rfl rfl rfl ?_
                    refine St.gOff (dj := 58) rfl rfl rfl rfl ?_
                    refine St.gOff (dj := 58) rfl rfl rfl rfl ?_
                    refine St.gOff (dj := 58) rfl rfl rfl rfl ?_
                    refine St.gOff (dj := 58) rfl rfl rfl rfl ?_
                    refine St.gOn (dj := 51) rfl rfl ?_
                    refine St.p rfl rfl ?_
                    refine St.p rfl rfl ?_
                    refine St.doneQ ?_
                    injection hj1 with hj1
                    subst hj1
                    refine St.thenN ?_
                    exact St.hereE () ⟨rfl, rfl, rfl, trivial⟩ (fun _ w => ((.d (.d (.d (.d (.d (.d (.k .z))))))) : Keep _ _).sat w)
            · replace hj1 := bif_f hb4 hj1
              refine St.gOff (dj := 27) rfl rfl rfl rfl ?_
              refine St.gOff (dj := 27) rfl rfl rfl rfl ?_
              refine St.gOff (dj := 27) rfl rfl rfl rfl ?_
              refine St.gOff (dj := 27) rfl rfl rfl rfl ?_
              refine St.gOff (dj := 27) rfl rfl rfl rfl ?_
              refine St.gOff (dj := 27) rfl rfl rfl rfl ?_
              refine St.gOff (dj := 27) rfl rfl rfl rfl ?_
              refine St.gOff (dj := 27) rfl rfl rfl rfl ?_
              refine St.gOff (dj := 27) rfl rfl rfl rfl ?_
              refine St.gOff (dj := 27) rfl rfl rfl rfl ?_
              refine St.gOff (dj := 27) rfl rfl rfl rfl ?_
              refine St.gOff (dj := 27) rfl rfl rfl rfl ?_
              refine St.gOn (dj := 24) rfl rfl ?_
              iterate 3 refine St.p rfl rfl ?_
              refine St.gOn (dj := 42) rfl rfl ?_
              refine St.p rfl rfl ?_
              refine St.gOn (dj := 42) rfl rfl ?_
              refine St.p rfl rfl ?_
              refine St.gOn (dj := 42) rfl rfl ?_
              refine St.ixL hx1 rfl rfl rfl (.tail _ (.tail _ (.head _))) rfl rfl rfl rfl rfl fun b8 ob8 => ?_
              refine St.gOn (dj := 42) rfl rfl ?_
              refine St.p rfl rfl ?_
              refine St.gOn (dj := 42) rfl rfl ?_
              refine St.load ob8 2 rfl rfl (.head _) rfl rfl ?_
              refine St.gOn (dj := 42) rfl rfl ?_
              refine St.p rfl rfl ?_
              refine St.gOn (dj := 42) rfl rfl ?_
              iterate 3 refine St.p rfl rfl ?_
              refine St.gSplit (dj := 51) _ rfl (fun hb8 => ?_) (fun hb8 => ?_)
              · replace hj1 := bif_t hb8 hj1
                refine St.gOff (dj := 51) rfl rfl rfl rfl ?_
                refine St.gOff (dj := 51) rfl rfl rfl rfl ?_
                refine St.gOff (dj := 51) rfl rfl rfl rfl ?_
                refine St.gOff (dj := 51) rfl rfl rfl rfl ?_
                refine St.gOff (dj := 51) rfl rfl rfl rfl ?_
                refine St.gOff (dj := 51) rfl rfl rfl rfl ?_
                refine St.gOff (dj := 51) rfl rfl rfl rfl ?_
                refine St.gOff (dj := 58) rfl rfl rfl rfl ?_
                refine St.gOff (dj := 58) rfl rfl rfl rfl ?_
                refine St.gOff (dj := 58) rfl rfl rfl rfl ?_
                refine St.gOff (dj := 58) rfl rfl rfl rfl ?_
                refine St.gOff (dj := 58) rfl rfl rfl rfl ?_
                refine St.gOff (dj := 58) rfl rfl rfl rfl ?_
                refine St.gOff (dj := 51) rfl rfl rfl rfl ?_
                refine St.p rfl rfl ?_
                refine St.doneQ ?_
                injection hj1 with hj1
                subst hj1
                refine St.thenN ?_
                exact St.hereE () ⟨rfl, rfl, rfl, trivial⟩ (fun _ w => ((.d (.d (.d (.k .z)))) : Keep _ _).sat w)
              · replace hj1 := bif_f hb8 hj1
                refine St.gOn (dj := 51) rfl rfl ?_
                refine St.p rfl rfl ?_
                refine St.gOn (dj := 51) rfl rfl ?_
                refine St.p rfl rfl ?_
                refine St.gOn (dj := 51) rfl rfl ?_
                refine St.ixL hx1 rfl rfl rfl (.tail _ (.tail _ (.tail _ (.head _)))) rfl rfl rfl rfl rfl fun b9 ob9 => ?_
                refine St.gOn (dj := 51) rfl rfl ?_
                refine St.p rfl rfl ?_
                refine St.gOn (dj := 51) rfl rfl ?_
                refine St.load ob9 1 rfl rfl (.head _) rfl rfl ?_
                refine St.gOn (dj := 51) rfl rfl ?_
                refine St.p rfl rfl ?_
                refine St.gOn (dj := 51) rfl rfl ?_
                refine St.p rfl rfl ?_
                refine St.gSplit (dj := 58) _ rfl (fun hb9 => ?_) (fun hb9 => ?_)
                · replace hj1 := bif_t hb9 hj1
                  refine St.gOn (dj := 58) rfl rfl ?_
                  refine St.p rfl rfl ?_
                  refine St.gOn (dj := 58) rfl rfl ?_
                  refine St.p rfl rfl ?_
                  refine St.gOn (dj := 58) rfl rfl ?_
                  refine St.ixL hx1 rfl rfl rfl (.tail _ (.tail _ (.tail _ (.tail _ (.head _))))) rfl rfl rfl rfl rfl fun b10 ob10 => ?_
                  refine St.gOn (dj := 58) rfl rfl ?_
                  refine St.p rfl rfl ?_
                  refine St.gOn (dj := 58) rfl rfl ?_
                  refine St.load ob10 2 rfl rfl (.head _) rfl rfl ?_
                  refine St.gOn (dj := 58) rfl rfl ?_
                  refine St.p rfl rfl ?_
                  refine St.gOn (dj := 51) rfl rfl ?_
                  refine St.p rfl rfl ?_
                  refine St.p rfl rfl ?_
                  refine St.doneQ ?_
                  injection hj1 with hj1
                  subst hj1
                  refine St.thenN ?_
                  exact St.hereE () ⟨rfl, rfl, rfl, trivial⟩ (fun _ w => ((.d (.d (.d (.d (.d (.k .z)))))) : Keep _ _).sat w)
                · replace hj1 := bif_f hb9 hj1
                  refine St.gOff (dj := 58) rfl rfl rfl rfl ?_
                  refine St.gOff (dj := 58) rfl rfl rfl rfl ?_
                  refine St.gOff (dj := 58) rfl rfl rfl rfl ?_
                  refine St.gOff (dj := 58) rfl rfl rfl rfl ?_
                  refine St.gOff (dj := 58) rfl rfl rfl rfl ?_
                  refine St.gOff (dj := 58) rfl rfl rfl rfl ?_
                  refine St.gOn (dj := 51) rfl rfl ?_
                  refine St.p rfl rfl ?_
                  refine St.p rfl rfl ?_
                  refine St.doneQ ?_
                  injection hj1 with hj1
                  subst hj1
                  refine St.thenN ?_
                  exact St.hereE () ⟨rfl, rfl, rfl, trivial⟩ (fun _ w => ((.d (.d (.d (.d (.k .z))))) : Keep _ _).sat w)
      · rintro e3
        refine St.cond _ rfl (fun hb10 => ?_) (fun hb10 => ?_)
        · replace h1 := bif_t hb10 h1
          refine St.seq ?_
          refine St.region ?_
          refine St.p rfl rfl ?_
          refine St.done ?_
          refine St.thenN ?_
          refine St.prune (Γ' := [(2, _)]) ⟨rfl, trivial⟩ (.d .z) ?_
          refine St.ret ?_
          repeat (first | refine St.thenR ?_ | refine St.blkR ?_)
          injection h1 with h1
          subst h1
          have ho := hd1 _ rfl
          subst ho
          have h : some _ = some _ := h
          injection h with h
          subst h
          exact St.finR Try.results18 (.tmp rfl .nil) rfl [] ⟨rfl, rfl⟩ (fun _ w => (.z : Keep _ _).sat w)
        · replace h1 := bif_f hb10 h1
          refine St.skip ?_
          refine St.blkN ?_
          refine St.thenN ?_
          refine St.prune (Γ' := [(0, _), (3, _)]) ⟨rfl, rfl, trivial⟩ (.k .z) ?_
          refine St.region ?_
          iterate 3 refine St.p rfl rfl ?_
          refine St.done ?_
          injection h1 with h1
          subst h1
          refine St.thenN ?_
          exact St.again _ () hm1 trivial ⟨rfl, rfl, trivial⟩ (fun _ w => ((.k .z) : Keep _ _).sat w)
    · replace h1 := bif_f hb1 h1
      refine St.exit ?_
      repeat (first | refine St.thenX ?_ | refine St.blkMiss rfl ?_)
      refine St.blkHit ?_
      injection h1 with h1
      subst h1
      have ho := hd1 _ rfl
      subst ho
      refine St.thenN ?_
      exact St.hereI () () rfl trivial (fun _ w => ((.d .z) : Keep _ _).sat w)
  · rintro o2 e2 ho
    subst ho
    have h := unR h
    refine St.seq ?_
    refine St.region ?_
    refine St.p rfl rfl ?_
    refine St.done ?_
    refine St.thenN ?_
    refine St.ret ?_
    repeat (first | refine St.thenR ?_ | refine St.blkR ?_)
    injection h with h
    subst h
    exact St.finR Try.results18 (.tmp rfl .nil) rfl [] ⟨rfl, rfl⟩ (fun _ w => (.z : Keep _ _).sat w)

theorem ent36 : Ent Try.prog 36 := ⟨_, Try.func36, by kernel_rfl, by kernel_rfl⟩

noncomputable def m_ref19_At (l_p0 : (List T_Known)) (slot : Int) : Option (T_Known × Bool) :=
  bnd (loopM (τ := (T_Known × Bool) ⊕ Unit) (fun (s1 : Int) => bif decide (s1 < (l_p0.length : Int)) then (bnd (elt l_p0 s1) fun x1 => bif (x1.Slot == slot) then (some (.done (.inl (x1, true)))) else (some (.next (IntKind.wrap .i64 (s1 + 1))))) else (some (.done (.inr ())))) 0) fun o1 => retOr o1 fun o2 => some ((⟨0, false, ⟨#[]⟩, 0⟩ : T_Known), false)

theorem c_ref19_At {l_p0 : (List T_Known)} {slot : Int} {A1 : Option Addr} {c1 : Nat} {r : (T_Known × Bool)} (h : m_ref19_At l_p0 slot = some r) :
    Fun Try.prog 36 [.slice A1 l_p0.length c1, .int .i64 slot] [.ro (SlL e_Known A1 c1 l_p0)] (Val (.tuple #[.agg (bx_T_Known r.1).toArray, .bool r.2])) := by
  unfold m_ref19_At at h
  refine Fun.intro Try.func36 rfl rfl rfl fun w R => ?_
  refine St.seq ?_
  refine St.region ?_
  refine St.alloc rfl rfl fun g1 => ?_
  refine St.p rfl rfl ?_
  refine St.done ?_
  refine St.thenN ?_
  refine St.prune (Γ' := [(0, _), (1, _), (4, _)]) ⟨rfl, rfl, rfl, trivial⟩ (.k (.k .z)) ?_
  refine St.seq ?_
  refine St.seq ?_
  refine St.region ?_
  refine St.p rfl rfl ?_
  refine St.done ?_
  refine St.thenN ?_
  obtain ⟨o1, hl1, h⟩ := bnd_e h
  refine St.cutI (fun (o2 : Unit) (e2 : Unit) => [(4, .pointer (some ⟨g1, 0, none⟩))]) (fun o2 e2 => .res (Box g1 45 [.int .i64 0, .bool false, .string (⟨#[]⟩), .int .u32 0]) :: R) (fun o2 => o1 = .inr o2) ?_ ?_
  · refine St.block ?_
    refine St.loop hl1 (fun (s1 : Int) (e1 : Unit) => [(0, .slice A1 l_p0.length c1), (1, .int .i64 slot), (4, .pointer (some ⟨g1, 0, none⟩)), (6, .int .i64 s1)]) (fun s1 e1 => .res (Box g1 45 [.int .i64 0, .bool false, .string (⟨#[]⟩), .int .u32 0]) :: .ro (SlL e_Known A1 c1 l_p0) :: R) (fun _ _ => True) () trivial ⟨rfl, rfl, rfl, rfl, trivial⟩ (fun _ w => ((.k (.k .z)) : Keep _ _).sat w) ?_
    rintro s1 e1 - hit1
    obtain ⟨st1, hm1, hd1⟩ := iter_e hit1
    have h1 := hm1
    refine St.seq ?_
    refine St.seq ?_
    refine St.region ?_
    iterate 4 refine St.p rfl rfl ?_
    refine St.done ?_
    refine St.thenN ?_
    refine St.prune (Γ' := [(0, _), (1, _), (4, _), (6, _), (10, _)]) ⟨rfl, rfl, rfl, rfl, rfl, trivial⟩ (.k (.k .z)) ?_
    refine St.cond _ rfl (fun hb1 => ?_) (fun hb1 => ?_)
    · replace h1 := bif_t hb1 h1
      refine St.skip ?_
      refine St.thenN ?_
      refine St.prune (Γ' := [(0, _), (1, _), (4, _), (6, _)]) ⟨rfl, rfl, rfl, rfl, trivial⟩ (.k (.k .z)) ?_
      refine St.seq ?_
      refine St.block ?_
      refine St.seq ?_
      refine St.region ?_
      refine St.p rfl rfl ?_
      refine St.p rfl rfl ?_
      obtain ⟨x1, hx1, h1⟩ := bnd_e h1
      refine St.ixL hx1 rfl rfl rfl (.tail _ (.head _)) rfl rfl rfl rfl rfl fun b1 ob1 => ?_
      refine St.p rfl rfl ?_
      refine St.load ob1 0 rfl rfl (.head _) rfl rfl ?_
      refine St.p rfl rfl ?_
      refine St.p rfl rfl ?_
      refine St.done ?_
      refine St.thenN ?_
      refine St.prune (Γ' := [(0, _), (1, _), (4, _), (6, _), (19, _)]) ⟨rfl, rfl, rfl, rfl, rfl, trivial⟩ (.d (.k (.k .z))) ?_
      refine St.cond _ rfl (fun hb2 => ?_) (fun hb2 => ?_)
      · replace h1 := bif_t hb2 h1
        refine St.seq ?_
        refine St.region ?_
        refine St.p rfl rfl ?_
        refine St.p rfl rfl ?_
        refine St.ixL hx1 rfl rfl rfl (.tail _ (.head _)) rfl rfl rfl rfl rfl fun b2 ob2 => ?_
        refine St.load ob2 0 rfl rfl (.head _) rfl rfl ?_
        refine St.store 0 rfl rfl rfl rfl rfl rfl (.s .z) rfl ?_
        refine St.p rfl rfl ?_
        refine St.done ?_
        refine St.thenN ?_
        refine St.prune (Γ' := [(4, _), (5, _)]) ⟨rfl, rfl, trivial⟩ (.k (.d (.d .z))) ?_
        refine St.ret ?_
        repeat (first | refine St.thenR ?_ | refine St.blkR ?_)
        injection h1 with h1
        subst h1
        have ho := hd1 _ rfl
        subst ho
        have h : some _ = some _ := h
        injection h with h
        subst h
        exact St.finR Try.results36 (.cell rfl (.head _) rfl (.tmp rfl .nil)) rfl [] ⟨rfl, rfl⟩ (fun _ w => ((.d .z) : Keep _ _).sat w)
      · replace h1 := bif_f hb2 h1
        refine St.skip ?_
        refine St.blkN ?_
        refine St.thenN ?_
        refine St.prune (Γ' := [(0, _), (1, _), (4, _), (6, _)]) ⟨rfl, rfl, rfl, rfl, trivial⟩ (.k (.k .z)) ?_
        refine St.region ?_
        iterate 3 refine St.p rfl rfl ?_
        refine St.done ?_
        injection h1 with h1
        subst h1
        refine St.thenN ?_
        exact St.again _ () hm1 trivial ⟨rfl, rfl, rfl, rfl, trivial⟩ (fun _ w => ((.k (.k .z)) : Keep _ _).sat w)
    · replace h1 := bif_f hb1 h1
      refine St.exit ?_
      repeat (first | refine St.thenX ?_ | refine St.blkMiss rfl ?_)
      refine St.blkHit ?_
      injection h1 with h1
      subst h1
      have ho := hd1 _ rfl
      subst ho
      refine St.thenN ?_
      exact St.hereI () () rfl ⟨rfl, trivial⟩ (fun _ w => ((.k (.d .z)) : Keep _ _).sat w)
  · rintro o2 e2 ho
    subst ho
    have h := unR h
    refine St.seq ?_
    refine St.region ?_
    refine St.p rfl rfl ?_
    refine St.store 0 rfl rfl rfl rfl rfl rfl .z rfl ?_
    refine St.p rfl rfl ?_
    refine St.done ?_
    refine St.thenN ?_
    refine St.prune (Γ' := [(4, _), (5, _)]) ⟨rfl, rfl, trivial⟩ (.k .z) ?_
    refine St.ret ?_
    repeat (first | refine St.thenR ?_ | refine St.blkR ?_)
    injection h with h
    subst h
    exact St.finR Try.results36 (.cell rfl (.head _) rfl (.tmp rfl .nil)) rfl [] ⟨rfl, rfl⟩ (fun _ w => ((.d .z) : Keep _ _).sat w)

theorem ent42 : Ent Try.prog 42 := ⟨_, Try.func42, by kernel_rfl, by kernel_rfl⟩

noncomputable def m_ref01_Little (v_p0 : Int) (n_p1 : Int) : Option (List Int) :=
  bnd (loopM (τ := List Int) (fun (s1 : Int × List Int × Int) => bif decide (s1.2.2 < n_p1) then (bnd (app 1 s1.2.1 [IntKind.wrap .u8 (s1.1.tmod 256)]) fun l1 => some (.next (IntKind.wrap .u64 (s1.1.tdiv 256), l1, IntKind.wrap .i64 (s1.2.2 + 1)))) else (some (.done s1.2.1))) (v_p0, [], 0)) fun o1 => some o1

theorem c_ref01_Little {v_p0 : Int} {n_p1 : Int} {r : (List Int)} (h : m_ref01_Little v_p0 n_p1 = some r) :
    Fun Try.prog 42 [.int .u64 v_p0, .int .i64 n_p1] [] (fun v_ F_ => ∃ (A1 : Option Addr) (c1 : Nat), v_ = .slice A1 r.length c1 ∧ F_ = [.res (OwnL eu8 5 A1 c1 r)]) := by
  unfold m_ref01_Little at h
  refine Fun.intro Try.func42 rfl rfl rfl fun w R => ?_
  refine St.seq ?_
  refine St.region ?_
  refine St.p rfl rfl ?_
  refine St.done ?_
  refine St.thenN ?_
  refine St.prune (Γ' := [(0, _), (1, _)]) ⟨rfl, rfl, trivial⟩ .z ?_
  refine St.seq ?_
  refine St.region ?_
  refine St.p rfl rfl ?_
  refine St.done ?_
  refine St.thenN ?_
  refine St.seq ?_
  refine St.seq ?_
  refine St.region ?_
  refine St.p rfl rfl ?_
  refine St.done ?_
  refine St.thenN ?_
  refine St.asrt (fun _ w => w.nilL eu8 5) ?_
  obtain ⟨o1, hl1, h⟩ := bnd_e h
  refine St.cutE (fun (e2 : Option Addr × Nat) => [(5, .slice e2.1 o1.length e2.2)]) (fun e2 => .res (OwnL eu8 5 e2.1 e2.2 o1) :: R) ?_ ?_
  · refine St.block ?_
    refine St.loop hl1 (fun (s1 : Int × List Int × Int) (e1 : Option Addr × Nat) => [(0, .int .u64 s1.1), (1, .int .i64 n_p1), (5, .slice e1.1 s1.2.1.length e1.2), (6, .int .i64 s1.2.2)]) (fun s1 e1 => .res (OwnL eu8 5 e1.1 e1.2 s1.2.1) :: R) (fun _ _ => True) (none, 0) trivial ⟨rfl, rfl, rfl, rfl, trivial⟩ (fun _ w => ((.k .z) : Keep _ _).sat w) ?_
    rintro s1 ⟨A1, c1⟩ - hit1
    obtain ⟨st1, hm1, hd1⟩ := iter_e hit1
    have h1 := hm1
    refine St.seq ?_
    refine St.seq ?_
    refine St.region ?_
    iterate 3 refine St.p rfl rfl ?_
    refine St.done ?_
    refine St.thenN ?_
    refine St.prune (Γ' := [(0, _), (1, _), (5, _), (6, _), (9, _)]) ⟨rfl, rfl, rfl, rfl, rfl, trivial⟩ (.k .z) ?_
    refine St.cond _ rfl (fun hb1 => ?_) (fun hb1 => ?_)
    · replace h1 := bif_t hb1 h1
      refine St.skip ?_
      refine St.thenN ?_
      refine St.prune (Γ' := [(0, _), (1, _), (5, _), (6, _)]) ⟨rfl, rfl, rfl, rfl, trivial⟩ (.k .z) ?_
      refine St.seq ?_
      refine St.block ?_
      refine St.seq ?_
      refine St.region ?_
      iterate 4 refine St.p rfl rfl ?_
      refine St.buildSlice rfl rfl rfl rfl rfl rfl rfl rfl fun g1 => ?_
      obtain ⟨l1, hl1, h1⟩ := bnd_e h1
      refine St.app (E := eu8) hl1 rfl rfl rfl (.s .z) rfl rfl rfl rfl rfl rfl rfl rfl (srcB (.head _) rfl rfl) rfl rfl fun A3 c3 => ?_
      refine St.p rfl rfl ?_
      refine St.done ?_
      refine St.thenN ?_
      refine St.prune (Γ' := [(0, _), (1, _), (5, _), (6, _)]) ⟨rfl, rfl, rfl, rfl, trivial⟩ (.k (.d .z)) ?_
      refine St.region ?_
      iterate 3 refine St.p rfl rfl ?_
      refine St.done ?_
      refine St.blkN ?_
      refine St.thenN ?_
      refine St.prune (Γ' := [(0, _), (1, _), (5, _), (6, _)]) ⟨rfl, rfl, rfl, rfl, trivial⟩ (.k .z) ?_
      refine St.region ?_
      iterate 3 refine St.p rfl rfl ?_
      refine St.done ?_
      injection h1 with h1
      subst h1
      refine St.thenN ?_
      exact St.again _ (A3, c3) hm1 trivial ⟨rfl, rfl, rfl, rfl, trivial⟩ (fun _ w => ((.k .z) : Keep _ _).sat w)
    · replace h1 := bif_f hb1 h1
      refine St.exit ?_
      repeat (first | refine St.thenX ?_ | refine St.blkMiss rfl ?_)
      refine St.blkHit ?_
      injection h1 with h1
      subst h1
      have ho := hd1 _ rfl
      subst ho
      refine St.thenN ?_
      exact St.hereE (A1, c1) ⟨rfl, trivial⟩ (fun _ w => ((.k .z) : Keep _ _).sat w)
  · rintro ⟨A2, c2⟩
    refine St.seq ?_
    refine St.region ?_
    refine St.p rfl rfl ?_
    refine St.p rfl rfl ?_
    refine St.done ?_
    refine St.thenN ?_
    refine St.prune (Γ' := [(4, _)]) ⟨rfl, trivial⟩ (.k .z) ?_
    refine St.ret ?_
    repeat (first | refine St.thenR ?_ | refine St.blkR ?_)
    injection h with h
    subst h
    exact St.finR Try.results42 (.tmp rfl .nil) rfl [.res (OwnL eu8 5 A2 c2 o1)] ⟨A2, c2, rfl, rfl⟩ (fun _ w => ((.k .z) : Keep _ _).sat w)

theorem ent27 : Ent Try.prog 27 := ⟨_, Try.func27, by kernel_rfl, by kernel_rfl⟩

noncomputable def m_ref19_Save (l_p0 : (List T_Known)) : Option ((List T_Setting) × Int) :=
  bnd (m_ref19_Valid l_p0) fun r1 => bif !r1 then (some ([], 1)) else (bnd (loopM (τ := List T_Setting) (fun (s1 : List T_Setting × Int) => bif decide (s1.2 < 16) then (bnd (m_ref19_At l_p0 s1.2) fun r2 => bif !r2.2 then (bnd (app 40 s1.1 [(⟨IntKind.wrap .u8 (IntKind.wrap .i64 (16 + s1.2)), [], true⟩ : T_Setting)]) fun l1 => some (.next (l1, IntKind.wrap .i64 (s1.2 + 1)))) else (bnd ((bif r2.1.Good then (some 1) else (some 0) : Option Int)) fun o2 => bnd (m_ref01_Little (IntKind.wrap .u64 r2.1.Sum) 4) fun r3 => bnd (app 1 ([o2]) r3) fun l2 => bnd (app 1 l2 (bytesOf r2.1.Serial)) fun l3 => bnd (app 40 s1.1 [(⟨IntKind.wrap .u8 (IntKind.wrap .i64 (16 + s1.2)), l3, false⟩ : T_Setting)]) fun l4 => some (.next (l4, IntKind.wrap .i64 (s1.2 + 1))))) else (some (.done s1.1))) ([], 0)) fun o1 => some (o1, 0))

theorem c_ref19_Save {l_p0 : (List T_Known)} {A1 : Option Addr} {c1 : Nat} {r : ((List T_Setting) × Int)} (h : m_ref19_Save l_p0 = some r) :
    Fun Try.prog 27 [.slice A1 l_p0.length c1] [.ro (SlL e_Known A1 c1 l_p0)] (fun v_ F_ => ∃ (A1 : Option Addr) (c1 : Nat), v_ = .tuple #[.slice A1 r.1.length c1, .int .i64 r.2] ∧ F_ = [.res (OwnC (codL l_T_Setting) 60 A1 c1 r.1)]) := by
  unfold m_ref19_Save at h
  refine Fun.intro Try.func27 rfl rfl rfl fun w R => ?_
  refine St.seq ?_
  refine St.region ?_
  refine St.p rfl rfl ?_
  refine St.p rfl rfl ?_
  refine St.done ?_
  refine St.thenN ?_
  refine St.prune (Γ' := [(0, _)]) ⟨rfl, trivial⟩ (.k .z) ?_
  refine St.seq ?_
  refine St.seq ?_
  refine St.region ?_
  refine St.p rfl rfl ?_
  obtain ⟨r1, hr1, h⟩ := bnd_e h
  refine St.callV (c_ref19_Valid hr1) ent18 rfl rfl rfl rfl ⟨(.head _), trivial⟩ ?_
  refine St.p rfl rfl ?_
  refine St.done ?_
  refine St.thenN ?_
  refine St.prune (Γ' := [(0, _), (11, _)]) ⟨rfl, rfl, trivial⟩ (.k .z) ?_
  refine St.cond _ rfl (fun hb1 => ?_) (fun hb1 => ?_)
  · replace h := bif_t hb1 h
    refine St.seq ?_
    refine St.region ?_
    refine St.p rfl rfl ?_
    refine St.p rfl rfl ?_
    refine St.done ?_
    refine St.thenN ?_
    refine St.prune (Γ' := [(2, _), (3, _)]) ⟨rfl, rfl, trivial⟩ (.d .z) ?_
    refine St.ret ?_
    repeat (first | refine St.thenR ?_ | refine St.blkR ?_)
    refine St.asrt (fun _ w => w.nilC (codL l_T_Setting) 60) ?_
    injection h with h
    subst h
    exact St.finR Try.results27 (.tmp rfl (.tmp rfl .nil)) rfl [.res (OwnC (codL l_T_Setting) 60 none 0 ([] : List T_Setting))] ⟨none, 0, rfl, rfl⟩ (fun _ w => ((.k .z) : Keep _ _).sat w)
  · replace h := bif_f hb1 h
    refine St.skip ?_
    refine St.thenN ?_
    refine St.prune (Γ' := [(0, _)]) ⟨rfl, trivial⟩ (.k .z) ?_
    refine St.seq ?_
    refine St.region ?_
    refine St.p rfl rfl ?_
    refine St.done ?_
    refine St.thenN ?_
    refine St.seq ?_
    refine St.seq ?_
    refine St.region ?_
    refine St.p rfl rfl ?_
    refine St.done ?_
    refine St.thenN ?_
    refine St.asrt (fun _ w => w.nilC (codL l_T_Setting) 60) ?_
    obtain ⟨o1, hl1, h⟩ := bnd_e h
    refine St.cutE (fun (e2 : Option Addr × Nat) => [(4, .slice e2.1 o1.length e2.2)]) (fun e2 => .res (OwnC (codL l_T_Setting) 60 e2.1 e2.2 o1) :: R) ?_ ?_
    · refine St.block ?_
      refine St.loop hl1 (fun (s1 : List T_Setting × Int) (e1 : Option Addr × Nat) => [(0, .slice A1 l_p0.length c1), (4, .slice e1.1 s1.1.length e1.2), (5, .int .i64 s1.2)]) (fun s1 e1 => .res (OwnC (codL l_T_Setting) 60 e1.1 e1.2 s1.1) :: .ro (SlL e_Known A1 c1 l_p0) :: R) (fun _ _ => True) (none, 0) trivial ⟨rfl, rfl, rfl, trivial⟩ (fun _ w => ((.k (.k .z)) : Keep _ _).sat w) ?_
      rintro s1 ⟨A2, c2⟩ - hit1
      obtain ⟨st1, hm1, hd1⟩ := iter_e hit1
      have h1 := hm1
      refine St.seq ?_
      refine St.seq ?_
      refine St.region ?_
      refine St.p rfl rfl ?_
      refine St.p rfl rfl ?_
      refine St.done ?_
      refine St.thenN ?_
      refine St.prune (Γ' := [(0, _), (4, _), (5, _), (13, _)]) ⟨rfl, rfl, rfl, rfl, trivial⟩ (.k (.k .z)) ?_
      refine St.cond _ rfl (fun hb2 => ?_) (fun hb2 => ?_)
      · replace h1 := bif_t hb2 h1
        refine St.skip ?_
        refine St.thenN ?_
        refine St.prune (Γ' := [(0, _), (4, _), (5, _)]) ⟨rfl, rfl, rfl, trivial⟩ (.k (.k .z)) ?_
        refine St.seq ?_
        refine St.block ?_
        refine St.seq ?_
        refine St.region ?_
        refine St.p rfl rfl ?_
        refine St.p rfl rfl ?_
        obtain ⟨r2, hr2, h1⟩ := bnd_e h1
        refine St.callV (c_ref19_At hr2) ent36 rfl rfl rfl rfl ⟨(.tail _ (.head _)), trivial⟩ ?_
        iterate 3 refine St.p rfl rfl ?_
        refine St.alloc rfl rfl fun g1 => ?_
        refine St.store 0 rfl rfl rfl rfl rfl rfl .z rfl ?_
        refine St.p rfl rfl ?_
        refine St.done ?_
        refine St.thenN ?_
        refine St.prune (Γ' := [(0, _), (4, _), (5, _), (6, _), (7, _)]) ⟨rfl, rfl, rfl, rfl, rfl, trivial⟩ (.k (.k (.k .z))) ?_
        refine St.seq ?_
        refine St.seq ?_
        refine St.region ?_
        refine St.p rfl rfl ?_
        refine St.p rfl rfl ?_
        refine St.done ?_
        refine St.thenN ?_
        refine St.prune (Γ' := [(0, _), (4, _), (5, _), (6, _), (23, _)]) ⟨rfl, rfl, rfl, rfl, rfl, trivial⟩ (.k (.k (.k .z))) ?_
        refine St.cond _ rfl (fun hb3 => ?_) (fun hb3 => ?_)
        · replace h1 := bif_t hb3 h1
          refine St.seq ?_
          refine St.region ?_
          iterate 5 refine St.p rfl rfl ?_
          refine St.buildSlice rfl rfl rfl rfl rfl rfl rfl rfl fun g2 => ?_
          obtain ⟨l1, hl1, h1⟩ := bnd_e h1
          refine St.asrt (fun _ w => w.nilSl (cod eu8)) ?_
          refine St.appC (E := (codL l_T_Setting)) hl1 rfl rfl rfl (.s (.s (.s .z))) rfl rfl rfl rfl rfl rfl rfl rfl (srcBC (ls := l_T_Setting) [((⟨IntKind.wrap .u8 (IntKind.wrap .i64 (16 + s1.2)), [], true⟩ : T_Setting), ((none, 0), ()))] (.tail _ (.head _)) rfl rfl rfl ⟨(.head _), trivial⟩) rfl rfl fun A4 c4 => ?_
          refine St.p rfl rfl ?_
          refine St.done ?_
          refine St.thenN ?_
          refine St.prune (Γ' := [(0, _), (4, _), (5, _)]) ⟨rfl, rfl, rfl, trivial⟩ (.k (.d (.d (.d (.k .z))))) ?_
          refine St.exit ?_
          repeat (first | refine St.thenX ?_ | refine St.blkMiss rfl ?_)
          refine St.blkHit ?_
          refine St.thenN ?_
          refine St.region ?_
          iterate 3 refine St.p rfl rfl ?_
          refine St.done ?_
          injection h1 with h1
          subst h1
          refine St.thenN ?_
          exact St.again _ (A4, c4) hm1 trivial ⟨rfl, rfl, rfl, trivial⟩ (fun _ w => ((.k (.k .z)) : Keep _ _).sat w)
        · replace h1 := bif_f hb3 h1
          refine St.skip ?_
          refine St.thenN ?_
          refine St.prune (Γ' := [(0, _), (4, _), (5, _), (6, _)]) ⟨rfl, rfl, rfl, rfl, trivial⟩ (.k (.k (.k .z))) ?_
          refine St.seq ?_
          refine St.region ?_
          refine St.buildSlice rfl rfl rfl rfl rfl rfl rfl rfl fun g3 => ?_
          refine St.p rfl rfl ?_
          refine St.done ?_
          refine St.thenN ?_
          refine St.prune (Γ' := [(0, _), (4, _), (5, _), (6, _), (8, _)]) ⟨rfl, rfl, rfl, rfl, rfl, trivial⟩ (.k (.k (.k (.k .z)))) ?_
          refine St.seq ?_
          obtain ⟨o2, hj1, h1⟩ := bnd_e h1
          refine St.cutE (fun (e3 : Unit) => [(0, .slice A1 l_p0.length c1), (4, .slice A2 s1.1.length c2), (5, .int .i64 s1.2), (6, .pointer (some ⟨g1, 0, none⟩)), (8, .slice (some ⟨g3, 0, none⟩) 1 1)]) (fun e3 => .res (Box g3 5 [.int .u8 o2]) :: .res (Box g1 45 (bx_T_Known r2.1)) :: .res (OwnC (codL l_T_Setting) 60 A2 c2 s1.1) :: .ro (SlL e_Known A1 c1 l_p0) :: R) ?_ ?_
          · refine St.seq ?_
            refine St.region ?_
            refine St.p rfl rfl ?_
            refine St.loadB 1 rfl rfl (.tail _ (.head _)) rfl rfl ?_
            refine St.done ?_
            refine St.thenN ?_
            refine St.prune (Γ' := [(0, _), (4, _), (5, _), (6, _), (8, _), (33, _)]) ⟨rfl, rfl, rfl, rfl, rfl, rfl, trivial⟩ (.k (.k (.k (.k .z)))) ?_
            refine St.cond _ rfl (fun hb4 => ?_) (fun hb4 => ?_)
            · replace hj1 := bif_t hb4 hj1
              refine St.region ?_
              refine St.p rfl rfl ?_
              refine St.ixB 0 rfl rfl rfl rfl rfl rfl rfl rfl rfl rfl ?_
              refine St.store 0 rfl rfl rfl rfl rfl rfl .z rfl ?_
              refine St.done ?_
              injection hj1 with hj1
              subst hj1
              refine St.thenN ?_
              exact St.hereE () ⟨rfl, rfl, rfl, rfl, rfl, trivial⟩ (fun _ w => ((.k (.k (.k (.k .z)))) : Keep _ _).sat w)
            · replace hj1 := bif_f hb4 hj1
              refine St.skip ?_
              injection hj1 with hj1
              subst hj1
              refine St.thenN ?_
              exact St.hereE () ⟨rfl, rfl, rfl, rfl, rfl, trivial⟩ (fun _ w => ((.k (.k (.k (.k .z)))) : Keep _ _).sat w)
          · rintro e3
            refine St.seq ?_
            refine St.region ?_
            refine St.p rfl rfl ?_
            refine St.p rfl rfl ?_
            refine St.loadB 3 rfl rfl (.tail _ (.head _)) rfl rfl ?_
            refine St.p rfl rfl ?_
            obtain ⟨r3, hr3, h1⟩ := bnd_e h1
            refine St.call (c_ref01_Little hr3) ent42 rfl rfl rfl (fun _ w => w) ?_
            rintro _ _ ⟨A5, c5, rfl, rfl⟩
            refine St.asrt (F' := .res (OwnL eu8 5 A5 c5 r3) :: .res (Box g3 5 [.int .u8 o2]) :: .res (Box g1 45 (bx_T_Known r2.1)) :: .res (OwnC (codL l_T_Setting) 60 A2 c2 s1.1) :: .ro (SlL e_Known A1 c1 l_p0) :: R) (fun _ w => w) ?_
            refine St.asrt (fun _ w => (w.front .z).meltL) ?_
            refine St.asrt (fun _ w => (w.front (.s .z)).litL (E := eu8) (e := 5) [o2] rfl rfl) ?_
            obtain ⟨l2, hl2, h1⟩ := bnd_e h1
            refine St.app (E := eu8) hl2 rfl rfl rfl .z rfl rfl rfl rfl rfl rfl rfl rfl (srcL (.tail _ (.head _))) rfl rfl fun A6 c6 => ?_
            refine St.p rfl rfl ?_
            refine St.done ?_
            refine St.thenN ?_
            refine St.prune (Γ' := [(0, _), (4, _), (5, _), (6, _), (8, _)]) ⟨rfl, rfl, rfl, rfl, rfl, trivial⟩ (.k (.d (.k (.k (.k .z))))) ?_
            refine St.seq ?_
            refine St.region ?_
            refine St.p rfl rfl ?_
            refine St.p rfl rfl ?_
            refine St.loadB 2 rfl rfl (.tail _ (.head _)) rfl rfl ?_
            obtain ⟨l3, hl3, h1⟩ := bnd_e h1
            refine St.app (E := eu8) hl3 rfl rfl rfl .z rfl rfl rfl rfl rfl rfl rfl (by simp [bytesOf, ByteArray.toList_eq]) (srcS r2.1.Serial) rfl rfl fun A7 c7 => ?_
            refine St.p rfl rfl ?_
            refine St.done ?_
            refine St.thenN ?_
            refine St.prune (Γ' := [(0, _), (4, _), (5, _), (8, _)]) ⟨rfl, rfl, rfl, rfl, trivial⟩ (.k (.d (.k (.k .z)))) ?_
            refine St.region ?_
            iterate 6 refine St.p rfl rfl ?_
            refine St.buildSlice rfl rfl rfl rfl rfl rfl rfl rfl fun g4 => ?_
            obtain ⟨l4, hl4, h1⟩ := bnd_e h1
            refine St.asrt (fun _ w => (w.front (.s .z)).meltL) ?_
            refine St.appC (E := (codL l_T_Setting)) hl4 rfl rfl rfl (.s (.s .z)) rfl rfl rfl rfl rfl rfl rfl rfl (srcBC (ls := l_T_Setting) [((⟨IntKind.wrap .u8 (IntKind.wrap .i64 (16 + s1.2)), l3, false⟩ : T_Setting), ((A7, c7), ()))] (.tail _ (.head _)) rfl rfl rfl ⟨(.head _), trivial⟩) rfl rfl fun A8 c8 => ?_
            refine St.p rfl rfl ?_
            refine St.done ?_
            refine St.blkN ?_
            refine St.thenN ?_
            refine St.prune (Γ' := [(0, _), (4, _), (5, _)]) ⟨rfl, rfl, rfl, trivial⟩ (.k (.d (.d (.k .z)))) ?_
            refine St.region ?_
            iterate 3 refine St.p rfl rfl ?_
            refine St.done ?_
            injection h1 with h1
            subst h1
            refine St.thenN ?_
            exact St.again _ (A8, c8) hm1 trivial ⟨rfl, rfl, rfl, trivial⟩ (fun _ w => ((.k (.k .z)) : Keep _ _).sat w)
      · replace h1 := bif_f hb2 h1
        refine St.exit ?_
        repeat (first | refine St.thenX ?_ | refine St.blkMiss rfl ?_)
        refine St.blkHit ?_
        injection h1 with h1
        subst h1
        have ho := hd1 _ rfl
        subst ho
        refine St.thenN ?_
        exact St.hereE (A2, c2) ⟨rfl, trivial⟩ (fun _ w => ((.k (.d .z)) : Keep _ _).sat w)
    · rintro ⟨A3, c3⟩
      refine St.seq ?_
      refine St.region ?_
      iterate 3 refine St.p rfl rfl ?_
      refine St.done ?_
      refine St.thenN ?_
      refine St.prune (Γ' := [(2, _), (3, _)]) ⟨rfl, rfl, trivial⟩ (.k .z) ?_
      refine St.ret ?_
      repeat (first | refine St.thenR ?_ | refine St.blkR ?_)
      injection h with h
      subst h
      exact St.finR Try.results27 (.tmp rfl (.tmp rfl .nil)) rfl [.res (OwnC (codL l_T_Setting) 60 A3 c3 o1)] ⟨A3, c3, rfl, rfl⟩ (fun _ w => ((.k .z) : Keep _ _).sat w)

theorem ent43 : Ent Try.prog 43 := ⟨_, Try.func43, by kernel_rfl, by kernel_rfl⟩

noncomputable def m_ref01_Copy (b_p0 : (List Int)) : Option (List Int) :=
  bnd (loopM (τ := List Int) (fun (s1 : List Int × Int) => bif decide (s1.2 < (b_p0.length : Int)) then (bnd (elt b_p0 s1.2) fun x1 => bnd (app 1 s1.1 [x1]) fun l1 => some (.next (l1, IntKind.wrap .i64 (s1.2 + 1)))) else (some (.done s1.1))) ([], 0)) fun o1 => some o1

theorem c_ref01_Copy {b_p0 : (List Int)} {A1 : Option Addr} {c1 : Nat} {r : (List Int)} (h : m_ref01_Copy b_p0 = some r) :
    Fun Try.prog 43 [.slice A1 b_p0.length c1] [.ro (SlL eu8 A1 c1 b_p0)] (fun v_ F_ => ∃ (A1 : Option Addr) (c1 : Nat), v_ = .slice A1 r.length c1 ∧ F_ = [.res (OwnL eu8 5 A1 c1 r)]) := by
  unfold m_ref01_Copy at h
  refine Fun.intro Try.func43 rfl rfl rfl fun w R => ?_
  refine St.seq ?_
  refine St.region ?_
  refine St.p rfl rfl ?_
  refine St.done ?_
  refine St.thenN ?_
  refine St.prune (Γ' := [(0, _)]) ⟨rfl, trivial⟩ (.k .z) ?_
  refine St.seq ?_
  refine St.region ?_
  refine St.p rfl rfl ?_
  refine St.done ?_
  refine St.thenN ?_
  refine St.seq ?_
  refine St.seq ?_
  refine St.region ?_
  refine St.p rfl rfl ?_
  refine St.done ?_
  refine St.thenN ?_
  refine St.asrt (fun _ w => w.nilL eu8 5) ?_
  obtain ⟨o1, hl1, h⟩ := bnd_e h
  refine St.cutE (fun (e2 : Option Addr × Nat) => [(3, .slice e2.1 o1.length e2.2)]) (fun e2 => .res (OwnL eu8 5 e2.1 e2.2 o1) :: R) ?_ ?_
  · refine St.block ?_
    refine St.loop hl1 (fun (s1 : List Int × Int) (e1 : Option Addr × Nat) => [(0, .slice A1 b_p0.length c1), (3, .slice e1.1 s1.1.length e1.2), (4, .int .i64 s1.2)]) (fun s1 e1 => .res (OwnL eu8 5 e1.1 e1.2 s1.1) :: .ro (SlL eu8 A1 c1 b_p0) :: R) (fun _ _ => True) (none, 0) trivial ⟨rfl, rfl, rfl, trivial⟩ (fun _ w => ((.k (.k .z)) : Keep _ _).sat w) ?_
    rintro s1 ⟨A2, c2⟩ - hit1
    obtain ⟨st1, hm1, hd1⟩ := iter_e hit1
    have h1 := hm1
    refine St.seq ?_
    refine St.seq ?_
    refine St.region ?_
    iterate 4 refine St.p rfl rfl ?_
    refine St.done ?_
    refine St.thenN ?_
    refine St.prune (Γ' := [(0, _), (3, _), (4, _), (8, _)]) ⟨rfl, rfl, rfl, rfl, trivial⟩ (.k (.k .z)) ?_
    refine St.cond _ rfl (fun hb1 => ?_) (fun hb1 => ?_)
    · replace h1 := bif_t hb1 h1
      refine St.skip ?_
      refine St.thenN ?_
      refine St.prune (Γ' := [(0, _), (3, _), (4, _)]) ⟨rfl, rfl, rfl, trivial⟩ (.k (.k .z)) ?_
      refine St.seq ?_
      refine St.block ?_
      refine St.region ?_
      iterate 3 refine St.p rfl rfl ?_
      obtain ⟨x1, hx1, h1⟩ := bnd_e h1
      refine St.ixL hx1 rfl rfl rfl (.tail _ (.head _)) rfl rfl rfl rfl rfl fun b1 ob1 => ?_
      refine St.load ob1 0 rfl rfl (.head _) rfl rfl ?_
      refine St.buildSlice rfl rfl rfl rfl rfl rfl rfl rfl fun g1 => ?_
      obtain ⟨l1, hl1, h1⟩ := bnd_e h1
      refine St.app (E := eu8) hl1 rfl rfl rfl (.s (.s .z)) rfl rfl rfl rfl rfl rfl rfl rfl (srcB (.head _) rfl rfl) rfl rfl fun A4 c4 => ?_
      refine St.p rfl rfl ?_
      refine St.done ?_
      refine St.blkN ?_
      refine St.thenN ?_
      refine St.prune (Γ' := [(0, _), (3, _), (4, _)]) ⟨rfl, rfl, rfl, trivial⟩ (.k (.d (.d (.k .z)))) ?_
      refine St.region ?_
      iterate 3 refine St.p rfl rfl ?_
      refine St.done ?_
      injection h1 with h1
      subst h1
      refine St.thenN ?_
      exact St.again _ (A4, c4) hm1 trivial ⟨rfl, rfl, rfl, trivial⟩ (fun _ w => ((.k (.k .z)) : Keep _ _).sat w)
    · replace h1 := bif_f hb1 h1
      refine St.exit ?_
      repeat (first | refine St.thenX ?_ | refine St.blkMiss rfl ?_)
      refine St.blkHit ?_
      injection h1 with h1
      subst h1
      have ho := hd1 _ rfl
      subst ho
      refine St.thenN ?_
      exact St.hereE (A2, c2) ⟨rfl, trivial⟩ (fun _ w => ((.k (.d .z)) : Keep _ _).sat w)
  · rintro ⟨A3, c3⟩
    refine St.seq ?_
    refine St.region ?_
    refine St.p rfl rfl ?_
    refine St.p rfl rfl ?_
    refine St.done ?_
    refine St.thenN ?_
    refine St.prune (Γ' := [(2, _)]) ⟨rfl, trivial⟩ (.k .z) ?_
    refine St.ret ?_
    repeat (first | refine St.thenR ?_ | refine St.blkR ?_)
    injection h with h
    subst h
    exact St.finR Try.results43 (.tmp rfl .nil) rfl [.res (OwnL eu8 5 A3 c3 o1)] ⟨A3, c3, rfl, rfl⟩ (fun _ w => ((.k .z) : Keep _ _).sat w)

theorem ent28 : Ent Try.prog 28 := ⟨_, Try.func28, by kernel_rfl, by kernel_rfl⟩

noncomputable def m_ref06_Copy (l_p0 : (List T_Setting)) : Option (List T_Setting) :=
  bnd (loopM (τ := List T_Setting) (fun (s1 : List T_Setting × Int) => bif decide (s1.2 < (l_p0.length : Int)) then (bnd (elt l_p0 s1.2) fun x1 => bnd (m_ref01_Copy x1.Value) fun r1 => bnd (app 40 s1.1 [(⟨x1.Key, r1, x1.Delete⟩ : T_Setting)]) fun l1 => some (.next (l1, IntKind.wrap .i64 (s1.2 + 1)))) else (some (.done s1.1))) ([], 0)) fun o1 => some o1

theorem c_ref06_Copy {l_p0 : (List T_Setting)} {A1 : Option Addr} {c1 : Nat} {r : (List T_Setting)} (h : m_ref06_Copy l_p0 = some r) :
    Fun Try.prog 28 [.slice A1 l_p0.length c1] [.ro (Sl (codL l_T_Setting) A1 c1 l_p0)] (fun v_ F_ => ∃ (A1 : Option Addr) (c1 : Nat), v_ = .slice A1 r.length c1 ∧ F_ = [.res (OwnC (codL l_T_Setting) 60 A1 c1 r)]) := by
  unfold m_ref06_Copy at h
  refine Fun.intro Try.func28 rfl rfl rfl fun w R => ?_
  refine St.seq ?_
  refine St.region ?_
  refine St.p rfl rfl ?_
  refine St.done ?_
  refine St.thenN ?_
  refine St.prune (Γ' := [(0, _)]) ⟨rfl, trivial⟩ (.k .z) ?_
  refine St.seq ?_
  refine St.region ?_
  refine St.p rfl rfl ?_
  refine St.done ?_
  refine St.thenN ?_
  refine St.seq ?_
  refine St.seq ?_
  refine St.region ?_
  refine St.p rfl rfl ?_
  refine St.done ?_
  refine St.thenN ?_
  refine St.asrt (fun _ w => w.nilC (codL l_T_Setting) 60) ?_
  obtain ⟨o1, hl1, h⟩ := bnd_e h
  refine St.cutE (fun (e2 : Option Addr × Nat) => [(3, .slice e2.1 o1.length e2.2)]) (fun e2 => .res (OwnC (codL l_T_Setting) 60 e2.1 e2.2 o1) :: R) ?_ ?_
  · refine St.block ?_
    refine St.loop hl1 (fun (s1 : List T_Setting × Int) (e1 : Option Addr × Nat) => [(0, .slice A1 l_p0.length c1), (3, .slice e1.1 s1.1.length e1.2), (4, .int .i64 s1.2)]) (fun s1 e1 => .res (OwnC (codL l_T_Setting) 60 e1.1 e1.2 s1.1) :: .ro (Sl (codL l_T_Setting) A1 c1 l_p0) :: R) (fun _ _ => True) (none, 0) trivial ⟨rfl, rfl, rfl, trivial⟩ (fun _ w => ((.k (.k .z)) : Keep _ _).sat w) ?_
    rintro s1 ⟨A2, c2⟩ - hit1
    obtain ⟨st1, hm1, hd1⟩ := iter_e hit1
    have h1 := hm1
    refine St.seq ?_
    refine St.seq ?_
    refine St.region ?_
    iterate 4 refine St.p rfl rfl ?_
    refine St.done ?_
    refine St.thenN ?_
    refine St.prune (Γ' := [(0, _), (3, _), (4, _), (8, _)]) ⟨rfl, rfl, rfl, rfl, trivial⟩ (.k (.k .z)) ?_
    refine St.cond _ rfl (fun hb1 => ?_) (fun hb1 => ?_)
    · replace h1 := bif_t hb1 h1
      refine St.skip ?_
      refine St.thenN ?_
      refine St.prune (Γ' := [(0, _), (3, _), (4, _)]) ⟨rfl, rfl, rfl, trivial⟩ (.k (.k .z)) ?_
      refine St.seq ?_
      refine St.block ?_
      obtain ⟨x1, hx1, h1⟩ := bnd_e h1
      refine St.openN (.tail _ (.head _)) hx1 fun b1 ob1 ex1 hqb1 => ?_
      obtain ⟨⟨A4, c4⟩, _⟩ := ex1
      refine St.asrt (F' := .ro (Cells b1 ob1 [.int .u8 x1.Key, .slice A4 x1.Value.length c4, .bool x1.Delete]) :: .ro (SlL eu8 A4 c4 x1.Value) :: .res (OwnC (codL l_T_Setting) 60 A2 c2 s1.1) :: .ro (Sl (codL l_T_Setting) A1 c1 l_p0) :: R) (fun _ w => w) ?_
      refine St.regionX (iL [(.fl, 0), (.fl, 1), (.fl, 2), (.fl, 3), (.fl, 4), (.fl, 5), (.fl, 6), (.fl, 7), (.fx, 8), (.fl, 9), (.fx, 10), (.fl, 12), (.fl, 13), (.fl, 14), (.fl, 15), (.fl, 16), (.ef, 11), (.fl, 17), (.ef, 18), (.ef, 19), (.fl, 20)] .nil) (.ro (Cells b1 ob1 [.int .u8 x1.Key, .slice A4 x1.Value.length c4, .bool x1.Delete]) :: .ro (SlL eu8 A4 c4 x1.Value) :: .ro (Sl (codL l_T_Setting) A1 c1 l_p0) :: R) mixed (by kernel_rfl) (fun _ w => ((.k (.k (.d (.k .z)))) : Keep _ _).sat w) ?_
      refine St.xfl (fun _ h => h) (Rd.p rfl) rfl ?_
      refine St.xfl (fun _ h => h) (Rd.p rfl) rfl ?_
      refine St.xfl (fun _ h => h) (Rd.p rfl) rfl ?_
      refine St.xfl (fun _ h => h) (Rd.ixN hqb1 hx1 rfl rfl rfl rfl rfl rfl rfl) rfl ?_
      refine St.xfl (fun _ h => h) (Rd.p rfl) rfl ?_
      refine St.xfl (fun _ h => h) (Rd.load ob1 0 rfl (.head _) rfl rfl) rfl ?_
      refine St.xfl (fun _ h => h) (Rd.p rfl) rfl ?_
      refine St.xfl (fun _ h => h) (Rd.p rfl) rfl ?_
      refine St.xfx (Rd.ixN hqb1 hx1 rfl rfl rfl rfl rfl rfl rfl) rfl ?_
      refine St.xfl (fun _ h => h) (Rd.p rfl) rfl ?_
      refine St.xfx (Rd.load ob1 1 rfl (.head _) rfl rfl) rfl ?_
      refine St.xfl (fun _ h => h) (Rd.p rfl) rfl ?_
      refine St.xfl (fun _ h => h) (Rd.p rfl) rfl ?_
      refine St.xfl (fun _ h => h) (Rd.ixN hqb1 hx1 rfl rfl rfl rfl rfl rfl rfl) rfl ?_
      refine St.xfl (fun _ h => h) (Rd.p rfl) rfl ?_
      refine St.xfl (fun _ h => h) (Rd.load ob1 2 rfl (.head _) rfl rfl) rfl ?_
      refine St.xef ?_
      obtain ⟨r1, hr1, h1⟩ := bnd_e h1
      refine St.call (c_ref01_Copy hr1) ent43 rfl rfl rfl (fun _ w => Sat.dup (G := [.ro (SlL eu8 A4 c4 x1.Value)]) rfl ⟨(.tail _ (.head _)), trivial⟩ w) ?_
      rintro _ _ ⟨A5, c5, rfl, rfl⟩
      refine St.asrt (F' := .res (OwnL eu8 5 A5 c5 r1) :: .ro (Cells b1 ob1 [.int .u8 x1.Key, .slice A4 x1.Value.length c4, .bool x1.Delete]) :: .ro (SlL eu8 A4 c4 x1.Value) :: .res (OwnC (codL l_T_Setting) 60 A2 c2 s1.1) :: .ro (Sl (codL l_T_Setting) A1 c1 l_p0) :: R) (fun _ w => w) ?_
      refine St.xk (fun _ w => ((.d (.k (.k (.d (.k .z))))) : Keep _ _).sat w) ?_
      refine St.xfl (fun _ h => h) (Rd.p rfl) rfl ?_
      refine St.xef ?_
      refine St.buildSlice rfl rfl rfl rfl rfl rfl rfl rfl fun g1 => ?_
      refine St.xk (fun _ w => ((.d (.d (.k (.k (.d (.k .z)))))) : Keep _ _).sat w) ?_
      refine St.xef ?_
      obtain ⟨l1, hl1, h1⟩ := bnd_e h1
      refine St.asrt (fun _ w => (w.front (.s .z)).meltL) ?_
      refine St.appC (E := (codL l_T_Setting)) hl1 rfl rfl rfl (.s (.s (.s (.s .z)))) rfl rfl rfl rfl rfl rfl rfl rfl (srcBC (ls := l_T_Setting) [((⟨x1.Key, r1, x1.Delete⟩ : T_Setting), ((A5, c5), ()))] (.tail _ (.head _)) rfl rfl rfl ⟨(.head _), trivial⟩) rfl rfl fun A6 c6 => ?_
      refine St.xk (fun _ w => ((.d (.d (.d (.k (.k (.k .z)))))) : Keep _ _).sat w) ?_
      refine St.xfl (fun _ h => h) (Rd.p rfl) rfl ?_
      refine St.xdone ?_
      refine St.blkN ?_
      refine St.thenN ?_
      refine St.prune (Γ' := [(0, _), (3, _), (4, _)]) ⟨rfl, rfl, rfl, trivial⟩ (.k (.d (.d (.d (.d (.k .z)))))) ?_
      refine St.region ?_
      iterate 3 refine St.p rfl rfl ?_
      refine St.done ?_
      injection h1 with h1
      subst h1
      refine St.thenN ?_
      exact St.again _ (A6, c6) hm1 trivial ⟨rfl, rfl, rfl, trivial⟩ (fun _ w => ((.k (.k .z)) : Keep _ _).sat w)
    · replace h1 := bif_f hb1 h1
      refine St.exit ?_
      repeat (first | refine St.thenX ?_ | refine St.blkMiss rfl ?_)
      refine St.blkHit ?_
      injection h1 with h1
      subst h1
      have ho := hd1 _ rfl
      subst ho
      refine St.thenN ?_
      exact St.hereE (A2, c2) ⟨rfl, trivial⟩ (fun _ w => ((.k (.d .z)) : Keep _ _).sat w)
  · rintro ⟨A3, c3⟩
    refine St.seq ?_
    refine St.region ?_
    refine St.p rfl rfl ?_
    refine St.p rfl rfl ?_
    refine St.done ?_
    refine St.thenN ?_
    refine St.prune (Γ' := [(2, _)]) ⟨rfl, trivial⟩ (.k .z) ?_
    refine St.ret ?_
    repeat (first | refine St.thenR ?_ | refine St.blkR ?_)
    injection h with h
    subst h
    exact St.finR Try.results28 (.tmp rfl .nil) rfl [.res (OwnC (codL l_T_Setting) 60 A3 c3 o1)] ⟨A3, c3, rfl, rfl⟩ (fun _ w => ((.k .z) : Keep _ _).sat w)

theorem ent44 : Ent Try.prog 44 := ⟨_, Try.func44, by kernel_rfl, by kernel_rfl⟩

noncomputable def m_made_Dice_Byte (d_p0 : T_Dice) : Option (T_Dice × Int) :=
  bnd (m_made_Dice_Bool d_p0 3) fun r1 => bif r1.2 then (bnd (m_made_Dice_Next r1.1 8) fun r2 => bnd (elt ([0, 1, 127, 128, 254, 255, 15, 240]) r2.2) fun x1 => some (r2.1, x1)) else (bnd (m_made_Dice_Next r1.1 256) fun r3 => some (r3.1, IntKind.wrap .u8 r3.2))

theorem c_made_Dice_Byte {d_p0 : T_Dice} {A1 : Option Addr} {c1 : Nat} {gb1 : Nat} {r : (T_Dice × Int)} (h : m_made_Dice_Byte d_p0 = some r) :
    Fun Try.prog 44 [.pointer (some ⟨gb1, 0, none⟩)] [.ro (SlL ei64 A1 c1 d_p0.L), .res (Box gb1 73 [.slice A1 d_p0.L.length c1, .int .i64 d_p0.At])] (fun v_ F_ => ∃ (A1 : Option Addr) (c1 : Nat), v_ = .int .u8 r.2 ∧ F_ = [.ro (SlL ei64 A1 c1 r.1.L), .res (Box gb1 73 [.slice A1 r.1.L.length c1, .int .i64 r.1.At])]) := by
  unfold m_made_Dice_Byte at h
  refine Fun.intro Try.func44 rfl rfl rfl fun w R => ?_
  refine St.seq ?_
  refine St.region ?_
  refine St.p rfl rfl ?_
  refine St.done ?_
  refine St.thenN ?_
  refine St.prune (Γ' := [(0, _)]) ⟨rfl, trivial⟩ (.k (.k .z)) ?_
  refine St.seq ?_
  refine St.region ?_
  refine St.p rfl rfl ?_
  refine St.alloc rfl rfl fun g1 => ?_
  refine St.store 0 rfl rfl rfl rfl rfl rfl .z rfl ?_
  refine St.asrt (fun _ w => (w.front .z).litL (E := eu8) (e := 97) [0, 1, 127, 128, 254, 255, 15, 240] rfl rfl) ?_
  refine St.done ?_
  refine St.thenN ?_
  refine St.prune (Γ' := [(0, _), (3, _)]) ⟨rfl, rfl, trivial⟩ (.k (.k (.k .z))) ?_
  refine St.seq ?_
  refine St.seq ?_
  refine St.region ?_
  refine St.p rfl rfl ?_
  obtain ⟨r1, hr1, h⟩ := bnd_e h
  refine St.call (c_made_Dice_Bool hr1) ent23 rfl rfl rfl (fun _ w => Sat.dup (G := [.ro (SlL ei64 A1 c1 d_p0.L)]) rfl ⟨(.tail _ (.tail _ (.head _))), trivial⟩ (w.front (.s (.s .z)))) ?_
  rintro _ _ ⟨A2, c2, rfl, rfl⟩
  refine St.asrt (F' := .ro (SlL ei64 A2 c2 r1.1.L) :: .res (Box gb1 73 [.slice A2 r1.1.L.length c2, .int .i64 r1.1.At]) :: .res (OwnL eu8 97 (some ⟨g1, 0, none⟩) ([0, 1, 127, 128, 254, 255, 15, 240] : List Int).length ([0, 1, 127, 128, 254, 255, 15, 240])) :: .ro (SlL ei64 A1 c1 d_p0.L) :: R) (fun _ w => w) ?_
  refine St.done ?_
  refine St.thenN ?_
  refine St.prune (Γ' := [(0, _), (3, _), (6, _)]) ⟨rfl, rfl, rfl, trivial⟩ (.k (.k (.k (.d .z)))) ?_
  refine St.cond _ rfl (fun hb1 => ?_) (fun hb1 => ?_)
  · replace h := bif_t hb1 h
    refine St.seq ?_
    refine St.region ?_
    refine St.p rfl rfl ?_
    obtain ⟨r2, hr2, h⟩ := bnd_e h
    refine St.call (c_made_Dice_Next hr2) ent22 rfl rfl rfl (fun _ w => Sat.dup (G := [.ro (SlL ei64 A2 c2 r1.1.L)]) rfl ⟨(.tail _ (.head _)), trivial⟩ (w.front (.s .z))) ?_
    rintro _ _ ⟨A3, c3, rfl, rfl⟩
    refine St.asrt (F' := .ro (SlL ei64 A3 c3 r2.1.L) :: .res (Box gb1 73 [.slice A3 r2.1.L.length c3, .int .i64 r2.1.At]) :: .ro (SlL ei64 A2 c2 r1.1.L) :: .res (OwnL eu8 97 (some ⟨g1, 0, none⟩) ([0, 1, 127, 128, 254, 255, 15, 240] : List Int).length ([0, 1, 127, 128, 254, 255, 15, 240])) :: R) (fun _ w => w) ?_
    obtain ⟨x1, hx1, h⟩ := bnd_e h
    refine St.ixA (sz := 1) hx1 rfl rfl rfl rfl rfl rfl rfl rfl ?_
    refine St.ldO 0 hx1 rfl rfl (.tail _ (.tail _ (.tail _ (.head _)))) rfl rfl ?_
    refine St.p rfl rfl ?_
    refine St.done ?_
    refine St.thenN ?_
    refine St.prune (Γ' := [(2, _)]) ⟨rfl, trivial⟩ (.k (.k (.d (.d .z)))) ?_
    refine St.ret ?_
    repeat (first | refine St.thenR ?_ | refine St.blkR ?_)
    injection h with h
    subst h
    exact St.finR Try.results44 (.tmp rfl .nil) rfl [.ro (SlL ei64 A3 c3 r2.1.L), .res (Box gb1 73 [.slice A3 r2.1.L.length c3, .int .i64 r2.1.At])] ⟨A3, c3, rfl, rfl⟩ (fun _ w => ((.k (.k (.d .z))) : Keep _ _).sat (Sat.dup (G := [.ro (SlL ei64 A3 c3 r2.1.L)]) rfl ⟨(.tail _ (.head _)), trivial⟩ (w.front (.s .z))))
  · replace h := bif_f hb1 h
    refine St.skip ?_
    refine St.thenN ?_
    refine St.prune (Γ' := [(0, _)]) ⟨rfl, trivial⟩ (.k (.k (.d .z))) ?_
    refine St.seq ?_
    refine St.region ?_
    refine St.p rfl rfl ?_
    obtain ⟨r3, hr3, h⟩ := bnd_e h
    refine St.call (c_made_Dice_Next hr3) ent22 rfl rfl rfl (fun _ w => Sat.dup (G := [.ro (SlL ei64 A2 c2 r1.1.L)]) rfl ⟨(.tail _ (.head _)), trivial⟩ (w.front (.s .z))) ?_
    rintro _ _ ⟨A4, c4, rfl, rfl⟩
    refine St.asrt (F' := .ro (SlL ei64 A4 c4 r3.1.L) :: .res (Box gb1 73 [.slice A4 r3.1.L.length c4, .int .i64 r3.1.At]) :: .ro (SlL ei64 A2 c2 r1.1.L) :: R) (fun _ w => w) ?_
    refine St.p rfl rfl ?_
    refine St.p rfl rfl ?_
    refine St.done ?_
    refine St.thenN ?_
    refine St.prune (Γ' := [(2, _)]) ⟨rfl, trivial⟩ (.k (.k (.d .z))) ?_
    refine St.ret ?_
    repeat (first | refine St.thenR ?_ | refine St.blkR ?_)
    injection h with h
    subst h
    exact St.finR Try.results44 (.tmp rfl .nil) rfl [.ro (SlL ei64 A4 c4 r3.1.L), .res (Box gb1 73 [.slice A4 r3.1.L.length c4, .int .i64 r3.1.At])] ⟨A4, c4, rfl, rfl⟩ (fun _ w => ((.k (.k (.d .z))) : Keep _ _).sat (Sat.dup (G := [.ro (SlL ei64 A4 c4 r3.1.L)]) rfl ⟨(.tail _ (.head _)), trivial⟩ (w.front (.s .z))))

theorem ent29 : Ent Try.prog 29 := ⟨_, Try.func29, by kernel_rfl, by kernel_rfl⟩

noncomputable def m_made_Dice_Bytes (d_p0 : T_Dice) (n_p1 : Int) : Option (T_Dice × (List Int)) :=
  bnd (m_made_Dice_Next d_p0 (IntKind.wrap .i64 (n_p1 + 1))) fun r1 => bnd (loopM (τ := List Int × List Int × Int) (fun (s1 : List Int × Int × List Int × Int) => bif decide (s1.2.1 > 0) then (bnd (m_made_Dice_Byte (⟨s1.2.2.1, s1.2.2.2⟩ : T_Dice)) fun r2 => bnd (app 1 s1.1 [r2.2]) fun l1 => some (.next (l1, IntKind.wrap .i64 (s1.2.1 - 1), r2.1.L, r2.1.At))) else (some (.done (s1.1, s1.2.2.1, s1.2.2.2)))) ([], r1.2, r1.1.L, r1.1.At)) fun o1 => some ((⟨o1.2.1, o1.2.2⟩ : T_Dice), o1.1)

theorem c_made_Dice_Bytes {d_p0 : T_Dice} {n_p1 : Int} {A1 : Option Addr} {c1 : Nat} {gb1 : Nat} {r : (T_Dice × (List Int))} (h : m_made_Dice_Bytes d_p0 n_p1 = some r) :
    Fun Try.prog 29 [.pointer (some ⟨gb1, 0, none⟩), .int .i64 n_p1] [.ro (SlL ei64 A1 c1 d_p0.L), .res (Box gb1 73 [.slice A1 d_p0.L.length c1, .int .i64 d_p0.At])] (fun v_ F_ => ∃ (A1 : Option Addr) (c1 : Nat) (A2 : Option Addr) (c2 : Nat), v_ = .slice A2 r.2.length c2 ∧ F_ = [.ro (SlL ei64 A1 c1 r.1.L), .res (Box gb1 73 [.slice A1 r.1.L.length c1, .int .i64 r.1.At]), .res (OwnL eu8 5 A2 c2 r.2)]) := by
  unfold m_made_Dice_Bytes at h
  refine Fun.intro Try.func29 rfl rfl rfl fun w R => ?_
  refine St.seq ?_
  refine St.region ?_
  refine St.p rfl rfl ?_
  refine St.done ?_
  refine St.thenN ?_
  refine St.prune (Γ' := [(0, _), (1, _)]) ⟨rfl, rfl, trivial⟩ (.k (.k .z)) ?_
  refine St.seq ?_
  refine St.region ?_
  refine St.p rfl rfl ?_
  refine St.done ?_
  refine St.thenN ?_
  refine St.seq ?_
  refine St.seq ?_
  refine St.region ?_
  iterate 3 refine St.p rfl rfl ?_
  obtain ⟨r1, hr1, h⟩ := bnd_e h
  refine St.call (c_made_Dice_Next hr1) ent22 rfl rfl rfl (fun _ w => Sat.dup (G := [.ro (SlL ei64 A1 c1 d_p0.L)]) rfl ⟨(.tail _ (.head _)), trivial⟩ (w.front (.s .z))) ?_
  rintro _ _ ⟨A2, c2, rfl, rfl⟩
  refine St.asrt (F' := .ro (SlL ei64 A2 c2 r1.1.L) :: .res (Box gb1 73 [.slice A2 r1.1.L.length c2, .int .i64 r1.1.At]) :: .ro (SlL ei64 A1 c1 d_p0.L) :: R) (fun _ w => w) ?_
  refine St.p rfl rfl ?_
  refine St.done ?_
  refine St.thenN ?_
  refine St.prune (Γ' := [(0, _), (5, _), (6, _)]) ⟨rfl, rfl, rfl, trivial⟩ (.k (.k (.d .z))) ?_
  refine St.asrt (fun _ w => w.nilL eu8 5) ?_
  obtain ⟨o1, hl1, h⟩ := bnd_e h
  refine St.cutE (fun (e2 : Option Addr × Nat × Option Addr × Nat) => [(5, .slice e2.1 o1.1.length e2.2.1)]) (fun e2 => .ro (SlL ei64 e2.2.2.1 e2.2.2.2 o1.2.1) :: .res (OwnL eu8 5 e2.1 e2.2.1 o1.1) :: .res (Box gb1 73 [.slice e2.2.2.1 o1.2.1.length e2.2.2.2, .int .i64 o1.2.2]) :: R) ?_ ?_
  · refine St.block ?_
    refine St.loop hl1 (fun (s1 : List Int × Int × List Int × Int) (e1 : Option Addr × Nat × Option Addr × Nat) => [(0, .pointer (some ⟨gb1, 0, none⟩)), (5, .slice e1.1 s1.1.length e1.2.1), (6, .int .i64 s1.2.1)]) (fun s1 e1 => .ro (SlL ei64 e1.2.2.1 e1.2.2.2 s1.2.2.1) :: .res (OwnL eu8 5 e1.1 e1.2.1 s1.1) :: .res (Box gb1 73 [.slice e1.2.2.1 s1.2.2.1.length e1.2.2.2, .int .i64 s1.2.2.2]) :: R) (fun _ _ => True) (none, 0, A2, c2) trivial ⟨rfl, rfl, rfl, trivial⟩ (fun _ w => ((.k (.k (.k .z))) : Keep _ _).sat (((w.front (.s (.s .z))).front (.s .z)).front (.s (.s .z)))) ?_
    rintro s1 ⟨A3, c3, A4, c4⟩ - hit1
    obtain ⟨st1, hm1, hd1⟩ := iter_e hit1
    have h1 := hm1
    refine St.seq ?_
    refine St.seq ?_
    refine St.region ?_
    refine St.p rfl rfl ?_
    refine St.p rfl rfl ?_
    refine St.done ?_
    refine St.thenN ?_
    refine St.prune (Γ' := [(0, _), (5, _), (6, _), (12, _)]) ⟨rfl, rfl, rfl, rfl, trivial⟩ (.k (.k (.k .z))) ?_
    refine St.cond _ rfl (fun hb1 => ?_) (fun hb1 => ?_)
    · replace h1 := bif_t hb1 h1
      refine St.skip ?_
      refine St.thenN ?_
      refine St.prune (Γ' := [(0, _), (5, _), (6, _)]) ⟨rfl, rfl, rfl, trivial⟩ (.k (.k (.k .z))) ?_
      refine St.seq ?_
      refine St.block ?_
      refine St.region ?_
      refine St.p rfl rfl ?_
      refine St.p rfl rfl ?_
      obtain ⟨r2, hr2, h1⟩ := bnd_e h1
      refine St.call (c_made_Dice_Byte hr2) ent44 rfl rfl rfl (fun _ w => Sat.dup (G := [.ro (SlL ei64 A4 c4 s1.2.2.1)]) rfl ⟨(.tail _ (.head _)), trivial⟩ (w.front (.s (.s .z)))) ?_
      rintro _ _ ⟨A7, c7, rfl, rfl⟩
      refine St.asrt (F' := .ro (SlL ei64 A7 c7 r2.1.L) :: .res (Box gb1 73 [.slice A7 r2.1.L.length c7, .int .i64 r2.1.At]) :: .ro (SlL ei64 A4 c4 s1.2.2.1) :: .res (OwnL eu8 5 A3 c3 s1.1) :: R) (fun _ w => w) ?_
      refine St.buildSlice rfl rfl rfl rfl rfl rfl rfl rfl fun g1 => ?_
      obtain ⟨l1, hl1, h1⟩ := bnd_e h1
      refine St.app (E := eu8) hl1 rfl rfl rfl (.s (.s (.s (.s .z)))) rfl rfl rfl rfl rfl rfl rfl rfl (srcB (.head _) rfl rfl) rfl rfl fun A8 c8 => ?_
      refine St.p rfl rfl ?_
      refine St.done ?_
      refine St.blkN ?_
      refine St.thenN ?_
      refine St.prune (Γ' := [(0, _), (5, _), (6, _)]) ⟨rfl, rfl, rfl, trivial⟩ (.k (.d (.k (.k (.d .z))))) ?_
      refine St.region ?_
      iterate 3 refine St.p rfl rfl ?_
      refine St.done ?_
      injection h1 with h1
      subst h1
      refine St.thenN ?_
      exact St.again _ (A8, c8, A7, c7) hm1 trivial ⟨rfl, rfl, rfl, trivial⟩ (fun _ w => ((.k (.k (.k .z))) : Keep _ _).sat (((w.front (.s (.s .z))).front (.s .z)).front (.s (.s .z))))
    · replace h1 := bif_f hb1 h1
      refine St.exit ?_
      repeat (first | refine St.thenX ?_ | refine St.blkMiss rfl ?_)
      refine St.blkHit ?_
      injection h1 with h1
      subst h1
      have ho := hd1 _ rfl
      subst ho
      refine St.thenN ?_
      exact St.hereE (A3, c3, A4, c4) ⟨rfl, trivial⟩ (fun _ w => ((.k (.k (.k .z))) : Keep _ _).sat w)
  · rintro ⟨A5, c5, A6, c6⟩
    refine St.seq ?_
    refine St.region ?_
    refine St.p rfl rfl ?_
    refine St.p rfl rfl ?_
    refine St.done ?_
    refine St.thenN ?_
    refine St.prune (Γ' := [(4, _)]) ⟨rfl, trivial⟩ (.k (.k (.k .z))) ?_
    refine St.ret ?_
    repeat (first | refine St.thenR ?_ | refine St.blkR ?_)
    injection h with h
    subst h
    exact St.finR Try.results29 (.tmp rfl .nil) rfl [.ro (SlL ei64 A6 c6 o1.2.1), .res (Box gb1 73 [.slice A6 o1.2.1.length c6, .int .i64 o1.2.2]), .res (OwnL eu8 5 A5 c5 o1.1)] ⟨A6, c6, A5, c5, rfl, rfl⟩ (fun _ w => ((.k (.k (.k (.d .z)))) : Keep _ _).sat (Sat.dup (G := [.ro (SlL ei64 A6 c6 o1.2.1)]) rfl ⟨(.tail _ (.tail _ (.head _))), trivial⟩ ((w.front (.s .z)).front (.s (.s .z)))))

theorem ent30 : Ent Try.prog 30 := ⟨_, Try.func30, by kernel_rfl, by kernel_rfl⟩

noncomputable def m_inventory_Save (l_p0 : (List T_Known)) : Option ((List T_Setting) × Int) :=
  bnd (m_inventory_Valid l_p0) fun r1 => bif !r1 then (some ([], 1)) else (bnd (loopM (τ := List T_Setting) (fun (s1 : List T_Setting × Int) => bif decide (s1.2 < 16) then (bnd (m_inventory_at l_p0 s1.2) fun r2 => bif r2.2 then (bnd ((bif r2.1.Good then (some 1) else (some 0) : Option Int)) fun o2 => bnd (app 1 ([o2, IntKind.wrap .u8 r2.1.Sum, IntKind.wrap .u8 (iShr .u32 r2.1.Sum 8), IntKind.wrap .u8 (iShr .u32 r2.1.Sum 16), IntKind.wrap .u8 (iShr .u32 r2.1.Sum 24)]) (bytesOf r2.1.Serial)) fun l1 => bnd (app 40 s1.1 [(⟨IntKind.wrap .u8 (IntKind.wrap .i64 (16 + s1.2)), l1, false⟩ : T_Setting)]) fun l2 => some (.next (l2, IntKind.wrap .i64 (s1.2 + 1)))) else (bnd (app 40 s1.1 [(⟨IntKind.wrap .u8 (IntKind.wrap .i64 (16 + s1.2)), [], true⟩ : T_Setting)]) fun l3 => some (.next (l3, IntKind.wrap .i64 (s1.2 + 1))))) else (some (.done s1.1))) ([], 0)) fun o1 => some (o1, 0))

theorem c_inventory_Save {l_p0 : (List T_Known)} {A1 : Option Addr} {c1 : Nat} {r : ((List T_Setting) × Int)} (h : m_inventory_Save l_p0 = some r) :
    Fun Try.prog 30 [.slice A1 l_p0.length c1] [.ro (SlL e_Known A1 c1 l_p0)] (fun v_ F_ => ∃ (A1 : Option Addr) (c1 : Nat), v_ = .tuple #[.slice A1 r.1.length c1, .int .i64 r.2] ∧ F_ = [.res (OwnC (codL l_T_Setting) 60 A1 c1 r.1)]) := by
  unfold m_inventory_Save at h
  refine Fun.intro Try.func30 rfl rfl rfl fun w R => ?_
  refine St.seq ?_
  refine St.region ?_
  refine St.p rfl rfl ?_
  refine St.p rfl rfl ?_
  refine St.done ?_
  refine St.thenN ?_
  refine St.prune (Γ' := [(0, _)]) ⟨rfl, trivial⟩ (.k .z) ?_
  refine St.seq ?_
  refine St.seq ?_
  refine St.region ?_
  refine St.p rfl rfl ?_
  obtain ⟨r1, hr1, h⟩ := bnd_e h
  refine St.callV (c_inventory_Valid hr1) ent17 rfl rfl rfl rfl ⟨(.head _), trivial⟩ ?_
  refine St.p rfl rfl ?_
  refine St.done ?_
  refine St.thenN ?_
  refine St.prune (Γ' := [(0, _), (12, _)]) ⟨rfl, rfl, trivial⟩ (.k .z) ?_
  refine St.cond _ rfl (fun hb1 => ?_) (fun hb1 => ?_)
  · replace h := bif_t hb1 h
    refine St.seq ?_
    refine St.region ?_
    refine St.p rfl rfl ?_
    refine St.p rfl rfl ?_
    refine St.done ?_
    refine St.thenN ?_
    refine St.prune (Γ' := [(2, _), (3, _)]) ⟨rfl, rfl, trivial⟩ (.d .z) ?_
    refine St.ret ?_
    repeat (first | refine St.thenR ?_ | refine St.blkR ?_)
    refine St.asrt (fun _ w => w.nilC (codL l_T_Setting) 60) ?_
    injection h with h
    subst h
    exact St.finR Try.results30 (.tmp rfl (.tmp rfl .nil)) rfl [.res (OwnC (codL l_T_Setting) 60 none 0 ([] : List T_Setting))] ⟨none, 0, rfl, rfl⟩ (fun _ w => ((.k .z) : Keep _ _).sat w)
  · replace h := bif_f hb1 h
    refine St.skip ?_
    refine St.thenN ?_
    refine St.prune (Γ' := [(0, _)]) ⟨rfl, trivial⟩ (.k .z) ?_
    refine St.seq ?_
    refine St.region ?_
    refine St.p rfl rfl ?_
    refine St.done ?_
    refine St.thenN ?_
    refine St.seq ?_
    refine St.seq ?_
    refine St.region ?_
    refine St.p rfl rfl ?_
    refine St.done ?_
    refine St.thenN ?_
    refine St.asrt (fun _ w => w.nilC (codL l_T_Setting) 60) ?_
    obtain ⟨o1, hl1, h⟩ := bnd_e h
    refine St.cutE (fun (e2 : Option Addr × Nat) => [(4, .slice e2.1 o1.length e2.2)]) (fun e2 => .res (OwnC (codL l_T_Setting) 60 e2.1 e2.2 o1) :: R) ?_ ?_
    · refine St.block ?_
      refine St.loop hl1 (fun (s1 : List T_Setting × Int) (e1 : Option Addr × Nat) => [(0, .slice A1 l_p0.length c1), (4, .slice e1.1 s1.1.length e1.2), (13, .int .i64 s1.2)]) (fun s1 e1 => .res (OwnC (codL l_T_Setting) 60 e1.1 e1.2 s1.1) :: .ro (SlL e_Known A1 c1 l_p0) :: R) (fun _ _ => True) (none, 0) trivial ⟨rfl, rfl, rfl, trivial⟩ (fun _ w => ((.k (.k .z)) : Keep _ _).sat w) ?_
      rintro s1 ⟨A2, c2⟩ - hit1
      obtain ⟨st1, hm1, hd1⟩ := iter_e hit1
      have h1 := hm1
      refine St.seq ?_
      refine St.region ?_
      refine St.p rfl rfl ?_
      refine St.done ?_
      refine St.thenN ?_
      refine St.seq ?_
      refine St.cond _ rfl (fun hb2 => ?_) (fun hb2 => ?_)
      · replace h1 := bif_t hb2 h1
        refine St.skip ?_
        refine St.thenN ?_
        refine St.prune (Γ' := [(0, _), (4, _), (13, _)]) ⟨rfl, rfl, rfl, trivial⟩ (.k (.k .z)) ?_
        refine St.seq ?_
        refine St.block ?_
        refine St.seq ?_
        refine St.region ?_
        refine St.p rfl rfl ?_
        refine St.p rfl rfl ?_
        refine St.done ?_
        refine St.thenN ?_
        refine St.prune (Γ' := [(0, _), (4, _), (5, _), (13, _)]) ⟨rfl, rfl, rfl, rfl, trivial⟩ (.k (.k .z)) ?_
        refine St.seq ?_
        refine St.region ?_
        iterate 4 refine St.p rfl rfl ?_
        refine St.alloc rfl rfl fun g1 => ?_
        refine St.store 0 rfl rfl rfl rfl rfl rfl .z rfl ?_
        refine St.done ?_
        refine St.thenN ?_
        refine St.prune (Γ' := [(0, _), (4, _), (5, _), (6, _), (13, _)]) ⟨rfl, rfl, rfl, rfl, rfl, trivial⟩ (.k (.k (.k .z))) ?_
        refine St.seq ?_
        refine St.seq ?_
        refine St.region ?_
        refine St.p rfl rfl ?_
        refine St.p rfl rfl ?_
        obtain ⟨r2, hr2, h1⟩ := bnd_e h1
        refine St.callV (c_inventory_at hr2) ent45 rfl rfl rfl rfl ⟨(.tail _ (.tail _ (.head _))), trivial⟩ ?_
        iterate 3 refine St.p rfl rfl ?_
        refine St.alloc rfl rfl fun g2 => ?_
        refine St.store 0 rfl rfl rfl rfl rfl rfl .z rfl ?_
        refine St.p rfl rfl ?_
        refine St.done ?_
        refine St.thenN ?_
        refine St.prune (Γ' := [(0, _), (4, _), (6, _), (7, _), (8, _), (13, _)]) ⟨rfl, rfl, rfl, rfl, rfl, rfl, trivial⟩ (.k (.k (.k (.k .z)))) ?_
        refine St.seq ?_
        refine St.region ?_
        refine St.p rfl rfl ?_
        refine St.done ?_
        refine St.thenN ?_
        refine St.prune (Γ' := [(0, _), (4, _), (6, _), (7, _), (13, _), (26, _)]) ⟨rfl, rfl, rfl, rfl, rfl, rfl, trivial⟩ (.k (.k (.k (.k .z)))) ?_
        refine St.cond _ rfl (fun hb3 => ?_) (fun hb3 => ?_)
        · replace h1 := bif_t hb3 h1
          refine St.seq ?_
          refine St.region ?_
          refine St.p rfl rfl ?_
          refine St.done ?_
          refine St.thenN ?_
          refine St.prune (Γ' := [(0, _), (4, _), (6, _), (7, _), (9, _), (13, _)]) ⟨rfl, rfl, rfl, rfl, rfl, rfl, trivial⟩ (.k (.k (.k (.k .z)))) ?_
          refine St.seq ?_
          obtain ⟨o2, hj1, h1⟩ := bnd_e h1
          refine St.cutE (fun (e3 : Unit) => [(0, .slice A1 l_p0.length c1), (4, .slice A2 s1.1.length c2), (6, .pointer (some ⟨g1, 0, none⟩)), (7, .pointer (some ⟨g2, 0, none⟩)), (9, .int .u8 o2), (13, .int .i64 s1.2)]) (fun e3 => .res (Box g2 45 (bx_T_Known r2.1)) :: .res (Box g1 60 [.int .u8 (IntKind.wrap .u8 (IntKind.wrap .i64 (16 + s1.2))), .slice none 0 0, .bool true]) :: .res (OwnC (codL l_T_Setting) 60 A2 c2 s1.1) :: .ro (SlL e_Known A1 c1 l_p0) :: R) ?_ ?_
          · refine St.seq ?_
            refine St.region ?_
            refine St.p rfl rfl ?_
            refine St.loadB 1 rfl rfl (.head _) rfl rfl ?_
            refine St.done ?_
            refine St.thenN ?_
            refine St.prune (Γ' := [(0, _), (4, _), (6, _), (7, _), (9, _), (13, _), (28, _)]) ⟨rfl, rfl, rfl, rfl, rfl, rfl, rfl, trivial⟩ (.k (.k (.k (.k .z)))) ?_
            refine St.cond _ rfl (fun hb4 => ?_) (fun hb4 => ?_)
            · replace hj1 := bif_t hb4 hj1
              refine St.region ?_
              refine St.p rfl rfl ?_
              refine St.done ?_
              injection hj1 with hj1
              subst hj1
              refine St.thenN ?_
              exact St.hereE () ⟨rfl, rfl, rfl, rfl, rfl, rfl, trivial⟩ (fun _ w => ((.k (.k (.k (.k .z)))) : Keep _ _).sat w)
            · replace hj1 := bif_f hb4 hj1
              refine St.skip ?_
              injection hj1 with hj1
              subst hj1
              refine St.thenN ?_
              exact St.hereE () ⟨rfl, rfl, rfl, rfl, rfl, rfl, trivial⟩ (fun _ w => ((.k (.k (.k (.k .z)))) : Keep _ _).sat w)
          · rintro e3
            refine St.seq ?_
            refine St.region ?_
            refine St.p rfl rfl ?_
            refine St.p rfl rfl ?_
            refine St.loadB 3 rfl rfl (.head _) rfl rfl ?_
            refine St.p rfl rfl ?_
            refine St.p rfl rfl ?_
            refine St.loadB 3 rfl rfl (.head _) rfl rfl ?_
            iterate 3 refine St.p rfl rfl ?_
            refine St.loadB 3 rfl rfl (.head _) rfl rfl ?_
            iterate 3 refine St.p rfl rfl ?_
            refine St.loadB 3 rfl rfl (.head _) rfl rfl ?_
            refine St.p rfl rfl ?_
            refine St.p rfl rfl ?_
            refine St.buildSlice rfl rfl rfl rfl rfl rfl rfl rfl fun g3 => ?_
            refine St.p rfl rfl ?_
            refine St.loadB 2 rfl rfl (.tail _ (.head _)) rfl rfl ?_
            refine St.asrt (fun _ w => (w.front .z).litL (E := eu8) (e := 5) [o2, IntKind.wrap .u8 r2.1.Sum, IntKind.wrap .u8 (iShr .u32 r2.1.Sum 8), IntKind.wrap .u8 (iShr .u32 r2.1.Sum 16), IntKind.wrap .u8 (iShr .u32 r2.1.Sum 24)] rfl rfl) ?_
            obtain ⟨l1, hl1, h1⟩ := bnd_e h1
            refine St.app (E := eu8) hl1 rfl rfl rfl .z rfl rfl rfl rfl rfl rfl rfl (by simp [bytesOf, ByteArray.toList_eq]) (srcS r2.1.Serial) rfl rfl fun A4 c4 => ?_
            refine St.p rfl rfl ?_
            refine St.store 1 rfl rfl rfl rfl rfl rfl (.s (.s .z)) rfl ?_
            refine St.done ?_
            refine St.thenN ?_
            refine St.prune (Γ' := [(0, _), (4, _), (6, _), (13, _)]) ⟨rfl, rfl, rfl, rfl, trivial⟩ (.k (.k (.d (.k (.k .z))))) ?_
            refine St.region ?_
            refine St.p rfl rfl ?_
            refine St.store 2 rfl rfl rfl rfl rfl rfl .z rfl ?_
            refine St.done ?_
            refine St.thenN ?_
            refine St.prune (Γ' := [(0, _), (4, _), (6, _), (13, _)]) ⟨rfl, rfl, rfl, rfl, trivial⟩ (.k (.k (.k (.k .z)))) ?_
            refine St.region ?_
            refine St.p rfl rfl ?_
            refine St.loadB 0 rfl rfl (.head _) rfl rfl ?_
            refine St.buildSlice rfl rfl rfl rfl rfl rfl rfl rfl fun g4 => ?_
            obtain ⟨l2, hl2, h1⟩ := bnd_e h1
            refine St.asrt (fun _ w => (w.front (.s (.s .z))).meltL) ?_
            refine St.appC (E := (codL l_T_Setting)) hl2 rfl rfl rfl (.s (.s (.s .z))) rfl rfl rfl rfl rfl rfl rfl rfl (srcBC (ls := l_T_Setting) [((⟨IntKind.wrap .u8 (IntKind.wrap .i64 (16 + s1.2)), l1, false⟩ : T_Setting), ((A4, c4), ()))] (.tail _ (.head _)) rfl rfl rfl ⟨(.head _), trivial⟩) rfl rfl fun A5 c5 => ?_
            refine St.p rfl rfl ?_
            refine St.done ?_
            refine St.blkN ?_
            refine St.thenN ?_
            refine St.prune (Γ' := [(0, _), (4, _), (13, _)]) ⟨rfl, rfl, rfl, trivial⟩ (.k (.d (.d (.d (.k .z))))) ?_
            refine St.region ?_
            refine St.p rfl rfl ?_
            refine St.p rfl rfl ?_
            refine St.done ?_
            injection h1 with h1
            subst h1
            refine St.thenN ?_
            exact St.again _ (A5, c5) hm1 trivial ⟨rfl, rfl, rfl, trivial⟩ (fun _ w => ((.k (.k .z)) : Keep _ _).sat w)
        · replace h1 := bif_f hb3 h1
          refine St.skip ?_
          refine St.thenN ?_
          refine St.prune (Γ' := [(0, _), (4, _), (6, _), (13, _)]) ⟨rfl, rfl, rfl, rfl, trivial⟩ (.d (.k (.k (.k .z)))) ?_
          refine St.region ?_
          refine St.p rfl rfl ?_
          refine St.loadB 0 rfl rfl (.head _) rfl rfl ?_
          refine St.buildSlice rfl rfl rfl rfl rfl rfl rfl rfl fun g5 => ?_
          obtain ⟨l3, hl3, h1⟩ := bnd_e h1
          refine St.asrt (fun _ w => w.nilSl (cod eu8)) ?_
          refine St.appC (E := (codL l_T_Setting)) hl3 rfl rfl rfl (.s (.s (.s .z))) rfl rfl rfl rfl rfl rfl rfl rfl (srcBC (ls := l_T_Setting) [((⟨IntKind.wrap .u8 (IntKind.wrap .i64 (16 + s1.2)), [], true⟩ : T_Setting), ((none, 0), ()))] (.tail _ (.head _)) rfl rfl rfl ⟨(.head _), trivial⟩) rfl rfl fun A6 c6 => ?_
          refine St.p rfl rfl ?_
          refine St.done ?_
          refine St.blkN ?_
          refine St.thenN ?_
          refine St.prune (Γ' := [(0, _), (4, _), (13, _)]) ⟨rfl, rfl, rfl, trivial⟩ (.k (.d (.d (.d (.k .z))))) ?_
          refine St.region ?_
          refine St.p rfl rfl ?_
          refine St.p rfl rfl ?_
          refine St.done ?_
          injection h1 with h1
          subst h1
          refine St.thenN ?_
          exact St.again _ (A6, c6) hm1 trivial ⟨rfl, rfl, rfl, trivial⟩ (fun _ w => ((.k (.k .z)) : Keep _ _).sat w)
      · replace h1 := bif_f hb2 h1
        refine St.exit ?_
        repeat (first | refine St.thenX ?_ | refine St.blkMiss rfl ?_)
        refine St.blkHit ?_
        injection h1 with h1
        subst h1
        have ho := hd1 _ rfl
        subst ho
        refine St.thenN ?_
        exact St.hereE (A2, c2) ⟨rfl, trivial⟩ (fun _ w => ((.k (.d .z)) : Keep _ _).sat w)
    · rintro ⟨A3, c3⟩
      refine St.seq ?_
      refine St.region ?_
      iterate 3 refine St.p rfl rfl ?_
      refine St.done ?_
      refine St.thenN ?_
      refine St.prune (Γ' := [(2, _), (3, _)]) ⟨rfl, rfl, trivial⟩ (.k .z) ?_
      refine St.ret ?_
      repeat (first | refine St.thenR ?_ | refine St.blkR ?_)
      injection h with h
      subst h
      exact St.finR Try.results30 (.tmp rfl (.tmp rfl .nil)) rfl [.res (OwnC (codL l_T_Setting) 60 A3 c3 o1)] ⟨A3, c3, rfl, rfl⟩ (fun _ w => ((.k .z) : Keep _ _).sat w)

theorem ent46 : Ent Try.prog 46 := ⟨_, Try.func46, by kernel_rfl, by kernel_rfl⟩

noncomputable def m_ref01_Same (a_p0 : (List Int)) (b_p1 : (List Int)) : Option Bool :=
  bif ((a_p0.length : Int) != (b_p1.length : Int)) then (some false) else (bnd (loopM (τ := Bool ⊕ Unit) (fun (s1 : Int) => bif decide (s1 < (a_p0.length : Int)) then (bnd (elt a_p0 s1) fun x1 => bnd (elt b_p1 s1) fun x2 => bif (x1 != x2) then (some (.done (.inl false))) else (some (.next (IntKind.wrap .i64 (s1 + 1))))) else (some (.done (.inr ())))) 0) fun o1 => retOr o1 fun o2 => some true)

theorem c_ref01_Same {a_p0 : (List Int)} {b_p1 : (List Int)} {A1 : Option Addr} {c1 : Nat} {A2 : Option Addr} {c2 : Nat} {r : Bool} (h : m_ref01_Same a_p0 b_p1 = some r) :
    Fun Try.prog 46 [.slice A1 a_p0.length c1, .slice A2 b_p1.length c2] [.ro (SlL eu8 A1 c1 a_p0), .ro (SlL eu8 A2 c2 b_p1)] (Val (.bool r)) := by
  unfold m_ref01_Same at h
  refine Fun.intro Try.func46 rfl rfl rfl fun w R => ?_
  refine St.seq ?_
  refine St.region ?_
  refine St.p rfl rfl ?_
  refine St.done ?_
  refine St.thenN ?_
  refine St.prune (Γ' := [(0, _), (1, _)]) ⟨rfl, rfl, trivial⟩ (.k (.k .z)) ?_
  refine St.seq ?_
  refine St.seq ?_
  refine St.region ?_
  iterate 5 refine St.p rfl rfl ?_
  refine St.done ?_
  refine St.thenN ?_
  refine St.prune (Γ' := [(0, _), (1, _), (10, _)]) ⟨rfl, rfl, rfl, trivial⟩ (.k (.k .z)) ?_
  refine St.cond _ rfl (fun hb1 => ?_) (fun hb1 => ?_)
  · replace h := bif_t hb1 h
    refine St.seq ?_
    refine St.region ?_
    refine St.p rfl rfl ?_
    refine St.done ?_
    refine St.thenN ?_
    refine St.prune (Γ' := [(4, _)]) ⟨rfl, trivial⟩ (.d (.d .z)) ?_
    refine St.ret ?_
    repeat (first | refine St.thenR ?_ | refine St.blkR ?_)
    injection h with h
    subst h
    exact St.finR Try.results46 (.tmp rfl .nil) rfl [] ⟨rfl, rfl⟩ (fun _ w => (.z : Keep _ _).sat w)
  · replace h := bif_f hb1 h
    refine St.skip ?_
    refine St.thenN ?_
    refine St.prune (Γ' := [(0, _), (1, _)]) ⟨rfl, rfl, trivial⟩ (.k (.k .z)) ?_
    refine St.seq ?_
    refine St.seq ?_
    refine St.region ?_
    refine St.p rfl rfl ?_
    refine St.done ?_
    refine St.thenN ?_
    obtain ⟨o1, hl1, h⟩ := bnd_e h
    refine St.cutI (fun (o2 : Unit) (e2 : Unit) => []) (fun o2 e2 => R) (fun o2 => o1 = .inr o2) ?_ ?_
    · refine St.block ?_
      refine St.loop hl1 (fun (s1 : Int) (e1 : Unit) => [(0, .slice A1 a_p0.length c1), (1, .slice A2 b_p1.length c2), (5, .int .i64 s1)]) (fun s1 e1 => .ro (SlL eu8 A1 c1 a_p0) :: .ro (SlL eu8 A2 c2 b_p1) :: R) (fun _ _ => True) () trivial ⟨rfl, rfl, rfl, trivial⟩ (fun _ w => ((.k (.k .z)) : Keep _ _).sat w) ?_
      rintro s1 e1 - hit1
      obtain ⟨st1, hm1, hd1⟩ := iter_e hit1
      have h1 := hm1
      refine St.seq ?_
      refine St.seq ?_
      refine St.region ?_
      iterate 4 refine St.p rfl rfl ?_
      refine St.done ?_
      refine St.thenN ?_
      refine St.prune (Γ' := [(0, _), (1, _), (5, _), (14, _)]) ⟨rfl, rfl, rfl, rfl, trivial⟩ (.k (.k .z)) ?_
      refine St.cond _ rfl (fun hb2 => ?_) (fun hb2 => ?_)
      · replace h1 := bif_t hb2 h1
        refine St.skip ?_
        refine St.thenN ?_
        refine St.prune (Γ' := [(0, _), (1, _), (5, _)]) ⟨rfl, rfl, rfl, trivial⟩ (.k (.k .z)) ?_
        refine St.seq ?_
        refine St.block ?_
        refine St.seq ?_
        refine St.regionF mixed (by kernel_rfl) ?_
        refine St.p rfl rfl ?_
        refine St.p rfl rfl ?_
        obtain ⟨x1, hx1, h1⟩ := bnd_e h1
        refine St.ixL hx1 rfl rfl rfl (.head _) rfl rfl rfl rfl rfl fun b1 ob1 => ?_
        refine St.load ob1 0 rfl rfl (.head _) rfl rfl ?_
        refine St.p rfl rfl ?_
        refine St.p rfl rfl ?_
        obtain ⟨x2, hx2, h1⟩ := bnd_e h1
        refine St.ixL hx2 rfl rfl rfl (.tail _ (.tail _ (.head _))) rfl rfl rfl rfl rfl fun b2 ob2 => ?_
        refine St.load ob2 0 rfl rfl (.head _) rfl rfl ?_
        refine St.p rfl rfl ?_
        refine St.doneQ ?_
        refine St.thenN ?_
        refine St.prune (Γ' := [(0, _), (1, _), (5, _), (25, _)]) ⟨rfl, rfl, rfl, rfl, trivial⟩ (.d (.d (.k (.k .z)))) ?_
        refine St.cond _ rfl (fun hb3 => ?_) (fun hb3 => ?_)
        · replace h1 := bif_t hb3 h1
          refine St.seq ?_
          refine St.region ?_
          refine St.p rfl rfl ?_
          refine St.done ?_
          refine St.thenN ?_
          refine St.prune (Γ' := [(4, _)]) ⟨rfl, trivial⟩ (.d (.d .z)) ?_
          refine St.ret ?_
          repeat (first | refine St.thenR ?_ | refine St.blkR ?_)
          injection h1 with h1
          subst h1
          have ho := hd1 _ rfl
          subst ho
          have h : some _ = some _ := h
          injection h with h
          subst h
          exact St.finR Try.results46 (.tmp rfl .nil) rfl [] ⟨rfl, rfl⟩ (fun _ w => (.z : Keep _ _).sat w)
        · replace h1 := bif_f hb3 h1
          refine St.skip ?_
          refine St.blkN ?_
          refine St.thenN ?_
          refine St.prune (Γ' := [(0, _), (1, _), (5, _)]) ⟨rfl, rfl, rfl, trivial⟩ (.k (.k .z)) ?_
          refine St.region ?_
          iterate 3 refine St.p rfl rfl ?_
          refine St.done ?_
          injection h1 with h1
          subst h1
          refine St.thenN ?_
          exact St.again _ () hm1 trivial ⟨rfl, rfl, rfl, trivial⟩ (fun _ w => ((.k (.k .z)) : Keep _ _).sat w)
      · replace h1 := bif_f hb2 h1
        refine St.exit ?_
        repeat (first | refine St.thenX ?_ | refine St.blkMiss rfl ?_)
        refine St.blkHit ?_
        injection h1 with h1
        subst h1
        have ho := hd1 _ rfl
        subst ho
        refine St.thenN ?_
        exact St.hereI () () rfl trivial (fun _ w => ((.d (.d .z)) : Keep _ _).sat w)
    · rintro o2 e2 ho
      subst ho
      have h := unR h
      refine St.seq ?_
      refine St.region ?_
      refine St.p rfl rfl ?_
      refine St.done ?_
      refine St.thenN ?_
      refine St.ret ?_
      repeat (first | refine St.thenR ?_ | refine St.blkR ?_)
      injection h with h
      subst h
      exact St.finR Try.results46 (.tmp rfl .nil) rfl [] ⟨rfl, rfl⟩ (fun _ w => (.z : Keep _ _).sat w)

theorem ent31 : Ent Try.prog 31 := ⟨_, Try.func31, by kernel_rfl, by kernel_rfl⟩

noncomputable def m_ref06_Same (a_p0 : (List T_Setting)) (b_p1 : (List T_Setting)) : Option Bool :=
  bif ((a_p0.length : Int) != (b_p1.length : Int)) then (some false) else (bnd (loopM (τ := Bool ⊕ Unit) (fun (s1 : Int) => bif decide (s1 < (a_p0.length : Int)) then (bnd ((bnd (elt a_p0 s1) fun x1 => bnd (elt b_p1 s1) fun x2 => bif (x1.Key != x2.Key) then (some true) else (bif !(x1.Delete == x2.Delete) then (some true) else (bnd (m_ref01_Same x1.Value x2.Value) fun r1 => some (!r1))) : Option Bool)) fun o3 => bif o3 then (some (.done (.inl false))) else (some (.next (IntKind.wrap .i64 (s1 + 1))))) else (some (.done (.inr ())))) 0) fun o1 => retOr o1 fun o2 => some true)

theorem c_ref06_Same {a_p0 : (List T_Setting)} {b_p1 : (List T_Setting)} {A1 : Option Addr} {c1 : Nat} {A2 : Option Addr} {c2 : Nat} {r : Bool} (h : m_ref06_Same a_p0 b_p1 = some r) :
    Fun Try.prog 31 [.slice A1 a_p0.length c1, .slice A2 b_p1.length c2] [.ro (Sl (codL l_T_Setting) A1 c1 a_p0), .ro (Sl (codL l_T_Setting) A2 c2 b_p1)] (Val (.bool r)) := by
  unfold m_ref06_Same at h
  refine Fun.intro Try.func31 rfl rfl rfl fun w R => ?_
  refine St.seq ?_
  refine St.region ?_
  refine St.p rfl rfl ?_
  refine St.done ?_
  refine St.thenN ?_
  refine St.prune (Γ' := [(0, _), (1, _)]) ⟨rfl, rfl, trivial⟩ (.k (.k .z)) ?_
  refine St.seq ?_
  refine St.seq ?_
  refine St.region ?_
  iterate 5 refine St.p rfl rfl ?_
  refine St.done ?_
  refine St.thenN ?_
  refine St.prune (Γ' := [(0, _), (1, _), (10, _)]) ⟨rfl, rfl, rfl, trivial⟩ (.k (.k .z)) ?_
  refine St.cond _ rfl (fun hb1 => ?_) (fun hb1 => ?_)
  · replace h := bif_t hb1 h
    refine St.seq ?_
    refine St.region ?_
    refine St.p rfl rfl ?_
    refine St.done ?_
    refine St.thenN ?_
    refine St.prune (Γ' := [(4, _)]) ⟨rfl, trivial⟩ (.d (.d .z)) ?_
    refine St.ret ?_
    repeat (first | refine St.thenR ?_ | refine St.blkR ?_)
    injection h with h
    subst h
    exact St.finR Try.results31 (.tmp rfl .nil) rfl [] ⟨rfl, rfl⟩ (fun _ w => (.z : Keep _ _).sat w)
  · replace h := bif_f hb1 h
    refine St.skip ?_
    refine St.thenN ?_
    refine St.prune (Γ' := [(0, _), (1, _)]) ⟨rfl, rfl, trivial⟩ (.k (.k .z)) ?_
    refine St.seq ?_
    refine St.seq ?_
    refine St.region ?_
    refine St.p rfl rfl ?_
    refine St.done ?_
    refine St.thenN ?_
    obtain ⟨o1, hl1, h⟩ := bnd_e h
    refine St.cutI (fun (o2 : Unit) (e2 : Unit) => []) (fun o2 e2 => R) (fun o2 => o1 = .inr o2) ?_ ?_
    · refine St.block ?_
      refine St.loop hl1 (fun (s1 : Int) (e1 : Unit) => [(0, .slice A1 a_p0.length c1), (1, .slice A2 b_p1.length c2), (5, .int .i64 s1)]) (fun s1 e1 => .ro (Sl (codL l_T_Setting) A1 c1 a_p0) :: .ro (Sl (codL l_T_Setting) A2 c2 b_p1) :: R) (fun _ _ => True) () trivial ⟨rfl, rfl, rfl, trivial⟩ (fun _ w => ((.k (.k .z)) : Keep _ _).sat w) ?_
      rintro s1 e1 - hit1
      obtain ⟨st1, hm1, hd1⟩ := iter_e hit1
      have h1 := hm1
      refine St.seq ?_
      refine St.seq ?_
      refine St.region ?_
      iterate 4 refine St.p rfl rfl ?_
      refine St.done ?_
      refine St.thenN ?_
      refine St.prune (Γ' := [(0, _), (1, _), (5, _), (14, _)]) ⟨rfl, rfl, rfl, rfl, trivial⟩ (.k (.k .z)) ?_
      refine St.cond _ rfl (fun hb2 => ?_) (fun hb2 => ?_)
      · replace h1 := bif_t hb2 h1
        refine St.skip ?_
        refine St.thenN ?_
        refine St.prune (Γ' := [(0, _), (1, _), (5, _)]) ⟨rfl, rfl, rfl, trivial⟩ (.k (.k .z)) ?_
        refine St.seq ?_
        refine St.block ?_
        refine St.seq ?_
        obtain ⟨o3, hj1, h1⟩ := bnd_e h1
        refine St.cutE (fun (e3 : Unit) => [(0, .slice A1 a_p0.length c1), (1, .slice A2 b_p1.length c2), (5, .int .i64 s1), (54, .bool o3)]) (fun e3 => .ro (Sl (codL l_T_Setting) A1 c1 a_p0) :: .ro (Sl (codL l_T_Setting) A2 c2 b_p1) :: R) ?_ ?_
        · refine St.regionF mixed (by kernel_rfl) ?_
          refine St.p rfl rfl ?_
          refine St.p rfl rfl ?_
          obtain ⟨x1, hx1, hj1⟩ := bnd_e hj1
          refine St.ixN hx1 rfl rfl rfl (.head _) rfl rfl rfl rfl rfl fun b1 ob1 ex1 => ?_
          obtain ⟨⟨A3, c3⟩, _⟩ := ex1
          refine St.asrt (F' := .ro (Cells b1 ob1 [.int .u8 x1.Key, .slice A3 x1.Value.length c3, .bool x1.Delete]) :: .ro (SlL eu8 A3 c3 x1.Value) :: .ro (Sl (codL l_T_Setting) A1 c1 a_p0) :: .ro (Sl (codL l_T_Setting) A2 c2 b_p1) :: R) (fun _ w => w) ?_
          refine St.p rfl rfl ?_
          refine St.load ob1 0 rfl rfl (.head _) rfl rfl ?_
          refine St.p rfl rfl ?_
          refine St.p rfl rfl ?_
          obtain ⟨x2, hx2, hj1⟩ := bnd_e hj1
          refine St.ixN hx2 rfl rfl rfl (.tail _ (.tail _ (.tail _ (.head _)))) rfl rfl rfl rfl rfl fun b2 ob2 ex2 => ?_
          obtain ⟨⟨A4, c4⟩, _⟩ := ex2
          refine St.asrt (F' := .ro (Cells b2 ob2 [.int .u8 x2.Key, .slice A4 x2.Value.length c4, .bool x2.Delete]) :: .ro (SlL eu8 A4 c4 x2.Value) :: .ro (Cells b1 ob1 [.int .u8 x1.Key, .slice A3 x1.Value.length c3, .bool x1.Delete]) :: .ro (SlL eu8 A3 c3 x1.Value) :: .ro (Sl (codL l_T_Setting) A1 c1 a_p0) :: .ro (Sl (codL l_T_Setting) A2 c2 b_p1) :: R) (fun _ w => w) ?_
          refine St.p rfl rfl ?_
          refine St.load ob2 0 rfl rfl (.head _) rfl rfl ?_
          refine St.p rfl rfl ?_
          refine St.p rfl rfl ?_
          refine St.gSplit (dj := 28) _ rfl (fun hb3 => ?_) (fun hb3 => ?_)
          · replace hj1 := bif_t hb3 hj1
            refine St.gOff (dj := 28) rfl rfl rfl rfl ?_
            refine St.gOff (dj := 28) rfl rfl rfl rfl ?_
            refine St.gOff (dj := 28) rfl rfl rfl rfl ?_
            refine St.gOff (dj := 28) rfl rfl rfl rfl ?_
            refine St.gOff (dj := 28) rfl rfl rfl rfl ?_
            refine St.gOff (dj := 28) rfl rfl rfl rfl ?_
            refine St.gOff (dj := 28) rfl rfl rfl rfl ?_
            refine St.gOff (dj := 28) rfl rfl rfl rfl ?_
            refine St.gOff (dj := 28) rfl rfl rfl rfl ?_
            refine St.gOff (dj := 28) rfl rfl rfl rfl ?_
            refine St.gOff (dj := 28) rfl rfl rfl rfl ?_
            refine St.p rfl rfl ?_
            refine St.p rfl rfl ?_
            refine St.gOff (dj := 41) rfl rfl rfl rfl ?_
            refine St.gOff (dj := 41) rfl rfl rfl rfl ?_
            refine St.gOff (dj := 41) rfl rfl rfl rfl ?_
            refine St.gOff (dj := 41) rfl rfl rfl rfl ?_
            refine St.gOff (dj := 41) rfl rfl rfl rfl ?_
            refine St.gOff (dj := 41) rfl rfl rfl rfl ?_
            refine St.gOff (dj := 41) rfl rfl rfl rfl ?_
            refine St.gOff (dj := 41) rfl rfl rfl rfl ?_
            refine St.gOff (dj := 41) rfl rfl rfl rfl ?_
            refine St.gOff (dj := 41) rfl rfl rfl rfl ?_
            refine St.gOff (dj := 41) rfl rfl rfl rfl ?_
            refine St.gOff (dj := 41) rfl rfl rfl rfl ?_
            refine St.p rfl rfl ?_
            refine St.doneQ ?_
            injection hj1 with hj1
            subst hj1
            refine St.thenN ?_
            exact St.hereE () ⟨rfl, rfl, rfl, rfl, trivial⟩ (fun _ w => ((.d (.d (.d (.d (.k (.k .z)))))) : Keep _ _).sat w)
          · replace hj1 := bif_f hb3 hj1
            refine St.gOn (dj := 28) rfl rfl ?_
            refine St.p rfl rfl ?_
            refine St.gOn (dj := 28) rfl rfl ?_
            refine St.p rfl rfl ?_
            refine St.gOn (dj := 28) rfl rfl ?_
            refine St.ixN hx1 rfl rfl rfl (.tail _ (.tail _ (.tail _ (.tail _ (.head _))))) rfl rfl rfl rfl rfl fun b3 ob3 ex3 => ?_
            obtain ⟨⟨A5, c5⟩, _⟩ := ex3
            refine St.asrt (F' := .ro (Cells b3 ob3 [.int .u8 x1.Key, .slice A5 x1.Value.length c5, .bool x1.Delete]) :: .ro (SlL eu8 A5 c5 x1.Value) :: .ro (Cells b2 ob2 [.int .u8 x2.Key, .slice A4 x2.Value.length c4, .bool x2.Delete]) :: .ro (SlL eu8 A4 c4 x2.Value) :: .ro (Cells b1 ob1 [.int .u8 x1.Key, .slice A3 x1.Value.length c3, .bool x1.Delete]) :: .ro (SlL eu8 A3 c3 x1.Value) :: .ro (Sl (codL l_T_Setting) A1 c1 a_p0) :: .ro (Sl (codL l_T_Setting) A2 c2 b_p1) :: R) (fun _ w => w) ?_
            refine St.gOn (dj := 28) rfl rfl ?_
            refine St.p rfl rfl ?_
            refine St.gOn (dj := 28) rfl rfl ?_
            refine St.load ob3 2 rfl rfl (.head _) rfl rfl ?_
            refine St.gOn (dj := 28) rfl rfl ?_
            refine St.p rfl rfl ?_
            refine St.gOn (dj := 28) rfl rfl ?_
            refine St.p rfl rfl ?_
            refine St.gOn (dj := 28) rfl rfl ?_
            refine St.ixN hx2 rfl rfl rfl (.tail _ (.tail _ (.tail _ (.tail _ (.tail _ (.tail _ (.tail _ (.head _)))))))) rfl rfl rfl rfl rfl fun b4 ob4 ex4 => ?_
            obtain ⟨⟨A6, c6⟩, _⟩ := ex4
            refine St.asrt (F' := .ro (Cells b4 ob4 [.int .u8 x2.Key, .slice A6 x2.Value.length c6, .bool x2.Delete]) :: .ro (SlL eu8 A6 c6 x2.Value) :: .ro (Cells b3 ob3 [.int .u8 x1.Key, .slice A5 x1.Value.length c5, .bool x1.Delete]) :: .ro (SlL eu8 A5 c5 x1.Value) :: .ro (Cells b2 ob2 [.int .u8 x2.Key, .slice A4 x2.Value.length c4, .bool x2.Delete]) :: .ro (SlL eu8 A4 c4 x2.Value) :: .ro (Cells b1 ob1 [.int .u8 x1.Key, .slice A3 x1.Value.length c3, .bool x1.Delete]) :: .ro (SlL eu8 A3 c3 x1.Value) :: .ro (Sl (codL l_T_Setting) A1 c1 a_p0) :: .ro (Sl (codL l_T_Setting) A2 c2 b_p1) :: R) (fun _ w => w) ?_
            refine St.gOn (dj := 28) rfl rfl ?_
            refine St.p rfl rfl ?_
            refine St.gOn (dj := 28) rfl rfl ?_
            refine St.load ob4 2 rfl rfl (.head _) rfl rfl ?_
            refine St.gOn (dj := 28) rfl rfl ?_
            iterate 3 refine St.p rfl rfl ?_
            refine St.gSplit (dj := 41) _ rfl (fun hb4 => ?_) (fun hb4 => ?_)
            · replace hj1 := bif_t hb4 hj1
              refine St.gOff (dj := 41) rfl rfl rfl rfl ?_
              refine St.gOff (dj := 41) rfl rfl rfl rfl ?_
              refine St.gOff (dj := 41) rfl rfl rfl rfl ?_
              refine St.gOff (dj := 41) rfl rfl rfl rfl ?_
              refine St.gOff (dj := 41) rfl rfl rfl rfl ?_
              refine St.gOff (dj := 41) rfl rfl rfl rfl ?_
              refine St.gOff (dj := 41) rfl rfl rfl rfl ?_
              refine St.gOff (dj := 41) rfl rfl rfl rfl ?_
              refine St.gOff (dj := 41) rfl rfl rfl rfl ?_
              refine St.gOff (dj := 41) rfl rfl rfl rfl ?_
              refine St.gOff (dj := 41) rfl rfl rfl rfl ?_
              refine St.gOff (dj := 41) rfl rfl rfl rfl ?_
              refine St.p rfl rfl ?_
              refine St.doneQ ?_
              injection hj1 with hj1
              subst hj1
              refine St.thenN ?_
              exact St.hereE () ⟨rfl, rfl, rfl, rfl, trivial⟩ (fun _ w => ((.d (.d (.d (.d (.d (.d (.d (.d (.k (.k .z)))))))))) : Keep _ _).sat w)
            · replace hj1 := bif_f hb4 hj1
              refine St.gOn (dj := 41) rfl rfl ?_
              refine St.p rfl rfl ?_
              refine St.gOn (dj := 41) rfl rfl ?_
              refine St.p rfl rfl ?_
              refine St.gOn (dj := 41) rfl rfl ?_
              refine St.ixN hx1 rfl rfl rfl (.tail _ (.tail _ (.tail _ (.tail _ (.tail _ (.tail _ (.tail _ (.tail _ (.head _))))))))) rfl rfl rfl rfl rfl fun b5 ob5 ex5 => ?_
              obtain ⟨⟨A7, c7⟩, _⟩ := ex5
              refine St.asrt (F' := .ro (Cells b5 ob5 [.int .u8 x1.Key, .slice A7 x1.Value.length c7, .bool x1.Delete]) :: .ro (SlL eu8 A7 c7 x1.Value) :: .ro (Cells b4 ob4 [.int .u8 x2.Key, .slice A6 x2.Value.length c6, .bool x2.Delete]) :: .ro (SlL eu8 A6 c6 x2.Value) :: .ro (Cells b3 ob3 [.int .u8 x1.Key, .slice A5 x1.Value.length c5, .bool x1.Delete]) :: .ro (SlL eu8 A5 c5 x1.Value) :: .ro (Cells b2 ob2 [.int .u8 x2.Key, .slice A4 x2.Value.length c4, .bool x2.Delete]) :: .ro (SlL eu8 A4 c4 x2.Value) :: .ro (Cells b1 ob1 [.int .u8 x1.Key, .slice A3 x1.Value.length c3, .bool x1.Delete]) :: .ro (SlL eu8 A3 c3 x1.Value) :: .ro (Sl (codL l_T_Setting) A1 c1 a_p0) :: .ro (Sl (codL l_T_Setting) A2 c2 b_p1) :: R) (fun _ w => w) ?_
              refine St.gOn (dj := 41) rfl rfl ?_
              refine St.p rfl rfl ?_
              refine St.gOn (dj := 41) rfl rfl ?_
              refine St.load ob5 1 rfl rfl (.head _) rfl rfl ?_
              refine St.gOn (dj := 41) rfl rfl ?_
              refine St.p rfl rfl ?_
              refine St.gOn (dj := 41) rfl rfl ?_
              refine St.p rfl rfl ?_
              refine St.gOn (dj := 41) rfl rfl ?_
              refine St.ixN hx2 rfl rfl rfl (.tail _ (.tail _ (.tail _ (.tail _ (.tail _ (.tail _ (.tail _ (.tail _ (.tail _ (.tail _ (.tail _ (.head _)))))))))))) rfl rfl rfl rfl rfl fun b6 ob6 ex6 => ?_
              obtain ⟨⟨A8, c8⟩, _⟩ := ex6
              refine St.asrt (F' := .ro (Cells b6 ob6 [.int .u8 x2.Key, .slice A8 x2.Value.length c8, .bool x2.Delete]) :: .ro (SlL eu8 A8 c8 x2.Value) :: .ro (Cells b5 ob5 [.int .u8 x1.Key, .slice A7 x1.Value.length c7, .bool x1.Delete]) :: .ro (SlL eu8 A7 c7 x1.Value) :: .ro (Cells b4 ob4 [.int .u8 x2.Key, .slice A6 x2.Value.length c6, .bool x2.Delete]) :: .ro (SlL eu8 A6 c6 x2.Value) :: .ro (Cells b3 ob3 [.int .u8 x1.Key, .slice A5 x1.Value.length c5, .bool x1.Delete]) :: .ro (SlL eu8 A5 c5 x1.Value) :: .ro (Cells b2 ob2 [.int .u8 x2.Key, .slice A4 x2.Value.length c4, .bool x2.Delete]) :: .ro (SlL eu8 A4 c4 x2.Value) :: .ro (Cells b1 ob1 [.int .u8 x1.Key, .slice A3 x1.Value.length c3, .bool x1.Delete]) :: .ro (SlL eu8 A3 c3 x1.Value) :: .ro (Sl (codL l_T_Setting) A1 c1 a_p0) :: .ro (Sl (codL l_T_Setting) A2 c2 b_p1) :: R) (fun _ w => w) ?_
              refine St.gOn (dj := 41) rfl rfl ?_
              refine St.p rfl rfl ?_
              refine St.gOn (dj := 41) rfl rfl ?_
              refine St.load ob6 1 rfl rfl (.head _) rfl rfl ?_
              refine St.gOn (dj := 41) rfl rfl ?_
              obtain ⟨r1, hr1, hj1⟩ := bnd_e hj1
              refine St.callV (c_ref01_Same hr1) ent46 rfl rfl rfl rfl ⟨(.tail _ (.tail _ (.tail _ (.head _)))), (.tail _ (.head _)), trivial⟩ ?_
              refine St.gOn (dj := 41) rfl rfl ?_
              refine St.p rfl rfl ?_
              refine St.p rfl rfl ?_
              refine St.doneQ ?_
              injection hj1 with hj1
              subst hj1
              refine St.thenN ?_
              exact St.hereE () ⟨rfl, rfl, rfl, rfl, trivial⟩ (fun _ w => ((.d (.d (.d (.d (.d (.d (.d (.d (.d (.d (.d (.d (.k (.k .z)))))))))))))) : Keep _ _).sat w)
        · rintro e3
          refine St.cond _ rfl (fun hb5 => ?_) (fun hb5 => ?_)
          · replace h1 := bif_t hb5 h1
            refine St.seq ?_
            refine St.region ?_
            refine St.p rfl rfl ?_
            refine St.done ?_
            refine St.thenN ?_
            refine St.prune (Γ' := [(4, _)]) ⟨rfl, trivial⟩ (.d (.d .z)) ?_
            refine St.ret ?_
            repeat (first | refine St.thenR ?_ | refine St.blkR ?_)
            injection h1 with h1
            subst h1
            have ho := hd1 _ rfl
            subst ho
            have h : some _ = some _ := h
            injection h with h
            subst h
            exact St.finR Try.results31 (.tmp rfl .nil) rfl [] ⟨rfl, rfl⟩ (fun _ w => (.z : Keep _ _).sat w)
          · replace h1 := bif_f hb5 h1
            refine St.skip ?_
            refine St.blkN ?_
            refine St.thenN ?_
            refine St.prune (Γ' := [(0, _), (1, _), (5, _)]) ⟨rfl, rfl, rfl, trivial⟩ (.k (.k .z)) ?_
            refine St.region ?_
            iterate 3 refine St.p rfl rfl ?_
            refine St.done ?_
            injection h1 with h1
            subst h1
            refine St.thenN ?_
            exact St.again _ () hm1 trivial ⟨rfl, rfl, rfl, trivial⟩ (fun _ w => ((.k (.k .z)) : Keep _ _).sat w)
      · replace h1 := bif_f hb2 h1
        refine St.exit ?_
        repeat (first | refine St.thenX ?_ | refine St.blkMiss rfl ?_)
        refine St.blkHit ?_
        injection h1 with h1
        subst h1
        have ho := hd1 _ rfl
        subst ho
        refine St.thenN ?_
        exact St.hereI () () rfl trivial (fun _ w => ((.d (.d .z)) : Keep _ _).sat w)
    · rintro o2 e2 ho
      subst ho
      have h := unR h
      refine St.seq ?_
      refine St.region ?_
      refine St.p rfl rfl ?_
      refine St.done ?_
      refine St.thenN ?_
      refine St.ret ?_
      repeat (first | refine St.thenR ?_ | refine St.blkR ?_)
      injection h with h
      subst h
      exact St.finR Try.results31 (.tmp rfl .nil) rfl [] ⟨rfl, rfl⟩ (fun _ w => (.z : Keep _ _).sat w)

theorem ent32 : Ent Try.prog 32 := ⟨_, Try.func32, by kernel_rfl, by kernel_rfl⟩

noncomputable def m_inventory_Load (l_p0 : (List T_Setting)) : Option ((List T_Known) × Int) :=
  bnd (loopM (τ := ((List T_Known) × Int) ⊕ List T_Known) (fun (s1 : List T_Known × Int) => bif decide (s1.2 < (l_p0.length : Int)) then (bnd (elt l_p0 s1.2) fun x1 => bnd ((bif x1.Delete then (some true) else (bnd (m_inventory_slotted (IntKind.wrap .i64 ((IntKind.wrap .i64 x1.Key) - 16))) fun r1 => some (!r1)) : Option Bool)) fun o3 => bif o3 then (some (.next (s1.1, IntKind.wrap .i64 (s1.2 + 1)))) else (bnd ((bif decide ((s1.1.length : Int) > 0) then (bnd (elt s1.1 (IntKind.wrap .i64 ((s1.1.length : Int) - 1))) fun x2 => some (s1.1, decide ((IntKind.wrap .i64 ((IntKind.wrap .i64 x1.Key) - 16)) ≤ x2.Slot))) else (some (s1.1, false)) : Option (List T_Known × Bool))) fun o4 => bif o4.2 then (some (.done (.inl ([], 1)))) else (bnd ((bif decide ((x1.Value.length : Int) < 5) then (some true) else (bif decide ((x1.Value.length : Int) > 28) then (some true) else (bnd (elt x1.Value 0) fun x3 => bif decide (x3 > 1) then (some true) else (bif (x3 == 0) then (some (decide ((x1.Value.length : Int) > 5))) else (some false)))) : Option Bool)) fun o5 => bif o5 then (some (.done (.inl ([], 6)))) else (bnd (elt x1.Value 1) fun x4 => bnd (elt x1.Value 2) fun x5 => bnd (elt x1.Value 3) fun x6 => bnd (elt x1.Value 4) fun x7 => bnd (elt x1.Value 0) fun x8 => bnd (sub x1.Value 5 (x1.Value.length : Int)) fun l1 => bnd (app 40 o4.1 [(⟨IntKind.wrap .i64 ((IntKind.wrap .i64 x1.Key) - 16), (x8 == 1), strOf l1, iOr .u32 (iOr .u32 (iOr .u32 (IntKind.wrap .u32 x4) (iShl .u32 (IntKind.wrap .u32 x5) 8)) (iShl .u32 (IntKind.wrap .u32 x6) 16)) (iShl .u32 (IntKind.wrap .u32 x7) 24)⟩ : T_Known)]) fun l2 => some (.next (l2, IntKind.wrap .i64 (s1.2 + 1))))))) else (some (.done (.inr s1.1)))) ([], 0)) fun o1 => retOr o1 fun o2 => some (o2, 0)

set_option maxHeartbeats 4000000 in
theorem c_inventory_Load {l_p0 : (List T_Setting)} {A1 : Option Addr} {c1 : Nat} {r : ((List T_Known) × Int)} (h : m_inventory_Load l_p0 = some r) :
    Fun Try.prog 32 [.slice A1 l_p0.length c1] [.ro (Sl (codL l_T_Setting) A1 c1 l_p0)] (fun v_ F_ => ∃ (A1 : Option Addr) (c1 : Nat), v_ = .tuple #[.slice A1 r.1.length c1, .int .i64 r.2] ∧ F_ = [.res (OwnL e_Known 45 A1 c1 r.1)]) := by
  unfold m_inventory_Load at h
  refine Fun.intro Try.func32 rfl rfl rfl fun w R => ?_
  refine St.seq ?_
  refine St.region ?_
  refine St.p rfl rfl ?_
  refine St.p rfl rfl ?_
  refine St.done ?_
  refine St.thenN ?_
  refine St.prune (Γ' := [(0, _)]) ⟨rfl, trivial⟩ (.k .z) ?_
  refine St.seq ?_
  refine St.region ?_
  refine St.p rfl rfl ?_
  refine St.done ?_
  refine St.thenN ?_
  refine St.seq ?_
  refine St.seq ?_
  refine St.region ?_
  iterate 3 refine St.p rfl rfl ?_
  refine St.done ?_
  refine St.thenN ?_
  refine St.prune (Γ' := [(4, _), (10, _), (11, _), (12, _)]) ⟨rfl, rfl, rfl, rfl, trivial⟩ (.k .z) ?_
  refine St.asrt (fun _ w => w.nilL e_Known 45) ?_
  obtain ⟨o1, hl1, h⟩ := bnd_e h
  refine St.cutI (fun (o2 : List T_Known) (e2 : Option Addr × Nat) => [(4, .slice e2.1 o2.length e2.2)]) (fun o2 e2 => .res (OwnL e_Known 45 e2.1 e2.2 o2) :: R) (fun o2 => o1 = .inr o2) ?_ ?_
  · refine St.block ?_
    refine St.loop hl1 (fun (s1 : List T_Known × Int) (e1 : Option Addr × Nat) => [(4, .slice e1.1 s1.1.length e1.2), (10, .slice A1 l_p0.length c1), (11, .int .i64 (l_p0.length : Int)), (12, .int .i64 s1.2)]) (fun s1 e1 => .res (OwnL e_Known 45 e1.1 e1.2 s1.1) :: .ro (Sl (codL l_T_Setting) A1 c1 l_p0) :: R) (fun _ _ => True) (none, 0) trivial ⟨rfl, rfl, rfl, rfl, trivial⟩ (fun _ w => ((.k (.k .z)) : Keep _ _).sat w) ?_
    rintro s1 ⟨A2, c2⟩ - hit1
    obtain ⟨st1, hm1, hd1⟩ := iter_e hit1
    have h1 := hm1
    refine St.seq ?_
    refine St.region ?_
    refine St.p rfl rfl ?_
    refine St.done ?_
    refine St.thenN ?_
    refine St.seq ?_
    refine St.cond _ rfl (fun hb1 => ?_) (fun hb1 => ?_)
    · replace h1 := bif_t hb1 h1
      refine St.skip ?_
      refine St.thenN ?_
      refine St.prune (Γ' := [(4, _), (10, _), (11, _), (12, _)]) ⟨rfl, rfl, rfl, rfl, trivial⟩ (.k (.k .z)) ?_
      refine St.seq ?_
      refine St.block ?_
      refine St.seq ?_
      refine St.region ?_
      obtain ⟨x1, hx1, h1⟩ := bnd_e h1
      refine St.ixN hx1 rfl rfl rfl (.tail _ (.head _)) rfl rfl rfl rfl rfl fun b1 ob1 ex1 => ?_
      obtain ⟨⟨A4, c4⟩, _⟩ := ex1
      refine St.asrt (F' := .ro (Cells b1 ob1 [.int .u8 x1.Key, .slice A4 x1.Value.length c4, .bool x1.Delete]) :: .ro (SlL eu8 A4 c4 x1.Value) :: .res (OwnL e_Known 45 A2 c2 s1.1) :: .ro (Sl (codL l_T_Setting) A1 c1 l_p0) :: R) (fun _ w => w) ?_
      refine St.load ob1 0 rfl rfl (.head _) rfl rfl ?_
      refine St.alloc rfl rfl fun g1 => ?_
      refine St.store 0 rfl rfl rfl rfl rfl rfl .z rfl ?_
      refine St.done ?_
      refine St.thenN ?_
      refine St.prune (Γ' := [(4, _), (6, _), (10, _), (11, _), (12, _)]) ⟨rfl, rfl, rfl, rfl, rfl, trivial⟩ (.k (.d (.k (.k (.k .z))))) ?_
      refine St.seq ?_
      refine St.region ?_
      refine St.p rfl rfl ?_
      refine St.loadB 0 rfl rfl (.head _) rfl rfl ?_
      iterate 3 refine St.p rfl rfl ?_
      refine St.done ?_
      refine St.thenN ?_
      refine St.prune (Γ' := [(4, _), (6, _), (7, _), (10, _), (11, _), (12, _)]) ⟨rfl, rfl, rfl, rfl, rfl, rfl, trivial⟩ (.k (.k (.k (.k .z)))) ?_
      refine St.seq ?_
      refine St.seq ?_
      obtain ⟨o3, hj1, h1⟩ := bnd_e h1
      refine St.cutE (fun (e3 : Unit) => [(4, .slice A2 s1.1.length c2), (6, .pointer (some ⟨g1, 0, none⟩)), (7, .int .i64 (IntKind.wrap .i64 ((IntKind.wrap .i64 x1.Key) - 16))), (10, .slice A1 l_p0.length c1), (11, .int .i64 (l_p0.length : Int)), (12, .int .i64 s1.2), (26, .bool o3)]) (fun e3 => .res (Box g1 60 [.int .u8 x1.Key, .slice A4 x1.Value.length c4, .bool x1.Delete]) :: .ro (SlL eu8 A4 c4 x1.Value) :: .res (OwnL e_Known 45 A2 c2 s1.1) :: .ro (Sl (codL l_T_Setting) A1 c1 l_p0) :: R) ?_ ?_
      · refine St.region ?_
        refine St.p rfl rfl ?_
        refine St.loadB 2 rfl rfl (.head _) rfl rfl ?_
        refine St.p rfl rfl ?_
        refine St.gSplit (dj := 22) _ rfl (fun hb2 => ?_) (fun hb2 => ?_)
        · replace hj1 := bif_t hb2 hj1
          refine St.gOff (dj := 22) rfl rfl rfl rfl ?_
          refine St.gOff (dj := 22) rfl rfl rfl rfl ?_
          refine St.gOff (dj := 22) rfl rfl rfl rfl ?_
          refine St.p rfl rfl ?_
          refine St.done ?_
          injection hj1 with hj1
          subst hj1
          refine St.thenN ?_
          exact St.hereE () ⟨rfl, rfl, rfl, rfl, rfl, rfl, rfl, trivial⟩ (fun _ w => ((.k (.k (.k (.k .z)))) : Keep _ _).sat w)
        · replace hj1 := bif_f hb2 hj1
          refine St.gOn (dj := 22) rfl rfl ?_
          refine St.p rfl rfl ?_
          refine St.gOn (dj := 22) rfl rfl ?_
          obtain ⟨r1, hr1, hj1⟩ := bnd_e hj1
          refine St.callV (c_inventory_slotted hr1) ent39 rfl rfl rfl rfl trivial ?_
          refine St.gOn (dj := 22) rfl rfl ?_
          refine St.p rfl rfl ?_
          refine St.p rfl rfl ?_
          refine St.done ?_
          injection hj1 with hj1
          subst hj1
          refine St.thenN ?_
          exact St.hereE () ⟨rfl, rfl, rfl, rfl, rfl, rfl, rfl, trivial⟩ (fun _ w => ((.k (.k (.k (.k .z)))) : Keep _ _).sat w)
      · rintro e3
        refine St.cond _ rfl (fun hb3 => ?_) (fun hb3 => ?_)
        · replace h1 := bif_t hb3 h1
          refine St.exit ?_
          repeat (first | refine St.thenX ?_ | refine St.blkMiss rfl ?_)
          refine St.blkHit ?_
          refine St.thenN ?_
          refine St.prune (Γ' := [(4, _), (10, _), (11, _), (12, _)]) ⟨rfl, rfl, rfl, rfl, trivial⟩ (.d (.d (.k (.k .z)))) ?_
          refine St.region ?_
          refine St.p rfl rfl ?_
          refine St.p rfl rfl ?_
          refine St.done ?_
          injection h1 with h1
          subst h1
          refine St.thenN ?_
          exact St.again _ (A2, c2) hm1 trivial ⟨rfl, rfl, rfl, rfl, trivial⟩ (fun _ w => ((.k (.k .z)) : Keep _ _).sat w)
        · replace h1 := bif_f hb3 h1
          refine St.skip ?_
          refine St.thenN ?_
          refine St.prune (Γ' := [(4, _), (6, _), (7, _), (10, _), (11, _), (12, _)]) ⟨rfl, rfl, rfl, rfl, rfl, rfl, trivial⟩ (.k (.k (.k (.k .z)))) ?_
          refine St.seq ?_
          refine St.region ?_
          refine St.p rfl rfl ?_
          refine St.loadB 1 rfl rfl (.head _) rfl rfl ?_
          refine St.p rfl rfl ?_
          refine St.done ?_
          refine St.thenN ?_
          refine St.prune (Γ' := [(4, _), (7, _), (8, _), (10, _), (11, _), (12, _)]) ⟨rfl, rfl, rfl, rfl, rfl, rfl, trivial⟩ (.d (.k (.k (.k .z)))) ?_
          refine St.seq ?_
          refine St.block ?_
          refine St.seq ?_
          obtain ⟨o4, hj2, h1⟩ := bnd_e h1
          refine St.cutE (fun (e4 : Option Addr × Nat) => [(4, .slice e4.1 o4.1.length e4.2), (7, .int .i64 (IntKind.wrap .i64 ((IntKind.wrap .i64 x1.Key) - 16))), (8, .slice A4 x1.Value.length c4), (10, .slice A1 l_p0.length c1), (11, .int .i64 (l_p0.length : Int)), (12, .int .i64 s1.2), (29, .bool o4.2)]) (fun e4 => .res (OwnL e_Known 45 e4.1 e4.2 o4.1) :: .ro (SlL eu8 A4 c4 x1.Value) :: .ro (Sl (codL l_T_Setting) A1 c1 l_p0) :: R) ?_ ?_
          · refine St.region ?_
            iterate 4 refine St.p rfl rfl ?_
            refine St.gSplit (dj := 33) _ rfl (fun hb4 => ?_) (fun hb4 => ?_)
            · replace hj2 := bif_t hb4 hj2
              refine St.gOn (dj := 33) rfl rfl ?_
              refine St.p rfl rfl ?_
              refine St.gOn (dj := 33) rfl rfl ?_
              refine St.p rfl rfl ?_
              refine St.gOn (dj := 33) rfl rfl ?_
              refine St.p rfl rfl ?_
              refine St.gOn (dj := 33) rfl rfl ?_
              refine St.p rfl rfl ?_
              refine St.gOn (dj := 33) rfl rfl ?_
              refine St.p rfl rfl ?_
              refine St.gOn (dj := 33) rfl rfl ?_
              obtain ⟨x2, hx2, hj2⟩ := bnd_e hj2
              refine St.ixO hx2 rfl rfl rfl (.tail _ (.head _)) rfl rfl rfl rfl rfl fun g2 hA => ?_
              subst hA
              refine St.gOn (dj := 33) rfl rfl ?_
              refine St.p rfl rfl ?_
              refine St.gOn (dj := 33) rfl rfl ?_
              refine St.ldO 0 hx2 rfl rfl (.tail _ (.head _)) rfl rfl ?_
              refine St.gOn (dj := 33) rfl rfl ?_
              iterate 3 refine St.p rfl rfl ?_
              refine St.done ?_
              injection hj2 with hj2
              subst hj2
              refine St.thenN ?_
              exact St.hereE ((some ⟨g2, 0, none⟩), c2) ⟨rfl, rfl, rfl, rfl, rfl, rfl, rfl, trivial⟩ (fun _ w => ((.k (.k (.k .z))) : Keep _ _).sat (((w.front (.s (.s .z))).front (.s .z)).front (.s (.s .z))))
            · replace hj2 := bif_f hb4 hj2
              refine St.gOff (dj := 33) rfl rfl rfl rfl ?_
              refine St.gOff (dj := 33) rfl rfl rfl rfl ?_
              refine St.gOff (dj := 33) rfl rfl rfl rfl ?_
              refine St.gOff (dj := 33) rfl rfl rfl rfl ?_
              refine St.gOff (dj := 33) rfl rfl rfl rfl ?_
              refine St.gOff (dj := 33) rfl rfl rfl rfl ?_
              refine St.gOff (dj := 33) rfl rfl rfl rfl ?_
              refine St.gOff (dj := 33) rfl rfl rfl rfl ?_
              refine St.gOff (dj := 33) rfl rfl rfl rfl ?_
              refine St.p rfl rfl ?_
              refine St.p rfl rfl ?_
              refine St.done ?_
              injection hj2 with hj2
              subst hj2
              refine St.thenN ?_
              exact St.hereE (A2, c2) ⟨rfl, rfl, rfl, rfl, rfl, rfl, rfl, trivial⟩ (fun _ w => ((.k (.k (.k .z))) : Keep _ _).sat (((w.front (.s (.s .z))).front (.s .z)).front (.s (.s .z))))
          · rintro ⟨A5, c5⟩
            refine St.cond _ rfl (fun hb5 => ?_) (fun hb5 => ?_)
            · replace h1 := bif_t hb5 h1
              refine St.seq ?_
              refine St.region ?_
              refine St.p rfl rfl ?_
              refine St.p rfl rfl ?_
              refine St.done ?_
              refine St.thenN ?_
              refine St.prune (Γ' := [(2, _), (3, _)]) ⟨rfl, rfl, trivial⟩ (.d (.d (.d .z))) ?_
              refine St.ret ?_
              repeat (first | refine St.thenR ?_ | refine St.blkR ?_)
              refine St.asrt (fun _ w => w.nilL e_Known 45) ?_
              injection h1 with h1
              subst h1
              have ho := hd1 _ rfl
              subst ho
              have h : some _ = some _ := h
              injection h with h
              subst h
              exact St.finR Try.results32 (.tmp rfl (.tmp rfl .nil)) rfl [.res (OwnL e_Known 45 none 0 ([] : List T_Known))] ⟨none, 0, rfl, rfl⟩ (fun _ w => ((.k .z) : Keep _ _).sat w)
            · replace h1 := bif_f hb5 h1
              refine St.seq ?_
              obtain ⟨o5, hj3, h1⟩ := bnd_e h1
              refine St.cutE (fun (e5 : Unit) => [(4, .slice A5 o4.1.length c5), (7, .int .i64 (IntKind.wrap .i64 ((IntKind.wrap .i64 x1.Key) - 16))), (8, .slice A4 x1.Value.length c4), (10, .slice A1 l_p0.length c1), (11, .int .i64 (l_p0.length : Int)), (12, .int .i64 s1.2), (44, .bool o5)]) (fun e5 => .res (OwnL e_Known 45 A5 c5 o4.1) :: .ro (SlL eu8 A4 c4 x1.Value) :: .ro (Sl (codL l_T_Setting) A1 c1 l_p0) :: R) ?_ ?_
              · refine St.region ?_
                iterate 4 refine St.p rfl rfl ?_
                refine St.gSplit (dj := 48) _ rfl (fun hb6 => ?_) (fun hb6 => ?_)
                · replace hj3 := bif_t hb6 hj3
                  refine St.gOff (dj := 48) rfl rfl rfl rfl ?_
                  refine St.gOff (dj := 48) rfl rfl rfl rfl ?_
                  refine St.gOff (dj := 48) rfl rfl rfl rfl ?_
                  refine St.p rfl rfl ?_
                  refine St.p rfl rfl ?_
                  refine St.gOff (dj := 53) rfl rfl rfl rfl ?_
                  refine St.gOff (dj := 53) rfl rfl rfl rfl ?_
                  refine St.gOff (dj := 53) rfl rfl rfl rfl ?_
                  refine St.gOff (dj := 53) rfl rfl rfl rfl ?_
                  refine St.p rfl rfl ?_
                  refine St.p rfl rfl ?_
                  refine St.gOff (dj := 59) rfl rfl rfl rfl ?_
                  refine St.gOff (dj := 59) rfl rfl rfl rfl ?_
                  refine St.gOff (dj := 59) rfl rfl rfl rfl ?_
                  refine St.gOff (dj := 59) rfl rfl rfl rfl ?_
                  refine St.gOff (dj := 59) rfl rfl rfl rfl ?_
                  refine St.gOff (dj := 64) rfl rfl rfl rfl ?_
                  refine St.gOff (dj := 64) rfl rfl rfl rfl ?_
                  refine St.gOff (dj := 64) rfl rfl rfl rfl ?_
                  refine St.gOff (dj := 59) rfl rfl rfl rfl ?_
                  refine St.p rfl rfl ?_
                  refine St.p rfl rfl ?_
                  refine St.done ?_
                  injection hj3 with hj3
                  subst hj3
                  refine St.thenN ?_
                  exact St.hereE () ⟨rfl, rfl, rfl, rfl, rfl, rfl, rfl, trivial⟩ (fun _ w => ((.k (.k (.k .z))) : Keep _ _).sat w)
                · replace hj3 := bif_f hb6 hj3
                  refine St.gOn (dj := 48) rfl rfl ?_
                  refine St.p rfl rfl ?_
                  refine St.gOn (dj := 48) rfl rfl ?_
                  refine St.p rfl rfl ?_
                  refine St.gOn (dj := 48) rfl rfl ?_
                  iterate 3 refine St.p rfl rfl ?_
                  refine St.gSplit (dj := 53) _ rfl (fun hb7 => ?_) (fun hb7 => ?_)
                  · replace hj3 := bif_t hb7 hj3
                    refine St.gOff (dj := 53) rfl rfl rfl rfl ?_
                    refine St.gOff (dj := 53) rfl rfl rfl rfl ?_
                    refine St.gOff (dj := 53) rfl rfl rfl rfl ?_
                    refine St.gOff (dj := 53) rfl rfl rfl rfl ?_
                    refine St.p rfl rfl ?_
                    refine St.p rfl rfl ?_
                    refine St.gOff (dj := 59) rfl rfl rfl rfl ?_
                    refine St.gOff (dj := 59) rfl rfl rfl rfl ?_
                    refine St.gOff (dj := 59) rfl rfl rfl rfl ?_
                    refine St.gOff (dj := 59) rfl rfl rfl rfl ?_
                    refine St.gOff (dj := 59) rfl rfl rfl rfl ?_
                    refine St.gOff (dj := 64) rfl rfl rfl rfl ?_
                    refine St.gOff (dj := 64) rfl rfl rfl rfl ?_
                    refine St.gOff (dj := 64) rfl rfl rfl rfl ?_
                    refine St.gOff (dj := 59) rfl rfl rfl rfl ?_
                    refine St.p rfl rfl ?_
                    refine St.p rfl rfl ?_
                    refine St.done ?_
                    injection hj3 with hj3
                    subst hj3
                    refine St.thenN ?_
                    exact St.hereE () ⟨rfl, rfl, rfl, rfl, rfl, rfl, rfl, trivial⟩ (fun _ w => ((.k (.k (.k .z))) : Keep _ _).sat w)
                  · replace hj3 := bif_f hb7 hj3
                    refine St.gOn (dj := 53) rfl rfl ?_
                    refine St.p rfl rfl ?_
                    refine St.gOn (dj := 53) rfl rfl ?_
                    obtain ⟨x3, hx3, hj3⟩ := bnd_e hj3
                    refine St.ixL hx3 rfl rfl rfl (.tail _ (.head _)) rfl rfl rfl rfl rfl fun b2 ob2 => ?_
                    refine St.gOn (dj := 53) rfl rfl ?_
                    refine St.load ob2 0 rfl rfl (.head _) rfl rfl ?_
                    refine St.gOn (dj := 53) rfl rfl ?_
                    iterate 3 refine St.p rfl rfl ?_
                    refine St.gSplit (dj := 59) _ rfl (fun hb8 => ?_) (fun hb8 => ?_)
                    · replace hj3 := bif_t hb8 hj3
                      refine St.gOff (dj := 59) rfl rfl rfl rfl ?_
                      refine St.gOff (dj := 59) rfl rfl rfl rfl ?_
                      refine St.gOff (dj := 59) rfl rfl rfl rfl ?_
                      refine St.gOff (dj := 59) rfl rfl rfl rfl ?_
                      refine St.gOff (dj := 59) rfl rfl rfl rfl ?_
                      refine St.gOff (dj := 64) rfl rfl rfl rfl ?_
                      refine St.gOff (dj := 64) rfl rfl rfl rfl ?_
                      refine St.gOff (dj := 64) rfl rfl rfl rfl ?_
                      refine St.gOff (dj := 59) rfl rfl rfl rfl ?_
                      refine St.p rfl rfl ?_
                      refine St.p rfl rfl ?_
                      refine St.done ?_
                      injection hj3 with hj3
                      subst hj3
                      refine St.thenN ?_
                      exact St.hereE () ⟨rfl, rfl, rfl, rfl, rfl, rfl, rfl, trivial⟩ (fun _ w => ((.d (.k (.k (.k .z)))) : Keep _ _).sat w)
                    · replace hj3 := bif_f hb8 hj3
                      refine St.gOn (dj := 59) rfl rfl ?_
                      refine St.p rfl rfl ?_
                      refine St.gOn (dj := 59) rfl rfl ?_
                      refine St.ixL hx3 rfl rfl rfl (.tail _ (.tail _ (.head _))) rfl rfl rfl rfl rfl fun b3 ob3 => ?_
                      refine St.gOn (dj := 59) rfl rfl ?_
                      refine St.load ob3 0 rfl rfl (.head _) rfl rfl ?_
                      refine St.gOn (dj := 59) rfl rfl ?_
                      refine St.p rfl rfl ?_
                      refine St.gOn (dj := 59) rfl rfl ?_
                      refine St.p rfl rfl ?_
                      refine St.gSplit (dj := 64) _ rfl (fun hb9 => ?_) (fun hb9 => ?_)
                      · replace hj3 := bif_t hb9 hj3
                        refine St.gOn (dj := 64) rfl rfl ?_
                        refine St.p rfl rfl ?_
                        refine St.gOn (dj := 64) rfl rfl ?_
                        refine St.p rfl rfl ?_
                        refine St.gOn (dj := 64) rfl rfl ?_
                        refine St.p rfl rfl ?_
                        refine St.gOn (dj := 59) rfl rfl ?_
                        iterate 3 refine St.p rfl rfl ?_
                        refine St.done ?_
                        injection hj3 with hj3
                        subst hj3
                        refine St.thenN ?_
                        exact St.hereE () ⟨rfl, rfl, rfl, rfl, rfl, rfl, rfl, trivial⟩ (fun _ w => ((.d (.d (.k (.k (.k .z))))) : Keep _ _).sat w)
                      · replace hj3 := bif_f hb9 hj3
                        refine St.gOff (dj := 64) rfl rfl rfl rfl ?_
                        refine St.gOff (dj := 64) rfl rfl rfl rfl ?_
                        refine St.gOff (dj := 64) rfl rfl rfl rfl ?_
                        refine St.gOn (dj := 59) rfl rfl ?_
                        iterate 3 refine St.p rfl rfl ?_
                        refine St.done ?_
                        injection hj3 with hj3
                        subst hj3
                        refine St.thenN ?_
                        exact St.hereE () ⟨rfl, rfl, rfl, rfl, rfl, rfl, rfl, trivial⟩ (fun _ w => ((.d (.d (.k (.k (.k .z))))) : Keep _ _).sat w)
              · rintro e5
                refine St.cond _ rfl (fun hb10 => ?_) (fun hb10 => ?_)
                · replace h1 := bif_t hb10 h1
                  refine St.seq ?_
                  refine St.region ?_
                  refine St.p rfl rfl ?_
                  refine St.p rfl rfl ?_
                  refine St.done ?_
                  refine St.thenN ?_
                  refine St.prune (Γ' := [(2, _), (3, _)]) ⟨rfl, rfl, trivial⟩ (.d (.d (.d .z))) ?_
                  refine St.ret ?_
                  repeat (first | refine St.thenR ?_ | refine St.blkR ?_)
                  refine St.asrt (fun _ w => w.nilL e_Known 45) ?_
                  injection h1 with h1
                  subst h1
                  have ho := hd1 _ rfl
                  subst ho
                  have h : some _ = some _ := h
                  injection h with h
                  subst h
                  exact St.finR Try.results32 (.tmp rfl (.tmp rfl .nil)) rfl [.res (OwnL e_Known 45 none 0 ([] : List T_Known))] ⟨none, 0, rfl, rfl⟩ (fun _ w => ((.k .z) : Keep _ _).sat w)
                · replace h1 := bif_f hb10 h1
                  refine St.skip ?_
                  refine St.blkN ?_
                  refine St.thenN ?_
                  refine St.prune (Γ' := [(4, _), (7, _), (8, _), (10, _), (11, _), (12, _)]) ⟨rfl, rfl, rfl, rfl, rfl, rfl, trivial⟩ (.k (.k (.k .z))) ?_
                  refine St.seq ?_
                  refine St.regionF mixed (by kernel_rfl) ?_
                  refine St.p rfl rfl ?_
                  obtain ⟨x4, hx4, h1⟩ := bnd_e h1
                  refine St.ixL hx4 rfl rfl rfl (.tail _ (.head _)) rfl rfl rfl rfl rfl fun b4 ob4 => ?_
                  refine St.load ob4 0 rfl rfl (.head _) rfl rfl ?_
                  refine St.p rfl rfl ?_
                  refine St.p rfl rfl ?_
                  obtain ⟨x5, hx5, h1⟩ := bnd_e h1
                  refine St.ixL hx5 rfl rfl rfl (.tail _ (.tail _ (.head _))) rfl rfl rfl rfl rfl fun b5 ob5 => ?_
                  refine St.load ob5 0 rfl rfl (.head _) rfl rfl ?_
                  iterate 4 refine St.p rfl rfl ?_
                  obtain ⟨x6, hx6, h1⟩ := bnd_e h1
                  refine St.ixL hx6 rfl rfl rfl (.tail _ (.tail _ (.tail _ (.head _)))) rfl rfl rfl rfl rfl fun b6 ob6 => ?_
                  refine St.load ob6 0 rfl rfl (.head _) rfl rfl ?_
                  iterate 4 refine St.p rfl rfl ?_
                  obtain ⟨x7, hx7, h1⟩ := bnd_e h1
                  refine St.ixL hx7 rfl rfl rfl (.tail _ (.tail _ (.tail _ (.tail _ (.head _))))) rfl rfl rfl rfl rfl fun b7 ob7 => ?_
                  refine St.load ob7 0 rfl rfl (.head _) rfl rfl ?_
                  iterate 4 refine St.p rfl rfl ?_
                  refine St.doneQ ?_
                  refine St.thenN ?_
                  refine St.prune (Γ' := [(4, _), (7, _), (8, _), (9, _), (10, _), (11, _), (12, _)]) ⟨rfl, rfl, rfl, rfl, rfl, rfl, rfl, trivial⟩ (.d (.d (.d (.d (.k (.k (.k .z))))))) ?_
                  refine St.regionX (iL [(.fl, 0), (.fl, 1), (.fl, 2), (.fx, 3), (.fx, 4), (.fl, 5), (.fl, 6), (.fx, 7), (.fx, 8), (.fl, 9), (.fl, 10), (.ef, 11), (.ef, 12), (.fl, 13)] .nil) (.ro (SlL eu8 A4 c4 x1.Value) :: .ro (Sl (codL l_T_Setting) A1 c1 l_p0) :: R) mixed (by kernel_rfl) (fun _ w => ((.d (.k (.k .z))) : Keep _ _).sat w) ?_
                  refine St.xfl (fun _ h => h) (Rd.p rfl) rfl ?_
                  refine St.xfl (fun _ h => h) (Rd.p rfl) rfl ?_
                  refine St.xfl (fun _ h => h) (Rd.p rfl) rfl ?_
                  obtain ⟨x8, hx8, h1⟩ := bnd_e h1
                  refine St.openA (.tail _ (.head _)) hx8 fun b8 ob8 hqb8 => ?_
                  refine St.asrt (fun _ w => Sat.addC hqb8 (.tail _ (.head _)) hx8 w) ?_
                  have hc1 := fun w h => Sat.addC hqb8 (.head _) hx8 ((fun (w : World) (h : Sat (.ro (SlL eu8 A4 c4 x1.Value) :: .ro (Sl (codL l_T_Setting) A1 c1 l_p0) :: R) w) => h) w h)
                  refine St.xfx (Rd.ixL (E := eu8) hqb8 hx8 rfl rfl rfl rfl rfl rfl rfl) rfl ?_
                  refine St.xfx (Rd.load ob8 0 rfl (.head _) rfl rfl) rfl ?_
                  refine St.xfl (fun _ h => h) (Rd.p rfl) rfl ?_
                  refine St.xfl (fun _ h => h) (Rd.p rfl) rfl ?_
                  obtain ⟨l1, hl1, h1⟩ := bnd_e h1
                  refine St.openS (.tail _ (.tail _ (.head _))) hl1 fun A6 c6 hS1 => ?_
                  have hc2 := fun w h => Sat.addS hS1 (.tail _ (.head _)) hl1 (hc1 w h)
                  refine St.xfx (Rd.sub hS1 hl1 (.tail _ (.tail _ (.tail _ (.head _)))) rfl rfl rfl rfl rfl rfl rfl rfl) rfl ?_
                  refine St.xfx (Rd.b2s (.head _) rfl rfl rfl rfl rfl rfl rfl rfl) rfl ?_
                  refine St.xfl (fun _ h => h) (Rd.p rfl) rfl ?_
                  refine St.xfl (fun _ h => h) (Rd.p rfl) rfl ?_
                  refine St.xef ?_
                  refine St.buildSlice rfl rfl rfl rfl rfl rfl rfl rfl fun g3 => ?_
                  refine St.xk (fun _ w => ((.d (.d (.d (.d (.k (.k .z)))))) : Keep _ _).sat w) ?_
                  refine St.xef ?_
                  obtain ⟨l2, hl2, h1⟩ := bnd_e h1
                  refine St.app (E := e_Known) hl2 rfl rfl rfl (.s (.s (.s .z))) rfl rfl rfl rfl rfl rfl rfl rfl (srcB (.head _) rfl rfl) rfl rfl fun A7 c7 => ?_
                  refine St.xk (fun _ w => ((.d (.d (.d (.d (.k (.k .z)))))) : Keep _ _).sat w) ?_
                  refine St.xfl (fun _ h => h) (Rd.p rfl) rfl ?_
                  refine St.xdone ?_
                  refine St.blkN ?_
                  refine St.thenN ?_
                  refine St.prune (Γ' := [(4, _), (10, _), (11, _), (12, _)]) ⟨rfl, rfl, rfl, rfl, trivial⟩ (.k (.d (.d (.d (.d (.k .z)))))) ?_
                  refine St.region ?_
                  refine St.p rfl rfl ?_
                  refine St.p rfl rfl ?_
                  refine St.done ?_
                  injection h1 with h1
                  subst h1
                  refine St.thenN ?_
                  exact St.again _ (A7, c7) hm1 trivial ⟨rfl, rfl, rfl, rfl, trivial⟩ (fun _ w => ((.k (.k .z)) : Keep _ _).sat w)
    · replace h1 := bif_f hb1 h1
      refine St.exit ?_
      repeat (first | refine St.thenX ?_ | refine St.blkMiss rfl ?_)
      refine St.blkHit ?_
      injection h1 with h1
      subst h1
      have ho := hd1 _ rfl
      subst ho
      refine St.thenN ?_
      exact St.hereI s1.1 (A2, c2) rfl ⟨rfl, trivial⟩ (fun _ w => ((.k (.d .z)) : Keep _ _).sat w)
  · rintro o2 ⟨A3, c3⟩ ho
    subst ho
    have h := unR h
    refine St.seq ?_
    refine St.region ?_
    iterate 3 refine St.p rfl rfl ?_
    refine St.done ?_
    refine St.thenN ?_
    refine St.prune (Γ' := [(2, _), (3, _)]) ⟨rfl, rfl, trivial⟩ (.k .z) ?_
    refine St.ret ?_
    repeat (first | refine St.thenR ?_ | refine St.blkR ?_)
    injection h with h
    subst h
    exact St.finR Try.results32 (.tmp rfl (.tmp rfl .nil)) rfl [.res (OwnL e_Known 45 A3 c3 o2)] ⟨A3, c3, rfl, rfl⟩ (fun _ w => ((.k .z) : Keep _ _).sat w)

theorem ent47 : Ent Try.prog 47 := ⟨_, Try.func47, by kernel_rfl, by kernel_rfl⟩

noncomputable def m_ref01_Number (b_p0 : (List Int)) : Option Int :=
  bnd (loopM (τ := Int) (fun (s1 : Int × Int) => bif decide (s1.2 ≥ 0) then (bnd (elt b_p0 s1.2) fun x1 => some (.next (IntKind.wrap .u64 ((IntKind.wrap .u64 (256 * s1.1)) + (IntKind.wrap .u64 x1)), IntKind.wrap .i64 (s1.2 - 1)))) else (some (.done s1.1))) (0, IntKind.wrap .i64 ((b_p0.length : Int) - 1))) fun o1 => some o1

theorem c_ref01_Number {b_p0 : (List Int)} {A1 : Option Addr} {c1 : Nat} {r : Int} (h : m_ref01_Number b_p0 = some r) :
    Fun Try.prog 47 [.slice A1 b_p0.length c1] [.ro (SlL eu8 A1 c1 b_p0)] (Val (.int .u64 r)) := by
  unfold m_ref01_Number at h
  refine Fun.intro Try.func47 rfl rfl rfl fun w R => ?_
  refine St.seq ?_
  refine St.region ?_
  refine St.p rfl rfl ?_
  refine St.done ?_
  refine St.thenN ?_
  refine St.prune (Γ' := [(0, _)]) ⟨rfl, trivial⟩ (.k .z) ?_
  refine St.seq ?_
  refine St.region ?_
  refine St.p rfl rfl ?_
  refine St.done ?_
  refine St.thenN ?_
  refine St.seq ?_
  refine St.seq ?_
  refine St.region ?_
  iterate 4 refine St.p rfl rfl ?_
  refine St.done ?_
  refine St.thenN ?_
  refine St.prune (Γ' := [(0, _), (3, _), (4, _)]) ⟨rfl, rfl, rfl, trivial⟩ (.k .z) ?_
  obtain ⟨o1, hl1, h⟩ := bnd_e h
  refine St.cutE (fun (e2 : Unit) => [(3, .int .u64 o1)]) (fun e2 => R) ?_ ?_
  · refine St.block ?_
    refine St.loop hl1 (fun (s1 : Int × Int) (e1 : Unit) => [(0, .slice A1 b_p0.length c1), (3, .int .u64 s1.1), (4, .int .i64 s1.2)]) (fun s1 e1 => .ro (SlL eu8 A1 c1 b_p0) :: R) (fun _ _ => True) () trivial ⟨rfl, rfl, rfl, trivial⟩ (fun _ w => ((.k .z) : Keep _ _).sat w) ?_
    rintro s1 e1 - hit1
    obtain ⟨st1, hm1, hd1⟩ := iter_e hit1
    have h1 := hm1
    refine St.seq ?_
    refine St.seq ?_
    refine St.region ?_
    refine St.p rfl rfl ?_
    refine St.p rfl rfl ?_
    refine St.done ?_
    refine St.thenN ?_
    refine St.prune (Γ' := [(0, _), (3, _), (4, _), (9, _)]) ⟨rfl, rfl, rfl, rfl, trivial⟩ (.k .z) ?_
    refine St.cond _ rfl (fun hb1 => ?_) (fun hb1 => ?_)
    · replace h1 := bif_t hb1 h1
      refine St.skip ?_
      refine St.thenN ?_
      refine St.prune (Γ' := [(0, _), (3, _), (4, _)]) ⟨rfl, rfl, rfl, trivial⟩ (.k .z) ?_
      refine St.seq ?_
      refine St.block ?_
      refine St.region ?_
      iterate 4 refine St.p rfl rfl ?_
      obtain ⟨x1, hx1, h1⟩ := bnd_e h1
      refine St.ixL hx1 rfl rfl rfl (.head _) rfl rfl rfl rfl rfl fun b1 ob1 => ?_
      refine St.load ob1 0 rfl rfl (.head _) rfl rfl ?_
      iterate 3 refine St.p rfl rfl ?_
      refine St.done ?_
      refine St.blkN ?_
      refine St.thenN ?_
      refine St.prune (Γ' := [(0, _), (3, _), (4, _)]) ⟨rfl, rfl, rfl, trivial⟩ (.d (.k .z)) ?_
      refine St.region ?_
      iterate 3 refine St.p rfl rfl ?_
      refine St.done ?_
      injection h1 with h1
      subst h1
      refine St.thenN ?_
      exact St.again _ () hm1 trivial ⟨rfl, rfl, rfl, trivial⟩ (fun _ w => ((.k .z) : Keep _ _).sat w)
    · replace h1 := bif_f hb1 h1
      refine St.exit ?_
      repeat (first | refine St.thenX ?_ | refine St.blkMiss rfl ?_)
      refine St.blkHit ?_
      injection h1 with h1
      subst h1
      have ho := hd1 _ rfl
      subst ho
      refine St.thenN ?_
      exact St.hereE () ⟨rfl, trivial⟩ (fun _ w => ((.d .z) : Keep _ _).sat w)
  · rintro e2
    refine St.seq ?_
    refine St.region ?_
    refine St.p rfl rfl ?_
    refine St.p rfl rfl ?_
    refine St.done ?_
    refine St.thenN ?_
    refine St.prune (Γ' := [(2, _)]) ⟨rfl, trivial⟩ .z ?_
    refine St.ret ?_
    repeat (first | refine St.thenR ?_ | refine St.blkR ?_)
    injection h with h
    subst h
    exact St.finR Try.results47 (.tmp rfl .nil) rfl [] ⟨rfl, rfl⟩ (fun _ w => (.z : Keep _ _).sat w)

theorem ent33 : Ent Try.prog 33 := ⟨_, Try.func33, by kernel_rfl, by kernel_rfl⟩

noncomputable def m_ref19_Load (l_p0 : (List T_Setting)) : Option ((List T_Known) × Int) :=
  bnd (loopM (τ := ((List T_Known) × Int) ⊕ List T_Known) (fun (s1 : List T_Known × Int) => bif decide (s1.2 < (l_p0.length : Int)) then (bnd ((bnd (elt l_p0 s1.2) fun x1 => bif decide (x1.Key < 16) then (some true) else (bif decide (x1.Key > 31) then (some true) else (some x1.Delete)) : Option Bool)) fun o3 => bif o3 then (some (.next (s1.1, IntKind.wrap .i64 (s1.2 + 1)))) else (bnd (elt l_p0 s1.2) fun x2 => bnd ((bif decide ((s1.1.length : Int) > 0) then (bnd (elt s1.1 (IntKind.wrap .i64 ((s1.1.length : Int) - 1))) fun x3 => some (s1.1, decide ((IntKind.wrap .i64 ((IntKind.wrap .i64 x2.Key) - 16)) ≤ x3.Slot))) else (some (s1.1, false)) : Option (List T_Known × Bool))) fun o4 => bif o4.2 then (some (.done (.inl ([], 1)))) else (bnd (elt l_p0 s1.2) fun x4 => bnd ((bif decide ((x4.Value.length : Int) < 5) then (some true) else (bif decide ((x4.Value.length : Int) > 28) then (some true) else (bnd (elt x4.Value 0) fun x5 => bif decide (x5 > 1) then (some true) else (bif (x5 == 0) then (some (decide ((x4.Value.length : Int) > 5))) else (some false)))) : Option Bool)) fun o5 => bif o5 then (some (.done (.inl ([], 6)))) else (bnd (elt x4.Value 0) fun x6 => bnd (sub x4.Value 5 (x4.Value.length : Int)) fun l1 => bnd (sub x4.Value 1 5) fun l2 => bnd (m_ref01_Number l2) fun r1 => bnd (app 40 o4.1 [(⟨IntKind.wrap .i64 ((IntKind.wrap .i64 x2.Key) - 16), (x6 == 1), strOf l1, IntKind.wrap .u32 r1⟩ : T_Known)]) fun l3 => some (.next (l3, IntKind.wrap .i64 (s1.2 + 1))))))) else (some (.done (.inr s1.1)))) ([], 0)) fun o1 => retOr o1 fun o2 => some (o2, 0)

end Go.Proofs.Ytnolaefjmjgfbaa
