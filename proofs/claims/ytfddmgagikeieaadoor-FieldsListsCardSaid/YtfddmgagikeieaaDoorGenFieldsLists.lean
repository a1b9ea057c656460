/-
  Models of functions of the program, and that the functions compute them.
  Conditions: none.
-/
import Derived.Test.YtfddmgagikeieaaDoorGen
namespace Go.Proofs.YtfddmgagikeieaaDoor
open Go
set_option linter.unusedVariables false
set_option maxRecDepth 4000

theorem ent31 : Ent Tryd.prog 31 := ⟨_, Tryd.func31, by kernel_rfl, by kernel_rfl⟩

noncomputable def m_ref02_EncodeList (l_p0 : (List T_Field)) : Option ((List Int) × Int) :=
  bif decide ((l_p0.length : Int) > 16) then (some ([], 3)) else (bnd (loopM (τ := ((List Int) × Int) ⊕ List Int) (fun (s1 : List Int × Int) => bif decide (s1.2 < (l_p0.length : Int)) then (bnd (elt l_p0 s1.2) fun x1 => bnd (m_ref02_Encode x1) fun r1 => bif (r1.2 != 0) then (some (.done (.inl ([], r1.2)))) else (bnd (app 1 s1.1 r1.1) fun l1 => some (.next (l1, IntKind.wrap .i64 (s1.2 + 1))))) else (some (.done (.inr s1.1)))) ([], 0)) fun o1 => retOr o1 fun o2 => bnd (app 1 o2 [193]) fun l2 => some (l2, 0))

theorem c_ref02_EncodeList {l_p0 : (List T_Field)} {A1 : Option Addr} {c1 : Nat} {r : ((List Int) × Int)} (h : m_ref02_EncodeList l_p0 = some r) :
    Fun Tryd.prog 31 [.slice A1 l_p0.length c1] [.ro (SlL e_Field A1 c1 l_p0)] (fun v_ F_ => ∃ (A1 : Option Addr) (c1 : Nat), v_ = .tuple #[.slice A1 r.1.length c1, .int .i64 r.2] ∧ F_ = [.res (OwnL eu8 5 A1 c1 r.1)]) := by
  unfold m_ref02_EncodeList at h
  refine Fun.intro Tryd.func31 rfl rfl rfl fun w R => ?_
  refine St.seq ?_
  refine St.region ?_
  refine St.p rfl rfl ?_
  refine St.p rfl rfl ?_
  refine St.done ?_
  refine St.thenN ?_
  refine St.prune (Γ' := [(0, _)]) ⟨rfl, trivial⟩ (.k .z) ?_
  refine St.seq ?_
  refine St.seq ?_
  refine St.region ?_
  iterate 3 refine St.p rfl rfl ?_
  refine St.done ?_
  refine St.thenN ?_
  refine St.prune (Γ' := [(0, _), (10, _)]) ⟨rfl, rfl, trivial⟩ (.k .z) ?_
  refine St.cond _ rfl (fun hb1 => ?_) (fun hb1 => ?_)
  · replace h := bif_t hb1 h
    refine St.seq ?_
    refine St.region ?_
    refine St.p rfl rfl ?_
    refine St.p rfl rfl ?_
    refine St.done ?_
    refine St.thenN ?_
    refine St.prune (Γ' := [(2, _), (3, _)]) ⟨rfl, rfl, trivial⟩ (.d .z) ?_
    refine St.ret ?_
    repeat (first | refine St.thenR ?_ | refine St.blkR ?_)
    refine St.asrt (fun _ w => w.nilL eu8 5) ?_
    injection h with h
    subst h
    exact St.finR Tryd.results31 (.tmp rfl (.tmp rfl .nil)) rfl [.res (OwnL eu8 5 none 0 ([] : List Int))] ⟨none, 0, rfl, rfl⟩ (fun _ w => ((.k .z) : Keep _ _).sat w)
  · replace h := bif_f hb1 h
    refine St.skip ?_
    refine St.thenN ?_
    refine St.prune (Γ' := [(0, _)]) ⟨rfl, trivial⟩ (.k .z) ?_
    refine St.seq ?_
    refine St.region ?_
    refine St.p rfl rfl ?_
    refine St.done ?_
    refine St.thenN ?_
    refine St.seq ?_
    refine St.seq ?_
    refine St.region ?_
    refine St.p rfl rfl ?_
    refine St.done ?_
    refine St.thenN ?_
    refine St.asrt (fun _ w => w.nilL eu8 5) ?_
    obtain ⟨o1, hl1, h⟩ := bnd_e h
    refine St.cutI (fun (o2 : List Int) (e2 : Option Addr × Nat) => [(4, .slice e2.1 o2.length e2.2)]) (fun o2 e2 => .res (OwnL eu8 5 e2.1 e2.2 o2) :: R) (fun o2 => o1 = .inr o2) ?_ ?_
    · refine St.block ?_
      refine St.loop hl1 (fun (s1 : List Int × Int) (e1 : Option Addr × Nat) => [(0, .slice A1 l_p0.length c1), (4, .slice e1.1 s1.1.length e1.2), (5, .int .i64 s1.2)]) (fun s1 e1 => .res (OwnL eu8 5 e1.1 e1.2 s1.1) :: .ro (SlL e_Field A1 c1 l_p0) :: R) (fun _ _ => True) (none, 0) trivial ⟨rfl, rfl, rfl, trivial⟩ (fun _ w => ((.k (.k .z)) : Keep _ _).sat w) ?_
      rintro s1 ⟨A2, c2⟩ - hit1
      obtain ⟨st1, hm1, hd1⟩ := iter_e hit1
      have h1 := hm1
      refine St.seq ?_
      refine St.seq ?_
      refine St.region ?_
      iterate 4 refine St.p rfl rfl ?_
      refine St.done ?_
      refine St.thenN ?_
      refine St.prune (Γ' := [(0, _), (4, _), (5, _), (14, _)]) ⟨rfl, rfl, rfl, rfl, trivial⟩ (.k (.k .z)) ?_
      refine St.cond _ rfl (fun hb2 => ?_) (fun hb2 => ?_)
      · replace h1 := bif_t hb2 h1
        refine St.skip ?_
        refine St.thenN ?_
        refine St.prune (Γ' := [(0, _), (4, _), (5, _)]) ⟨rfl, rfl, rfl, trivial⟩ (.k (.k .z)) ?_
        refine St.seq ?_
        refine St.block ?_
        refine St.seq ?_
        refine St.region ?_
        refine St.p rfl rfl ?_
        refine St.p rfl rfl ?_
        obtain ⟨x1, hx1, h1⟩ := bnd_e h1
        refine St.ixL hx1 rfl rfl rfl (.tail _ (.head _)) rfl rfl rfl rfl rfl fun b1 ob1 => ?_
        refine St.load ob1 0 rfl rfl (.head _) rfl rfl ?_
        obtain ⟨r1, hr1, h1⟩ := bnd_e h1
        refine St.call (c_ref02_Encode hr1) ent18 rfl rfl rfl (fun _ w => w) ?_
        rintro _ _ ⟨A4, c4, rfl, rfl⟩
        refine St.asrt (F' := .res (OwnL eu8 5 A4 c4 r1.1) :: .ro (Cells b1 ob1 [.int .i64 x1.Kind, .string x1.Value]) :: .res (OwnL eu8 5 A2 c2 s1.1) :: .ro (SlL e_Field A1 c1 l_p0) :: R) (fun _ w => w) ?_
        iterate 5 refine St.p rfl rfl ?_
        refine St.done ?_
        refine St.thenN ?_
        refine St.prune (Γ' := [(0, _), (4, _), (5, _), (6, _), (7, _)]) ⟨rfl, rfl, rfl, rfl, rfl, trivial⟩ (.k (.d (.k (.k .z)))) ?_
        refine St.seq ?_
        refine St.seq ?_
        refine St.region ?_
        refine St.p rfl rfl ?_
        refine St.p rfl rfl ?_
        refine St.done ?_
        refine St.thenN ?_
        refine St.prune (Γ' := [(0, _), (4, _), (5, _), (6, _), (7, _), (26, _)]) ⟨rfl, rfl, rfl, rfl, rfl, rfl, trivial⟩ (.k (.k (.k .z))) ?_
        refine St.cond _ rfl (fun hb3 => ?_) (fun hb3 => ?_)
        · replace h1 := bif_t hb3 h1
          refine St.seq ?_
          refine St.region ?_
          iterate 3 refine St.p rfl rfl ?_
          refine St.done ?_
          refine St.thenN ?_
          refine St.prune (Γ' := [(2, _), (3, _)]) ⟨rfl, rfl, trivial⟩ (.d (.d (.d .z))) ?_
          refine St.ret ?_
          repeat (first | refine St.thenR ?_ | refine St.blkR ?_)
          refine St.asrt (fun _ w => w.nilL eu8 5) ?_
          injection h1 with h1
          subst h1
          have ho := hd1 _ rfl
          subst ho
          have h : some _ = some _ := h
          injection h with h
          subst h
          exact St.finR Tryd.results31 (.tmp rfl (.tmp rfl .nil)) rfl [.res (OwnL eu8 5 none 0 ([] : List Int))] ⟨none, 0, rfl, rfl⟩ (fun _ w => ((.k .z) : Keep _ _).sat w)
        · replace h1 := bif_f hb3 h1
          refine St.skip ?_
          refine St.thenN ?_
          refine St.prune (Γ' := [(0, _), (4, _), (5, _), (6, _)]) ⟨rfl, rfl, rfl, rfl, trivial⟩ (.k (.k (.k .z))) ?_
          refine St.region ?_
          refine St.p rfl rfl ?_
          refine St.p rfl rfl ?_
          refine St.asrt (fun _ w => (w.front .z).meltL) ?_
          obtain ⟨l1, hl1, h1⟩ := bnd_e h1
          refine St.app (E := eu8) hl1 rfl rfl rfl (.s .z) rfl rfl rfl rfl rfl rfl rfl rfl (srcL (.head _)) rfl rfl fun A5 c5 => ?_
          refine St.p rfl rfl ?_
          refine St.done ?_
          refine St.blkN ?_
          refine St.thenN ?_
          refine St.prune (Γ' := [(0, _), (4, _), (5, _)]) ⟨rfl, rfl, rfl, trivial⟩ (.k (.d (.k .z))) ?_
          refine St.region ?_
          iterate 3 refine St.p rfl rfl ?_
          refine St.done ?_
          injection h1 with h1
          subst h1
          refine St.thenN ?_
          exact St.again _ (A5, c5) hm1 trivial ⟨rfl, rfl, rfl, trivial⟩ (fun _ w => ((.k (.k .z)) : Keep _ _).sat w)
      · replace h1 := bif_f hb2 h1
        refine St.exit ?_
        repeat (first | refine St.thenX ?_ | refine St.blkMiss rfl ?_)
        refine St.blkHit ?_
        injection h1 with h1
        subst h1
        have ho := hd1 _ rfl
        subst ho
        refine St.thenN ?_
        exact St.hereI s1.1 (A2, c2) rfl ⟨rfl, trivial⟩ (fun _ w => ((.k (.d .z)) : Keep _ _).sat w)
    · rintro o2 ⟨A3, c3⟩ ho
      subst ho
      have h : _ = some _ := h
      refine St.seq ?_
      refine St.region ?_
      refine St.p rfl rfl ?_
      refine St.buildSlice rfl rfl rfl rfl rfl rfl rfl rfl fun g1 => ?_
      obtain ⟨l2, hl2, h⟩ := bnd_e h
      refine St.app (E := eu8) hl2 rfl rfl rfl (.s .z) rfl rfl rfl rfl rfl rfl rfl rfl (srcB (.head _) rfl rfl) rfl rfl fun A6 c6 => ?_
      refine St.p rfl rfl ?_
      refine St.p rfl rfl ?_
      refine St.done ?_
      refine St.thenN ?_
      refine St.prune (Γ' := [(2, _), (3, _)]) ⟨rfl, rfl, trivial⟩ (.k (.d .z)) ?_
      refine St.ret ?_
      repeat (first | refine St.thenR ?_ | refine St.blkR ?_)
      injection h with h
      subst h
      exact St.finR Tryd.results31 (.tmp rfl (.tmp rfl .nil)) rfl [.res (OwnL eu8 5 A6 c6 l2)] ⟨A6, c6, rfl, rfl⟩ (fun _ w => ((.k .z) : Keep _ _).sat w)

theorem ent33 : Ent Tryd.prog 33 := ⟨_, Tryd.func33, by kernel_rfl, by kernel_rfl⟩

noncomputable def m_ref02_DecodeList (b_p0 : (List Int)) : Option ((List T_Field) × Int × Int) :=
  bnd (loopM (τ := ((List T_Field) × Int × Int) ⊕ Unit) (fun (s1 : List T_Field × Int) => bnd (sub b_p0 s1.2 (b_p0.length : Int)) fun l1 => bnd (m_ref02_Decode l1) fun r1 => bif (r1.2.2.2 != 0) then (some (.done (.inl ([], 0, r1.2.2.2)))) else (bif r1.2.2.1 then (some (.done (.inl (s1.1, IntKind.wrap .i64 (s1.2 + r1.2.1), 0)))) else (bif ((s1.1.length : Int) == 16) then (some (.done (.inl ([], 0, 3)))) else (bnd (app 24 s1.1 [r1.1]) fun l2 => some (.next (l2, IntKind.wrap .i64 (s1.2 + r1.2.1))))))) ([], 0)) fun o1 => retOr o1 fun o2 => none

theorem c_ref02_DecodeList {b_p0 : (List Int)} {A1 : Option Addr} {c1 : Nat} {r : ((List T_Field) × Int × Int)} (h : m_ref02_DecodeList b_p0 = some r) :
    Fun Tryd.prog 33 [.slice A1 b_p0.length c1] [.ro (SlL eu8 A1 c1 b_p0)] (fun v_ F_ => ∃ (A1 : Option Addr) (c1 : Nat), v_ = .tuple #[.slice A1 r.1.length c1, .int .i64 r.2.1, .int .i64 r.2.2] ∧ F_ = [.res (OwnL e_Field 23 A1 c1 r.1)]) := by
  unfold m_ref02_DecodeList at h
  refine Fun.intro Tryd.func33 rfl rfl rfl fun w R => ?_
  refine St.seq ?_
  refine St.region ?_
  iterate 3 refine St.p rfl rfl ?_
  refine St.done ?_
  refine St.thenN ?_
  refine St.prune (Γ' := [(0, _)]) ⟨rfl, trivial⟩ (.k .z) ?_
  refine St.seq ?_
  refine St.region ?_
  refine St.p rfl rfl ?_
  refine St.done ?_
  refine St.thenN ?_
  refine St.seq ?_
  refine St.region ?_
  refine St.p rfl rfl ?_
  refine St.done ?_
  refine St.thenN ?_
  refine St.asrt (fun _ w => w.nilL e_Field 23) ?_
  obtain ⟨o1, hl1, h⟩ := bnd_e h
  refine St.selfThen ?_
  refine St.cutI (fun (o2 : Unit) (e2 : Unit) => []) (fun o2 e2 => R) (fun o2 => o1 = .inr o2) ?_ ?_
  · refine St.block ?_
    refine St.loop hl1 (fun (s1 : List T_Field × Int) (e1 : Option Addr × Nat) => [(0, .slice A1 b_p0.length c1), (5, .slice e1.1 s1.1.length e1.2), (6, .int .i64 s1.2)]) (fun s1 e1 => .res (OwnL e_Field 23 e1.1 e1.2 s1.1) :: .ro (SlL eu8 A1 c1 b_p0) :: R) (fun _ _ => True) (none, 0) trivial ⟨rfl, rfl, rfl, trivial⟩ (fun _ w => ((.k (.k .z)) : Keep _ _).sat w) ?_
    rintro s1 ⟨A2, c2⟩ - hit1
    obtain ⟨st1, hm1, hd1⟩ := iter_e hit1
    have h1 := hm1
    refine St.block ?_
    refine St.seq ?_
    refine St.region ?_
    refine St.p rfl rfl ?_
    refine St.p rfl rfl ?_
    obtain ⟨l1, hl1, h1⟩ := bnd_e h1
    refine St.sub (E := (cod eu8)) rfl rfl (.tail _ (.head _)) rfl rfl rfl rfl rfl rfl rfl hl1 fun A3 c3 => ?_
    obtain ⟨r1, hr1, h1⟩ := bnd_e h1
    refine St.callV (c_ref02_Decode hr1) ent28 rfl rfl rfl rfl ⟨(.head _), trivial⟩ ?_
    iterate 5 refine St.p rfl rfl ?_
    refine St.alloc rfl rfl fun g1 => ?_
    refine St.store 0 rfl rfl rfl rfl rfl rfl .z rfl ?_
    iterate 3 refine St.p rfl rfl ?_
    refine St.done ?_
    refine St.thenN ?_
    refine St.prune (Γ' := [(0, _), (5, _), (6, _), (7, _), (8, _), (9, _), (10, _)]) ⟨rfl, rfl, rfl, rfl, rfl, rfl, rfl, trivial⟩ (.k (.d (.k (.k .z)))) ?_
    refine St.seq ?_
    refine St.seq ?_
    refine St.region ?_
    refine St.p rfl rfl ?_
    refine St.p rfl rfl ?_
    refine St.done ?_
    refine St.thenN ?_
    refine St.prune (Γ' := [(0, _), (5, _), (6, _), (7, _), (8, _), (9, _), (10, _), (21, _)]) ⟨rfl, rfl, rfl, rfl, rfl, rfl, rfl, rfl, trivial⟩ (.k (.k (.k .z))) ?_
    refine St.cond _ rfl (fun hb1 => ?_) (fun hb1 => ?_)
    · replace h1 := bif_t hb1 h1
      refine St.seq ?_
      refine St.region ?_
      iterate 4 refine St.p rfl rfl ?_
      refine St.done ?_
      refine St.thenN ?_
      refine St.prune (Γ' := [(2, _), (3, _), (4, _)]) ⟨rfl, rfl, rfl, trivial⟩ (.d (.d (.d .z))) ?_
      refine St.ret ?_
      repeat (first | refine St.thenR ?_ | refine St.blkR ?_)
      refine St.asrt (fun _ w => w.nilL e_Field 23) ?_
      injection h1 with h1
      subst h1
      have ho := hd1 _ rfl
      subst ho
      have h : some _ = some _ := h
      injection h with h
      subst h
      exact St.finR Tryd.results33 (.tmp rfl (.tmp rfl (.tmp rfl .nil))) rfl [.res (OwnL e_Field 23 none 0 ([] : List T_Field))] ⟨none, 0, rfl, rfl⟩ (fun _ w => ((.k .z) : Keep _ _).sat w)
    · replace h1 := bif_f hb1 h1
      refine St.skip ?_
      refine St.thenN ?_
      refine St.prune (Γ' := [(0, _), (5, _), (6, _), (7, _), (8, _), (9, _)]) ⟨rfl, rfl, rfl, rfl, rfl, rfl, trivial⟩ (.k (.k (.k .z))) ?_
      refine St.seq ?_
      refine St.region ?_
      iterate 4 refine St.p rfl rfl ?_
      refine St.done ?_
      refine St.thenN ?_
      refine St.prune (Γ' := [(0, _), (5, _), (6, _), (7, _), (9, _)]) ⟨rfl, rfl, rfl, rfl, rfl, trivial⟩ (.k (.k (.k .z))) ?_
      refine St.seq ?_
      refine St.seq ?_
      refine St.region ?_
      refine St.p rfl rfl ?_
      refine St.done ?_
      refine St.thenN ?_
      refine St.prune (Γ' := [(0, _), (5, _), (6, _), (7, _), (26, _)]) ⟨rfl, rfl, rfl, rfl, rfl, trivial⟩ (.k (.k (.k .z))) ?_
      refine St.cond _ rfl (fun hb2 => ?_) (fun hb2 => ?_)
      · replace h1 := bif_t hb2 h1
        refine St.seq ?_
        refine St.region ?_
        iterate 5 refine St.p rfl rfl ?_
        refine St.done ?_
        refine St.thenN ?_
        refine St.prune (Γ' := [(2, _), (3, _), (4, _)]) ⟨rfl, rfl, rfl, trivial⟩ (.d (.k (.d .z))) ?_
        refine St.ret ?_
        repeat (first | refine St.thenR ?_ | refine St.blkR ?_)
        injection h1 with h1
        subst h1
        have ho := hd1 _ rfl
        subst ho
        have h : some _ = some _ := h
        injection h with h
        subst h
        exact St.finR Tryd.results33 (.tmp rfl (.tmp rfl (.tmp rfl .nil))) rfl [.res (OwnL e_Field 23 A2 c2 s1.1)] ⟨A2, c2, rfl, rfl⟩ (fun _ w => ((.k .z) : Keep _ _).sat w)
      · replace h1 := bif_f hb2 h1
        refine St.skip ?_
        refine St.thenN ?_
        refine St.prune (Γ' := [(0, _), (5, _), (6, _), (7, _)]) ⟨rfl, rfl, rfl, rfl, trivial⟩ (.k (.k (.k .z))) ?_
        refine St.seq ?_
        refine St.seq ?_
        refine St.region ?_
        iterate 3 refine St.p rfl rfl ?_
        refine St.done ?_
        refine St.thenN ?_
        refine St.prune (Γ' := [(0, _), (5, _), (6, _), (7, _), (31, _)]) ⟨rfl, rfl, rfl, rfl, rfl, trivial⟩ (.k (.k (.k .z))) ?_
        refine St.cond _ rfl (fun hb3 => ?_) (fun hb3 => ?_)
        · replace h1 := bif_t hb3 h1
          refine St.seq ?_
          refine St.region ?_
          iterate 3 refine St.p rfl rfl ?_
          refine St.done ?_
          refine St.thenN ?_
          refine St.prune (Γ' := [(2, _), (3, _), (4, _)]) ⟨rfl, rfl, rfl, trivial⟩ (.d (.d (.d .z))) ?_
          refine St.ret ?_
          repeat (first | refine St.thenR ?_ | refine St.blkR ?_)
          refine St.asrt (fun _ w => w.nilL e_Field 23) ?_
          injection h1 with h1
          subst h1
          have ho := hd1 _ rfl
          subst ho
          have h : some _ = some _ := h
          injection h with h
          subst h
          exact St.finR Tryd.results33 (.tmp rfl (.tmp rfl (.tmp rfl .nil))) rfl [.res (OwnL e_Field 23 none 0 ([] : List T_Field))] ⟨none, 0, rfl, rfl⟩ (fun _ w => ((.k .z) : Keep _ _).sat w)
        · replace h1 := bif_f hb3 h1
          refine St.skip ?_
          refine St.thenN ?_
          refine St.prune (Γ' := [(0, _), (5, _), (6, _), (7, _)]) ⟨rfl, rfl, rfl, rfl, trivial⟩ (.k (.k (.k .z))) ?_
          refine St.region ?_
          refine St.p rfl rfl ?_
          refine St.loadB 0 rfl rfl (.head _) rfl rfl ?_
          refine St.buildSlice rfl rfl rfl rfl rfl rfl rfl rfl fun g2 => ?_
          obtain ⟨l2, hl2, h1⟩ := bnd_e h1
          refine St.app (E := e_Field) hl2 rfl rfl rfl (.s (.s .z)) rfl rfl rfl rfl rfl rfl rfl rfl (srcB (.head _) rfl rfl) rfl rfl fun A4 c4 => ?_
          refine St.p rfl rfl ?_
          refine St.done ?_
          refine St.blkN ?_
          injection h1 with h1
          subst h1
          refine St.thenN ?_
          exact St.again _ (A4, c4) hm1 trivial ⟨rfl, rfl, rfl, trivial⟩ (fun _ w => ((.k (.d (.d (.k .z)))) : Keep _ _).sat w)
  · rintro o2 e2 ho
    subst ho
    have h : _ = some _ := h
    have h : none = some _ := h
    cases h

theorem ent10 : Ent Tryd.prog 10 := ⟨_, Tryd.func10, by kernel_rfl, by kernel_rfl⟩

noncomputable def m_law02_FieldsLists (l_p0 : (List T_Field)) (b_p1 : (List Int)) : Option Bool :=
  bnd ((bif decide ((l_p0.length : Int) > 30) then (some true) else (some (decide ((b_p1.length : Int) > 600))) : Option Bool)) fun o1 => bif o1 then (bnd (m_law02_awake) fun r1 => some r1) else (bnd (loopM (τ := Bool ⊕ Unit) (fun (s1 : Int) => bif decide (s1 < (l_p0.length : Int)) then (bnd (elt l_p0 s1) fun x1 => bif decide ((x1.Value.size : Int) > 200) then (bnd (m_law02_awake) fun r2 => some (.done (.inl r2))) else (some (.next (IntKind.wrap .i64 (s1 + 1))))) else (some (.done (.inr ())))) 0) fun o2 => retOr o2 fun o3 => bnd (m_fields_EncodeList l_p0) fun r3 => bnd (m_ref02_EncodeList l_p0) fun r4 => bnd (m_fields_DecodeList b_p1) fun r5 => bnd (m_ref02_DecodeList b_p1) fun r6 => bnd ((bif (r3.2 == r4.2) then (bnd (m_ref01_Same r3.1 r4.1) fun r7 => bif r7 then (bif (r5.2.2 == r6.2.2) then (bif (r5.2.1 == r6.2.1) then (bnd (m_ref02_SameList r5.1 r6.1) fun r8 => bif r8 then (bnd (m_law02_awake) fun r9 => some r9) else (some false)) else (some false)) else (some false)) else (some false)) else (some false) : Option Bool)) fun o4 => some o4)

set_option maxHeartbeats 4000000 in
theorem c_law02_FieldsLists {l_p0 : (List T_Field)} {b_p1 : (List Int)} {A1 : Option Addr} {c1 : Nat} {A2 : Option Addr} {c2 : Nat} {r : Bool} (h : m_law02_FieldsLists l_p0 b_p1 = some r) :
    Fun Tryd.prog 10 [.slice A1 l_p0.length c1, .slice A2 b_p1.length c2] [.ro (SlL e_Field A1 c1 l_p0), .ro (SlL eu8 A2 c2 b_p1)] (Val (.bool r)) := by
  unfold m_law02_FieldsLists at h
  refine Fun.intro Tryd.func10 rfl rfl rfl fun w R => ?_
  refine St.seq ?_
  refine St.region ?_
  refine St.p rfl rfl ?_
  refine St.done ?_
  refine St.thenN ?_
  refine St.prune (Γ' := [(0, _), (1, _)]) ⟨rfl, rfl, trivial⟩ (.k (.k .z)) ?_
  refine St.seq ?_
  refine St.seq ?_
  obtain ⟨o1, hj1, h⟩ := bnd_e h
  refine St.cutE (fun (e1 : Unit) => [(0, .slice A1 l_p0.length c1), (1, .slice A2 b_p1.length c2), (23, .bool o1)]) (fun e1 => .ro (SlL e_Field A1 c1 l_p0) :: .ro (SlL eu8 A2 c2 b_p1) :: R) ?_ ?_
  · refine St.region ?_
    iterate 4 refine St.p rfl rfl ?_
    refine St.gSplit (dj := 19) _ rfl (fun hb1 => ?_) (fun hb1 => ?_)
    · replace hj1 := bif_t hb1 hj1
      refine St.gOff (dj := 19) rfl rfl rfl rfl ?_
      refine St.gOff (dj := 19) rfl rfl rfl rfl ?_
      refine St.gOff (dj := 19) rfl rfl rfl rfl ?_
      refine St.p rfl rfl ?_
      refine St.done ?_
      injection hj1 with hj1
      subst hj1
      refine St.thenN ?_
      exact St.hereE () ⟨rfl, rfl, rfl, trivial⟩ (fun _ w => ((.k (.k .z)) : Keep _ _).sat w)
    · replace hj1 := bif_f hb1 hj1
      refine St.gOn (dj := 19) rfl rfl ?_
      refine St.p rfl rfl ?_
      refine St.gOn (dj := 19) rfl rfl ?_
      refine St.p rfl rfl ?_
      refine St.gOn (dj := 19) rfl rfl ?_
      refine St.p rfl rfl ?_
      refine St.p rfl rfl ?_
      refine St.done ?_
      injection hj1 with hj1
      subst hj1
      refine St.thenN ?_
      exact St.hereE () ⟨rfl, rfl, rfl, trivial⟩ (fun _ w => ((.k (.k .z)) : Keep _ _).sat w)
  · rintro e1
    refine St.cond _ rfl (fun hb2 => ?_) (fun hb2 => ?_)
    · replace h := bif_t hb2 h
      refine St.seq ?_
      refine St.region ?_
      obtain ⟨r1, hr1, h⟩ := bnd_e h
      refine St.callV (c_law02_awake hr1) ent14 rfl rfl rfl rfl trivial ?_
      refine St.p rfl rfl ?_
      refine St.done ?_
      refine St.thenN ?_
      refine St.prune (Γ' := [(4, _)]) ⟨rfl, trivial⟩ (.d (.d .z)) ?_
      refine St.ret ?_
      repeat (first | refine St.thenR ?_ | refine St.blkR ?_)
      injection h with h
      subst h
      exact St.finR Tryd.results10 (.tmp rfl .nil) rfl [] ⟨rfl, rfl⟩ (fun _ w => (.z : Keep _ _).sat w)
    · replace h := bif_f hb2 h
      refine St.skip ?_
      refine St.thenN ?_
      refine St.prune (Γ' := [(0, _), (1, _)]) ⟨rfl, rfl, trivial⟩ (.k (.k .z)) ?_
      refine St.seq ?_
      refine St.seq ?_
      refine St.region ?_
      refine St.p rfl rfl ?_
      refine St.done ?_
      refine St.thenN ?_
      obtain ⟨o2, hl1, h⟩ := bnd_e h
      refine St.cutI (fun (o3 : Unit) (e3 : Unit) => [(0, .slice A1 l_p0.length c1), (1, .slice A2 b_p1.length c2)]) (fun o3 e3 => .ro (SlL e_Field A1 c1 l_p0) :: .ro (SlL eu8 A2 c2 b_p1) :: R) (fun o3 => o2 = .inr o3) ?_ ?_
      · refine St.block ?_
        refine St.loop hl1 (fun (s1 : Int) (e2 : Unit) => [(0, .slice A1 l_p0.length c1), (1, .slice A2 b_p1.length c2), (5, .int .i64 s1)]) (fun s1 e2 => .ro (SlL e_Field A1 c1 l_p0) :: .ro (SlL eu8 A2 c2 b_p1) :: R) (fun _ _ => True) () trivial ⟨rfl, rfl, rfl, trivial⟩ (fun _ w => ((.k (.k .z)) : Keep _ _).sat w) ?_
        rintro s1 e2 - hit1
        obtain ⟨st1, hm1, hd1⟩ := iter_e hit1
        have h1 := hm1
        refine St.seq ?_
        refine St.seq ?_
        refine St.region ?_
        iterate 4 refine St.p rfl rfl ?_
        refine St.done ?_
        refine St.thenN ?_
        refine St.prune (Γ' := [(0, _), (1, _), (5, _), (28, _)]) ⟨rfl, rfl, rfl, rfl, trivial⟩ (.k (.k .z)) ?_
        refine St.cond _ rfl (fun hb3 => ?_) (fun hb3 => ?_)
        · replace h1 := bif_t hb3 h1
          refine St.skip ?_
          refine St.thenN ?_
          refine St.prune (Γ' := [(0, _), (1, _), (5, _)]) ⟨rfl, rfl, rfl, trivial⟩ (.k (.k .z)) ?_
          refine St.seq ?_
          refine St.block ?_
          refine St.seq ?_
          refine St.region ?_
          refine St.p rfl rfl ?_
          refine St.p rfl rfl ?_
          obtain ⟨x1, hx1, h1⟩ := bnd_e h1
          refine St.ixL hx1 rfl rfl rfl (.head _) rfl rfl rfl rfl rfl fun b1 ob1 => ?_
          refine St.p rfl rfl ?_
          refine St.load ob1 1 rfl rfl (.head _) rfl rfl ?_
          refine St.p rfl rfl ?_
          refine St.p rfl rfl ?_
          refine St.done ?_
          refine St.thenN ?_
          refine St.prune (Γ' := [(0, _), (1, _), (5, _), (37, _)]) ⟨rfl, rfl, rfl, rfl, trivial⟩ (.d (.k (.k .z))) ?_
          refine St.cond _ rfl (fun hb4 => ?_) (fun hb4 => ?_)
          · replace h1 := bif_t hb4 h1
            refine St.seq ?_
            refine St.region ?_
            obtain ⟨r2, hr2, h1⟩ := bnd_e h1
            refine St.callV (c_law02_awake hr2) ent14 rfl rfl rfl rfl trivial ?_
            refine St.p rfl rfl ?_
            refine St.done ?_
            refine St.thenN ?_
            refine St.prune (Γ' := [(4, _)]) ⟨rfl, trivial⟩ (.d (.d .z)) ?_
            refine St.ret ?_
            repeat (first | refine St.thenR ?_ | refine St.blkR ?_)
            injection h1 with h1
            subst h1
            have ho := hd1 _ rfl
            subst ho
            have h : some _ = some _ := h
            injection h with h
            subst h
            exact St.finR Tryd.results10 (.tmp rfl .nil) rfl [] ⟨rfl, rfl⟩ (fun _ w => (.z : Keep _ _).sat w)
          · replace h1 := bif_f hb4 h1
            refine St.skip ?_
            refine St.blkN ?_
            refine St.thenN ?_
            refine St.prune (Γ' := [(0, _), (1, _), (5, _)]) ⟨rfl, rfl, rfl, trivial⟩ (.k (.k .z)) ?_
            refine St.region ?_
            iterate 3 refine St.p rfl rfl ?_
            refine St.done ?_
            injection h1 with h1
            subst h1
            refine St.thenN ?_
            exact St.again _ () hm1 trivial ⟨rfl, rfl, rfl, trivial⟩ (fun _ w => ((.k (.k .z)) : Keep _ _).sat w)
        · replace h1 := bif_f hb3 h1
          refine St.exit ?_
          repeat (first | refine St.thenX ?_ | refine St.blkMiss rfl ?_)
          refine St.blkHit ?_
          injection h1 with h1
          subst h1
          have ho := hd1 _ rfl
          subst ho
          refine St.thenN ?_
          exact St.hereI () () rfl ⟨rfl, rfl, trivial⟩ (fun _ w => ((.k (.k .z)) : Keep _ _).sat w)
      · rintro o3 e3 ho
        subst ho
        have h : _ = some _ := h
        refine St.seq ?_
        refine St.region ?_
        refine St.p rfl rfl ?_
        obtain ⟨r3, hr3, h⟩ := bnd_e h
        refine St.call (c_fields_EncodeList hr3) ent30 rfl rfl rfl (fun _ w => Sat.dup (G := [.ro (SlL e_Field A1 c1 l_p0)]) rfl ⟨(.head _), trivial⟩ w) ?_
        rintro _ _ ⟨A3, c3, rfl, rfl⟩
        refine St.asrt (F' := .res (OwnL eu8 5 A3 c3 r3.1) :: .ro (SlL e_Field A1 c1 l_p0) :: .ro (SlL eu8 A2 c2 b_p1) :: R) (fun _ w => w) ?_
        iterate 5 refine St.p rfl rfl ?_
        refine St.done ?_
        refine St.thenN ?_
        refine St.prune (Γ' := [(0, _), (1, _), (6, _), (7, _)]) ⟨rfl, rfl, rfl, rfl, trivial⟩ (.k (.k (.k .z))) ?_
        refine St.seq ?_
        refine St.region ?_
        refine St.p rfl rfl ?_
        obtain ⟨r4, hr4, h⟩ := bnd_e h
        refine St.call (c_ref02_EncodeList hr4) ent31 rfl rfl rfl (fun _ w => Sat.dup (G := [.ro (SlL e_Field A1 c1 l_p0)]) rfl ⟨(.tail _ (.head _)), trivial⟩ w) ?_
        rintro _ _ ⟨A4, c4, rfl, rfl⟩
        refine St.asrt (F' := .res (OwnL eu8 5 A4 c4 r4.1) :: .res (OwnL eu8 5 A3 c3 r3.1) :: .ro (SlL e_Field A1 c1 l_p0) :: .ro (SlL eu8 A2 c2 b_p1) :: R) (fun _ w => w) ?_
        iterate 5 refine St.p rfl rfl ?_
        refine St.done ?_
        refine St.thenN ?_
        refine St.prune (Γ' := [(1, _), (6, _), (7, _), (8, _), (9, _)]) ⟨rfl, rfl, rfl, rfl, rfl, trivial⟩ (.k (.k (.d (.k .z)))) ?_
        refine St.seq ?_
        refine St.region ?_
        refine St.p rfl rfl ?_
        obtain ⟨r5, hr5, h⟩ := bnd_e h
        refine St.call (c_fields_DecodeList hr5) ent32 rfl rfl rfl (fun _ w => Sat.dup (G := [.ro (SlL eu8 A2 c2 b_p1)]) rfl ⟨(.tail _ (.tail _ (.head _))), trivial⟩ w) ?_
        rintro _ _ ⟨A5, c5, rfl, rfl⟩
        refine St.asrt (F' := .res (OwnL e_Field 23 A5 c5 r5.1) :: .res (OwnL eu8 5 A4 c4 r4.1) :: .res (OwnL eu8 5 A3 c3 r3.1) :: .ro (SlL eu8 A2 c2 b_p1) :: R) (fun _ w => w) ?_
        iterate 7 refine St.p rfl rfl ?_
        refine St.done ?_
        refine St.thenN ?_
        refine St.prune (Γ' := [(1, _), (6, _), (7, _), (8, _), (9, _), (10, _), (11, _), (12, _)]) ⟨rfl, rfl, rfl, rfl, rfl, rfl, rfl, rfl, trivial⟩ (.k (.k (.k (.k .z)))) ?_
        refine St.seq ?_
        refine St.region ?_
        refine St.p rfl rfl ?_
        obtain ⟨r6, hr6, h⟩ := bnd_e h
        refine St.call (c_ref02_DecodeList hr6) ent33 rfl rfl rfl (fun _ w => Sat.dup (G := [.ro (SlL eu8 A2 c2 b_p1)]) rfl ⟨(.tail _ (.tail _ (.tail _ (.head _)))), trivial⟩ w) ?_
        rintro _ _ ⟨A6, c6, rfl, rfl⟩
        refine St.asrt (F' := .res (OwnL e_Field 23 A6 c6 r6.1) :: .res (OwnL e_Field 23 A5 c5 r5.1) :: .res (OwnL eu8 5 A4 c4 r4.1) :: .res (OwnL eu8 5 A3 c3 r3.1) :: .ro (SlL eu8 A2 c2 b_p1) :: R) (fun _ w => w) ?_
        iterate 7 refine St.p rfl rfl ?_
        refine St.done ?_
        refine St.thenN ?_
        refine St.prune (Γ' := [(6, _), (7, _), (8, _), (9, _), (10, _), (11, _), (12, _), (13, _), (14, _), (15, _)]) ⟨rfl, rfl, rfl, rfl, rfl, rfl, rfl, rfl, rfl, rfl, trivial⟩ (.k (.k (.k (.k (.d .z))))) ?_
        refine St.seq ?_
        obtain ⟨o4, hj2, h⟩ := bnd_e h
        refine St.cutE (fun (e4 : Unit) => [(4, .bool o4)]) (fun e4 => R) ?_ ?_
        · refine St.region ?_
          iterate 4 refine St.p rfl rfl ?_
          refine St.gSplit (dj := 64) _ rfl (fun hb5 => ?_) (fun hb5 => ?_)
          · replace hj2 := bif_t hb5 hj2
            refine St.gOn (dj := 64) rfl rfl ?_
            refine St.p rfl rfl ?_
            refine St.gOn (dj := 64) rfl rfl ?_
            refine St.p rfl rfl ?_
            refine St.gOn (dj := 64) rfl rfl ?_
            refine St.asrt (fun _ w => (w.front (.s (.s (.s .z)))).meltL) ?_
            refine St.asrt (fun _ w => (w.front (.s (.s (.s .z)))).meltL) ?_
            obtain ⟨r7, hr7, hj2⟩ := bnd_e hj2
            refine St.callV (c_ref01_Same hr7) ent21 rfl rfl rfl rfl ⟨(.tail _ (.head _)), (.head _), trivial⟩ ?_
            refine St.p rfl rfl ?_
            refine St.p rfl rfl ?_
            refine St.gSplit (dj := 69) _ rfl (fun hb6 => ?_) (fun hb6 => ?_)
            · replace hj2 := bif_t hb6 hj2
              refine St.gOn (dj := 69) rfl rfl ?_
              refine St.p rfl rfl ?_
              refine St.gOn (dj := 69) rfl rfl ?_
              refine St.p rfl rfl ?_
              refine St.gOn (dj := 69) rfl rfl ?_
              iterate 3 refine St.p rfl rfl ?_
              refine St.gSplit (dj := 74) _ rfl (fun hb7 => ?_) (fun hb7 => ?_)
              · replace hj2 := bif_t hb7 hj2
                refine St.gOn (dj := 74) rfl rfl ?_
                refine St.p rfl rfl ?_
                refine St.gOn (dj := 74) rfl rfl ?_
                refine St.p rfl rfl ?_
                refine St.gOn (dj := 74) rfl rfl ?_
                iterate 3 refine St.p rfl rfl ?_
                refine St.gSplit (dj := 79) _ rfl (fun hb8 => ?_) (fun hb8 => ?_)
                · replace hj2 := bif_t hb8 hj2
                  refine St.gOn (dj := 79) rfl rfl ?_
                  refine St.p rfl rfl ?_
                  refine St.gOn (dj := 79) rfl rfl ?_
                  refine St.p rfl rfl ?_
                  refine St.gOn (dj := 79) rfl rfl ?_
                  refine St.asrt (fun _ w => (w.front (.s (.s (.s .z)))).meltL) ?_
                  refine St.asrt (fun _ w => (w.front (.s (.s (.s .z)))).meltL) ?_
                  obtain ⟨r8, hr8, hj2⟩ := bnd_e hj2
                  refine St.callV (c_ref02_SameList hr8) ent34 rfl rfl rfl rfl ⟨(.tail _ (.head _)), (.head _), trivial⟩ ?_
                  refine St.p rfl rfl ?_
                  refine St.p rfl rfl ?_
                  refine St.gSplit (dj := 84) _ rfl (fun hb9 => ?_) (fun hb9 => ?_)
                  · replace hj2 := bif_t hb9 hj2
                    refine St.gOn (dj := 84) rfl rfl ?_
                    obtain ⟨r9, hr9, hj2⟩ := bnd_e hj2
                    refine St.callV (c_law02_awake hr9) ent14 rfl rfl rfl rfl trivial ?_
                    refine St.p rfl rfl ?_
                    refine St.p rfl rfl ?_
                    refine St.done ?_
                    injection hj2 with hj2
                    subst hj2
                    refine St.thenN ?_
                    exact St.hereE () ⟨rfl, trivial⟩ (fun _ w => ((.d (.d (.d (.d .z)))) : Keep _ _).sat w)
                  · replace hj2 := bif_f hb9 hj2
                    refine St.gOff (dj := 84) rfl rfl rfl rfl ?_
                    refine St.p rfl rfl ?_
                    refine St.p rfl rfl ?_
                    refine St.done ?_
                    injection hj2 with hj2
                    subst hj2
                    refine St.thenN ?_
                    exact St.hereE () ⟨rfl, trivial⟩ (fun _ w => ((.d (.d (.d (.d .z)))) : Keep _ _).sat w)
                · replace hj2 := bif_f hb8 hj2
                  refine St.gOff (dj := 79) rfl rfl rfl rfl ?_
                  refine St.gOff (dj := 79) rfl rfl rfl rfl ?_
                  refine St.gOff (dj := 79) rfl rfl rfl rfl ?_
                  refine St.p rfl rfl ?_
                  refine St.p rfl rfl ?_
                  refine St.gOff (dj := 84) rfl rfl rfl rfl ?_
                  refine St.p rfl rfl ?_
                  refine St.p rfl rfl ?_
                  refine St.done ?_
                  injection hj2 with hj2
                  subst hj2
                  refine St.thenN ?_
                  exact St.hereE () ⟨rfl, trivial⟩ (fun _ w => ((.d (.d (.d (.d .z)))) : Keep _ _).sat w)
              · replace hj2 := bif_f hb7 hj2
                refine St.gOff (dj := 74) rfl rfl rfl rfl ?_
                refine St.gOff (dj := 74) rfl rfl rfl rfl ?_
                refine St.gOff (dj := 74) rfl rfl rfl rfl ?_
                refine St.p rfl rfl ?_
                refine St.p rfl rfl ?_
                refine St.gOff (dj := 79) rfl rfl rfl rfl ?_
                refine St.gOff (dj := 79) rfl rfl rfl rfl ?_
                refine St.gOff (dj := 79) rfl rfl rfl rfl ?_
                refine St.p rfl rfl ?_
                refine St.p rfl rfl ?_
                refine St.gOff (dj := 84) rfl rfl rfl rfl ?_
                refine St.p rfl rfl ?_
                refine St.p rfl rfl ?_
                refine St.done ?_
                injection hj2 with hj2
                subst hj2
                refine St.thenN ?_
                exact St.hereE () ⟨rfl, trivial⟩ (fun _ w => ((.d (.d (.d (.d .z)))) : Keep _ _).sat w)
            · replace hj2 := bif_f hb6 hj2
              refine St.gOff (dj := 69) rfl rfl rfl rfl ?_
              refine St.gOff (dj := 69) rfl rfl rfl rfl ?_
              refine St.gOff (dj := 69) rfl rfl rfl rfl ?_
              refine St.p rfl rfl ?_
              refine St.p rfl rfl ?_
              refine St.gOff (dj := 74) rfl rfl rfl rfl ?_
              refine St.gOff (dj := 74) rfl rfl rfl rfl ?_
              refine St.gOff (dj := 74) rfl rfl rfl rfl ?_
              refine St.p rfl rfl ?_
              refine St.p rfl rfl ?_
              refine St.gOff (dj := 79) rfl rfl rfl rfl ?_
              refine St.gOff (dj := 79) rfl rfl rfl rfl ?_
              refine St.gOff (dj := 79) rfl rfl rfl rfl ?_
              refine St.p rfl rfl ?_
              refine St.p rfl rfl ?_
              refine St.gOff (dj := 84) rfl rfl rfl rfl ?_
              refine St.p rfl rfl ?_
              refine St.p rfl rfl ?_
              refine St.done ?_
              injection hj2 with hj2
              subst hj2
              refine St.thenN ?_
              exact St.hereE () ⟨rfl, trivial⟩ (fun _ w => ((.d (.d (.d (.d .z)))) : Keep _ _).sat w)
          · replace hj2 := bif_f hb5 hj2
            refine St.gOff (dj := 64) rfl rfl rfl rfl ?_
            refine St.gOff (dj := 64) rfl rfl rfl rfl ?_
            refine St.gOff (dj := 64) rfl rfl rfl rfl ?_
            refine St.p rfl rfl ?_
            refine St.p rfl rfl ?_
            refine St.gOff (dj := 69) rfl rfl rfl rfl ?_
            refine St.gOff (dj := 69) rfl rfl rfl rfl ?_
            refine St.gOff (dj := 69) rfl rfl rfl rfl ?_
            refine St.p rfl rfl ?_
            refine St.p rfl rfl ?_
            refine St.gOff (dj := 74) rfl rfl rfl rfl ?_
            refine St.gOff (dj := 74) rfl rfl rfl rfl ?_
            refine St.gOff (dj := 74) rfl rfl rfl rfl ?_
            refine St.p rfl rfl ?_
            refine St.p rfl rfl ?_
            refine St.gOff (dj := 79) rfl rfl rfl rfl ?_
            refine St.gOff (dj := 79) rfl rfl rfl rfl ?_
            refine St.gOff (dj := 79) rfl rfl rfl rfl ?_
            refine St.p rfl rfl ?_
            refine St.p rfl rfl ?_
            refine St.gOff (dj := 84) rfl rfl rfl rfl ?_
            refine St.p rfl rfl ?_
            refine St.p rfl rfl ?_
            refine St.done ?_
            injection hj2 with hj2
            subst hj2
            refine St.thenN ?_
            exact St.hereE () ⟨rfl, trivial⟩ (fun _ w => ((.d (.d (.d (.d .z)))) : Keep _ _).sat w)
        · rintro e4
          refine St.ret ?_
          repeat (first | refine St.thenR ?_ | refine St.blkR ?_)
          injection h with h
          subst h
          exact St.finR Tryd.results10 (.tmp rfl .nil) rfl [] ⟨rfl, rfl⟩ (fun _ w => (.z : Keep _ _).sat w)

end Go.Proofs.YtfddmgagikeieaaDoor
