/-
  Models of functions of the program, and that the functions compute them.
  Conditions: none.
-/
import Derived.Test.YtgnmhmnglbbamaaGen
namespace Go.Proofs.Ytgnmhmnglbbamaa
open Go
set_option linter.unusedVariables false
set_option maxRecDepth 4000

theorem ent8 : Ent Try.prog 8 := ⟨_, Try.func8, by kernel_rfl, by kernel_rfl⟩

noncomputable def m_law28_small (b_p0 : T_Bundle) : Option Bool :=
  bnd (loopM (τ := Int) (fun (s1 : Int × Int) => bnd ((bif decide (s1.2 < (b_p0.Images.length : Int)) then (some (decide (s1.2 < 20))) else (some false) : Option Bool)) fun o2 => bif o2 then (bnd (elt b_p0.Images s1.2) fun x1 => some (.next (IntKind.wrap .i64 (s1.1 + (x1.Data.length : Int)), IntKind.wrap .i64 (s1.2 + 1)))) else (some (.done s1.1))) (0, 0)) fun o1 => bnd ((bif decide ((b_p0.Images.length : Int) ≤ 20) then (bif decide ((b_p0.Needs.length : Int) ≤ 40) then (some (decide (o1 ≤ 9000))) else (some false)) else (some false) : Option Bool)) fun o3 => some o3

theorem c_law28_small {b_p0 : T_Bundle} {A1 : Option Addr} {c1 : Nat} {A2 : Option Addr} {c2 : Nat} {r : Bool} (h : m_law28_small b_p0 = some r) :
    Fun Try.prog 8 [.agg #[.slice A1 b_p0.Images.length c1, .slice A2 b_p0.Needs.length c2]] [.ro (Sl (codL l_T_Image) A1 c1 b_p0.Images), .ro (SlL e_Need A2 c2 b_p0.Needs)] (Val (.bool r)) := by
  unfold m_law28_small at h
  refine Fun.intro Try.func8 rfl rfl rfl fun w R => ?_
  refine St.seq ?_
  refine St.region ?_
  refine St.box rfl rfl fun g1 => ?_
  refine St.p rfl rfl ?_
  refine St.done ?_
  refine St.thenN ?_
  refine St.prune (Γ' := [(1, _)]) ⟨rfl, trivial⟩ (.k (.k (.k .z))) ?_
  refine St.seq ?_
  refine St.region ?_
  refine St.p rfl rfl ?_
  refine St.done ?_
  refine St.thenN ?_
  refine St.seq ?_
  refine St.seq ?_
  refine St.region ?_
  refine St.p rfl rfl ?_
  refine St.done ?_
  refine St.thenN ?_
  obtain ⟨o1, hl1, h⟩ := bnd_e h
  refine St.cutE (fun (e2 : Unit) => [(1, .pointer (some ⟨g1, 0, none⟩)), (3, .int .i64 o1)]) (fun e2 => .res (Box g1 26 [.slice A1 b_p0.Images.length c1, .slice A2 b_p0.Needs.length c2]) :: .ro (Sl (codL l_T_Image) A1 c1 b_p0.Images) :: .ro (SlL e_Need A2 c2 b_p0.Needs) :: R) ?_ ?_
  · refine St.block ?_
    refine St.loop hl1 (fun (s1 : Int × Int) (e1 : Unit) => [(1, .pointer (some ⟨g1, 0, none⟩)), (3, .int .i64 s1.1), (4, .int .i64 s1.2)]) (fun s1 e1 => .res (Box g1 26 [.slice A1 b_p0.Images.length c1, .slice A2 b_p0.Needs.length c2]) :: .ro (Sl (codL l_T_Image) A1 c1 b_p0.Images) :: .ro (SlL e_Need A2 c2 b_p0.Needs) :: R) (fun _ _ => True) () trivial ⟨rfl, rfl, rfl, trivial⟩ (fun _ w => ((.k (.k (.k .z))) : Keep _ _).sat w) ?_
    rintro s1 e1 - hit1
    obtain ⟨st1, hm1, hd1⟩ := iter_e hit1
    have h1 := hm1
    refine St.seq ?_
    refine St.seq ?_
    obtain ⟨o2, hj1, h1⟩ := bnd_e h1
    refine St.cutE (fun (e3 : Unit) => [(1, .pointer (some ⟨g1, 0, none⟩)), (3, .int .i64 s1.1), (4, .int .i64 s1.2), (13, .bool o2)]) (fun e3 => .res (Box g1 26 [.slice A1 b_p0.Images.length c1, .slice A2 b_p0.Needs.length c2]) :: .ro (Sl (codL l_T_Image) A1 c1 b_p0.Images) :: .ro (SlL e_Need A2 c2 b_p0.Needs) :: R) ?_ ?_
    · refine St.region ?_
      refine St.p rfl rfl ?_
      refine St.p rfl rfl ?_
      refine St.loadB 0 rfl rfl (.head _) rfl rfl ?_
      iterate 3 refine St.p rfl rfl ?_
      refine St.gSplit (dj := 10) _ rfl (fun hb1 => ?_) (fun hb1 => ?_)
      · replace hj1 := bif_t hb1 hj1
        refine St.gOn (dj := 10) rfl rfl ?_
        refine St.p rfl rfl ?_
        refine St.gOn (dj := 10) rfl rfl ?_
        refine St.p rfl rfl ?_
        refine St.p rfl rfl ?_
        refine St.done ?_
        injection hj1 with hj1
        subst hj1
        refine St.thenN ?_
        exact St.hereE () ⟨rfl, rfl, rfl, rfl, trivial⟩ (fun _ w => ((.k (.k (.k .z))) : Keep _ _).sat w)
      · replace hj1 := bif_f hb1 hj1
        refine St.gOff (dj := 10) rfl rfl rfl rfl ?_
        refine St.gOff (dj := 10) rfl rfl rfl rfl ?_
        refine St.p rfl rfl ?_
        refine St.done ?_
        injection hj1 with hj1
        subst hj1
        refine St.thenN ?_
        exact St.hereE () ⟨rfl, rfl, rfl, rfl, trivial⟩ (fun _ w => ((.k (.k (.k .z))) : Keep _ _).sat w)
    · rintro e3
      refine St.cond _ rfl (fun hb2 => ?_) (fun hb2 => ?_)
      · replace h1 := bif_t hb2 h1
        refine St.skip ?_
        refine St.thenN ?_
        refine St.prune (Γ' := [(1, _), (3, _), (4, _)]) ⟨rfl, rfl, rfl, trivial⟩ (.k (.k (.k .z))) ?_
        refine St.seq ?_
        refine St.block ?_
        refine St.region ?_
        refine St.p rfl rfl ?_
        refine St.p rfl rfl ?_
        refine St.loadB 0 rfl rfl (.head _) rfl rfl ?_
        refine St.p rfl rfl ?_
        obtain ⟨x1, hx1, h1⟩ := bnd_e h1
        refine St.ixN hx1 rfl rfl rfl (.tail _ (.head _)) rfl rfl rfl rfl rfl fun b1 ob1 ex1 => ?_
        obtain ⟨⟨A3, c3⟩, _⟩ := ex1
        refine St.asrt (F' := .ro (Cells b1 ob1 (bx_T_Image x1 A3 c3)) :: .ro (SlL eu8 A3 c3 x1.Data) :: .res (Box g1 26 [.slice A1 b_p0.Images.length c1, .slice A2 b_p0.Needs.length c2]) :: .ro (Sl (codL l_T_Image) A1 c1 b_p0.Images) :: .ro (SlL e_Need A2 c2 b_p0.Needs) :: R) (fun _ w => w) ?_
        refine St.p rfl rfl ?_
        refine St.load ob1 4 rfl rfl (.head _) rfl rfl ?_
        iterate 3 refine St.p rfl rfl ?_
        refine St.done ?_
        refine St.blkN ?_
        refine St.thenN ?_
        refine St.prune (Γ' := [(1, _), (3, _), (4, _)]) ⟨rfl, rfl, rfl, trivial⟩ (.d (.d (.k (.k (.k .z))))) ?_
        refine St.region ?_
        iterate 3 refine St.p rfl rfl ?_
        refine St.done ?_
        injection h1 with h1
        subst h1
        refine St.thenN ?_
        exact St.again _ () hm1 trivial ⟨rfl, rfl, rfl, trivial⟩ (fun _ w => ((.k (.k (.k .z))) : Keep _ _).sat w)
      · replace h1 := bif_f hb2 h1
        refine St.exit ?_
        repeat (first | refine St.thenX ?_ | refine St.blkMiss rfl ?_)
        refine St.blkHit ?_
        injection h1 with h1
        subst h1
        have ho := hd1 _ rfl
        subst ho
        refine St.thenN ?_
        exact St.hereE () ⟨rfl, rfl, trivial⟩ (fun _ w => ((.k (.k (.k .z))) : Keep _ _).sat w)
  · rintro e2
    refine St.seq ?_
    obtain ⟨o3, hj2, h⟩ := bnd_e h
    refine St.cutE (fun (e4 : Unit) => [(2, .bool o3)]) (fun e4 => R) ?_ ?_
    · refine St.region ?_
      refine St.p rfl rfl ?_
      refine St.loadB 0 rfl rfl (.head _) rfl rfl ?_
      iterate 3 refine St.p rfl rfl ?_
      refine St.gSplit (dj := 29) _ rfl (fun hb3 => ?_) (fun hb3 => ?_)
      · replace hj2 := bif_t hb3 hj2
        refine St.gOn (dj := 29) rfl rfl ?_
        refine St.p rfl rfl ?_
        refine St.gOn (dj := 29) rfl rfl ?_
        refine St.loadB 1 rfl rfl (.head _) rfl rfl ?_
        refine St.gOn (dj := 29) rfl rfl ?_
        refine St.p rfl rfl ?_
        refine St.gOn (dj := 29) rfl rfl ?_
        iterate 3 refine St.p rfl rfl ?_
        refine St.gSplit (dj := 35) _ rfl (fun hb4 => ?_) (fun hb4 => ?_)
        · replace hj2 := bif_t hb4 hj2
          refine St.gOn (dj := 35) rfl rfl ?_
          refine St.p rfl rfl ?_
          refine St.gOn (dj := 35) rfl rfl ?_
          iterate 3 refine St.p rfl rfl ?_
          refine St.done ?_
          injection hj2 with hj2
          subst hj2
          refine St.thenN ?_
          exact St.hereE () ⟨rfl, trivial⟩ (fun _ w => ((.d (.d (.d .z))) : Keep _ _).sat w)
        · replace hj2 := bif_f hb4 hj2
          refine St.gOff (dj := 35) rfl rfl rfl rfl ?_
          refine St.gOff (dj := 35) rfl rfl rfl rfl ?_
          refine St.p rfl rfl ?_
          refine St.p rfl rfl ?_
          refine St.done ?_
          injection hj2 with hj2
          subst hj2
          refine St.thenN ?_
          exact St.hereE () ⟨rfl, trivial⟩ (fun _ w => ((.d (.d (.d .z))) : Keep _ _).sat w)
      · replace hj2 := bif_f hb3 hj2
        refine St.gOff (dj := 29) rfl rfl rfl rfl ?_
        refine St.gOff (dj := 29) rfl rfl rfl rfl ?_
        refine St.gOff (dj := 29) rfl rfl rfl rfl ?_
        refine St.gOff (dj := 29) rfl rfl rfl rfl ?_
        refine St.p rfl rfl ?_
        refine St.p rfl rfl ?_
        refine St.gOff (dj := 35) rfl rfl rfl rfl ?_
        refine St.gOff (dj := 35) rfl rfl rfl rfl ?_
        refine St.p rfl rfl ?_
        refine St.p rfl rfl ?_
        refine St.done ?_
        injection hj2 with hj2
        subst hj2
        refine St.thenN ?_
        exact St.hereE () ⟨rfl, trivial⟩ (fun _ w => ((.d (.d (.d .z))) : Keep _ _).sat w)
    · rintro e4
      refine St.ret ?_
      repeat (first | refine St.thenR ?_ | refine St.blkR ?_)
      injection h with h
      subst h
      exact St.finR Try.results8 (.tmp rfl .nil) rfl [] ⟨rfl, rfl⟩ (fun _ w => (.z : Keep _ _).sat w)

theorem ent16 : Ent Try.prog 16 := ⟨_, Try.func16, by kernel_rfl, by kernel_rfl⟩

noncomputable def m_ref28_Find (b_p0 : T_Bundle) (s_p1 : ByteArray) : Option Int :=
  bnd (loopM (τ := Int ⊕ Unit) (fun (s1 : Int) => bif decide (s1 < (b_p0.Images.length : Int)) then (bnd (elt b_p0.Images s1) fun x1 => bif (x1.Name.toList == s_p1.toList) then (some (.done (.inl s1))) else (some (.next (IntKind.wrap .i64 (s1 + 1))))) else (some (.done (.inr ())))) 0) fun o1 => retOr o1 fun o2 => some (-1)

theorem c_ref28_Find {b_p0 : T_Bundle} {s_p1 : ByteArray} {A1 : Option Addr} {c1 : Nat} {A2 : Option Addr} {c2 : Nat} {r : Int} (h : m_ref28_Find b_p0 s_p1 = some r) :
    Fun Try.prog 16 [.agg #[.slice A1 b_p0.Images.length c1, .slice A2 b_p0.Needs.length c2], .string s_p1] [.ro (Sl (codL l_T_Image) A1 c1 b_p0.Images), .ro (SlL e_Need A2 c2 b_p0.Needs)] (Val (.int .i64 r)) := by
  unfold m_ref28_Find at h
  refine Fun.intro Try.func16 rfl rfl rfl fun w R => ?_
  refine St.seq ?_
  refine St.region ?_
  refine St.box rfl rfl fun g1 => ?_
  refine St.p rfl rfl ?_
  refine St.done ?_
  refine St.thenN ?_
  refine St.prune (Γ' := [(1, _), (2, _)]) ⟨rfl, rfl, trivial⟩ (.k (.k (.k .z))) ?_
  refine St.seq ?_
  refine St.seq ?_
  refine St.region ?_
  refine St.p rfl rfl ?_
  refine St.done ?_
  refine St.thenN ?_
  obtain ⟨o1, hl1, h⟩ := bnd_e h
  refine St.cutI (fun (o2 : Unit) (e2 : Unit) => []) (fun o2 e2 => R) (fun o2 => o1 = .inr o2) ?_ ?_
  · refine St.block ?_
    refine St.loop hl1 (fun (s1 : Int) (e1 : Unit) => [(1, .string s_p1), (2, .pointer (some ⟨g1, 0, none⟩)), (5, .int .i64 s1)]) (fun s1 e1 => .res (Box g1 26 [.slice A1 b_p0.Images.length c1, .slice A2 b_p0.Needs.length c2]) :: .ro (Sl (codL l_T_Image) A1 c1 b_p0.Images) :: .ro (SlL e_Need A2 c2 b_p0.Needs) :: R) (fun _ _ => True) () trivial ⟨rfl, rfl, rfl, trivial⟩ (fun _ w => ((.k (.k (.k .z))) : Keep _ _).sat w) ?_
    rintro s1 e1 - hit1
    obtain ⟨st1, hm1, hd1⟩ := iter_e hit1
    have h1 := hm1
    refine St.seq ?_
    refine St.seq ?_
    refine St.region ?_
    refine St.p rfl rfl ?_
    refine St.p rfl rfl ?_
    refine St.loadB 0 rfl rfl (.head _) rfl rfl ?_
    refine St.p rfl rfl ?_
    refine St.p rfl rfl ?_
    refine St.done ?_
    refine St.thenN ?_
    refine St.prune (Γ' := [(1, _), (2, _), (5, _), (10, _)]) ⟨rfl, rfl, rfl, rfl, trivial⟩ (.k (.k (.k .z))) ?_
    refine St.cond _ rfl (fun hb1 => ?_) (fun hb1 => ?_)
    · replace h1 := bif_t hb1 h1
      refine St.skip ?_
      refine St.thenN ?_
      refine St.prune (Γ' := [(1, _), (2, _), (5, _)]) ⟨rfl, rfl, rfl, trivial⟩ (.k (.k (.k .z))) ?_
      refine St.seq ?_
      refine St.block ?_
      refine St.seq ?_
      refine St.region ?_
      refine St.p rfl rfl ?_
      refine St.loadB 0 rfl rfl (.head _) rfl rfl ?_
      refine St.p rfl rfl ?_
      obtain ⟨x1, hx1, h1⟩ := bnd_e h1
      refine St.ixN hx1 rfl rfl rfl (.tail _ (.head _)) rfl rfl rfl rfl rfl fun b1 ob1 ex1 => ?_
      obtain ⟨⟨A3, c3⟩, _⟩ := ex1
      refine St.asrt (F' := .ro (Cells b1 ob1 (bx_T_Image x1 A3 c3)) :: .ro (SlL eu8 A3 c3 x1.Data) :: .res (Box g1 26 [.slice A1 b_p0.Images.length c1, .slice A2 b_p0.Needs.length c2]) :: .ro (Sl (codL l_T_Image) A1 c1 b_p0.Images) :: .ro (SlL e_Need A2 c2 b_p0.Needs) :: R) (fun _ w => w) ?_
      refine St.p rfl rfl ?_
      refine St.load ob1 0 rfl rfl (.head _) rfl rfl ?_
      refine St.p rfl rfl ?_
      refine St.p rfl rfl ?_
      refine St.done ?_
      refine St.thenN ?_
      refine St.prune (Γ' := [(1, _), (2, _), (5, _), (20, _)]) ⟨rfl, rfl, rfl, rfl, trivial⟩ (.d (.d (.k (.k (.k .z))))) ?_
      refine St.cond _ rfl (fun hb2 => ?_) (fun hb2 => ?_)
      · replace h1 := bif_t hb2 h1
        refine St.seq ?_
        refine St.region ?_
        refine St.p rfl rfl ?_
        refine St.p rfl rfl ?_
        refine St.done ?_
        refine St.thenN ?_
        refine St.prune (Γ' := [(4, _)]) ⟨rfl, trivial⟩ (.d (.d (.d .z))) ?_
        refine St.ret ?_
        repeat (first | refine St.thenR ?_ | refine St.blkR ?_)
        injection h1 with h1
        subst h1
        have ho := hd1 _ rfl
        subst ho
        have h : some _ = some _ := h
        injection h with h
        subst h
        exact St.finR Try.results16 (.tmp rfl .nil) rfl [] ⟨rfl, rfl⟩ (fun _ w => (.z : Keep _ _).sat w)
      · replace h1 := bif_f hb2 h1
        refine St.skip ?_
        refine St.blkN ?_
        refine St.thenN ?_
        refine St.prune (Γ' := [(1, _), (2, _), (5, _)]) ⟨rfl, rfl, rfl, trivial⟩ (.k (.k (.k .z))) ?_
        refine St.region ?_
        iterate 3 refine St.p rfl rfl ?_
        refine St.done ?_
        injection h1 with h1
        subst h1
        refine St.thenN ?_
        exact St.again _ () hm1 trivial ⟨rfl, rfl, rfl, trivial⟩ (fun _ w => ((.k (.k (.k .z))) : Keep _ _).sat w)
    · replace h1 := bif_f hb1 h1
      refine St.exit ?_
      repeat (first | refine St.thenX ?_ | refine St.blkMiss rfl ?_)
      refine St.blkHit ?_
      injection h1 with h1
      subst h1
      have ho := hd1 _ rfl
      subst ho
      refine St.thenN ?_
      exact St.hereI () () rfl trivial (fun _ w => ((.d (.d (.d .z))) : Keep _ _).sat w)
  · rintro o2 e2 ho
    subst ho
    have h : _ = some _ := h
    refine St.seq ?_
    refine St.region ?_
    refine St.p rfl rfl ?_
    refine St.done ?_
    refine St.thenN ?_
    refine St.ret ?_
    repeat (first | refine St.thenR ?_ | refine St.blkR ?_)
    injection h with h
    subst h
    exact St.finR Try.results16 (.tmp rfl .nil) rfl [] ⟨rfl, rfl⟩ (fun _ w => (.z : Keep _ _).sat w)

theorem ent3 : Ent Try.prog 3 := ⟨_, Try.func3, by kernel_rfl, by kernel_rfl⟩

noncomputable def m_law28_BundleAnswers (codes : (List Int)) (raw : T_Bundle) (name : ByteArray) : Option Bool :=
  bnd (m_law28_awake) fun r1 => bif !r1 then (some false) else (bnd (m_law28_small raw) fun r2 => bif !r2 then (some true) else (bnd (m_field_New codes 300) fun r3 => bnd (m_field_Codes_Bundle r3) fun r4 => bnd (loopM (τ := Bool ⊕ Unit) (fun (s1 : Int) => bif decide (s1 < ((2 : Nat) : Int)) then (bnd (elt ([raw, r4.2]) s1) fun x1 => bnd (m_bundle_Encode x1) fun r5 => bnd (m_ref28_Encode x1) fun r6 => bnd ((bnd (m_bundle_Valid x1) fun r7 => bnd (m_ref28_Valid x1) fun r8 => bif (r7 != r8) then (some true) else (bif (r5.2 != r6.2) then (some true) else (bif !((strOf r5.1).toList == (strOf r6.1).toList) then (some true) else (bnd (m_bundle_Find x1 name) fun r9 => bnd (m_ref28_Find x1 name) fun r10 => some (r9 != r10)))) : Option Bool)) fun o3 => bif o3 then (some (.done (.inl false))) else (bnd (loopM (τ := Bool ⊕ Unit) (fun (s2 : Int) => bif decide (s2 < (x1.Images.length : Int)) then (bnd (elt x1.Images s2) fun x2 => bnd ((bnd (m_bundle_Right x2) fun r11 => bnd (m_ref28_Right x2) fun r12 => bif !(r11 == r12) then (some true) else (bnd (m_bundle_Sum x2) fun r13 => bnd (m_ref28_Sum x2) fun r14 => bif (r13 != r14) then (some true) else (bnd (m_bundle_Find x1 x2.Name) fun r15 => bnd (m_ref28_Find x1 x2.Name) fun r16 => some (r15 != r16))) : Option Bool)) fun o6 => bif o6 then (some (.done (.inl false))) else (some (.next (IntKind.wrap .i64 (s2 + 1))))) else (some (.done (.inr ())))) 0) fun o4 => retOrW (fun r_ => (.done (.inl r_))) o4 fun o5 => some (.next (IntKind.wrap .i64 (s1 + 1))))) else (some (.done (.inr ())))) 0) fun o1 => retOr o1 fun o2 => some true))

set_option maxHeartbeats 4000000 in
theorem c_law28_BundleAnswers {codes : (List Int)} {raw : T_Bundle} {name : ByteArray} {A1 : Option Addr} {c1 : Nat} {A2 : Option Addr} {c2 : Nat} {A3 : Option Addr} {c3 : Nat} {r : Bool} (h : m_law28_BundleAnswers codes raw name = some r) :
    Fun Try.prog 3 [.slice A1 codes.length c1, .agg #[.slice A2 raw.Images.length c2, .slice A3 raw.Needs.length c3], .string name] [.ro (SlL eu8 A1 c1 codes), .ro (Sl (codL l_T_Image) A2 c2 raw.Images), .ro (SlL e_Need A3 c3 raw.Needs)] (Val (.bool r)) := by
  unfold m_law28_BundleAnswers at h
  refine Fun.intro Try.func3 rfl rfl rfl fun w R => ?_
  refine St.seq ?_
  refine St.region ?_
  refine St.box rfl rfl fun g1 => ?_
  refine St.p rfl rfl ?_
  refine St.done ?_
  refine St.thenN ?_
  refine St.prune (Γ' := [(0, _), (2, _), (4, _)]) ⟨rfl, rfl, rfl, trivial⟩ (.k (.k (.k (.k .z)))) ?_
  refine St.seq ?_
  refine St.seq ?_
  refine St.region ?_
  obtain ⟨r1, hr1, h⟩ := bnd_e h
  refine St.callV (c_law28_awake hr1) ent7 rfl rfl rfl rfl trivial ?_
  refine St.p rfl rfl ?_
  refine St.done ?_
  refine St.thenN ?_
  refine St.prune (Γ' := [(0, _), (2, _), (4, _), (16, _)]) ⟨rfl, rfl, rfl, rfl, trivial⟩ (.k (.k (.k (.k .z)))) ?_
  refine St.cond _ rfl (fun hb1 => ?_) (fun hb1 => ?_)
  · replace h := bif_t hb1 h
    refine St.seq ?_
    refine St.region ?_
    refine St.p rfl rfl ?_
    refine St.done ?_
    refine St.thenN ?_
    refine St.prune (Γ' := [(6, _)]) ⟨rfl, trivial⟩ (.d (.d (.d (.d .z)))) ?_
    refine St.ret ?_
    repeat (first | refine St.thenR ?_ | refine St.blkR ?_)
    injection h with h
    subst h
    exact St.finR Try.results3 (.tmp rfl .nil) rfl [] ⟨rfl, rfl⟩ (fun _ w => (.z : Keep _ _).sat w)
  · replace h := bif_f hb1 h
    refine St.skip ?_
    refine St.thenN ?_
    refine St.prune (Γ' := [(0, _), (2, _), (4, _)]) ⟨rfl, rfl, rfl, trivial⟩ (.k (.k (.k (.k .z)))) ?_
    refine St.seq ?_
    refine St.seq ?_
    refine St.region ?_
    refine St.loadB 0 rfl rfl (.head _) rfl rfl ?_
    obtain ⟨r2, hr2, h⟩ := bnd_e h
    refine St.callV (c_law28_small hr2) ent8 rfl rfl rfl rfl ⟨(.tail _ (.tail _ (.head _))), (.tail _ (.tail _ (.tail _ (.head _)))), trivial⟩ ?_
    refine St.p rfl rfl ?_
    refine St.done ?_
    refine St.thenN ?_
    refine St.prune (Γ' := [(0, _), (2, _), (4, _), (19, _)]) ⟨rfl, rfl, rfl, rfl, trivial⟩ (.k (.k (.k (.k .z)))) ?_
    refine St.cond _ rfl (fun hb2 => ?_) (fun hb2 => ?_)
    · replace h := bif_t hb2 h
      refine St.seq ?_
      refine St.region ?_
      refine St.p rfl rfl ?_
      refine St.done ?_
      refine St.thenN ?_
      refine St.prune (Γ' := [(6, _)]) ⟨rfl, trivial⟩ (.d (.d (.d (.d .z)))) ?_
      refine St.ret ?_
      repeat (first | refine St.thenR ?_ | refine St.blkR ?_)
      injection h with h
      subst h
      exact St.finR Try.results3 (.tmp rfl .nil) rfl [] ⟨rfl, rfl⟩ (fun _ w => (.z : Keep _ _).sat w)
    · replace h := bif_f hb2 h
      refine St.skip ?_
      refine St.thenN ?_
      refine St.prune (Γ' := [(0, _), (2, _), (4, _)]) ⟨rfl, rfl, rfl, trivial⟩ (.k (.k (.k (.k .z)))) ?_
      refine St.seq ?_
      refine St.seq ?_
      refine St.regionX (iL [(.fl, 0), (.fl, 1), (.fl, 6), (.ef, 2), (.ef, 3), (.ef, 4), (.fl, 5)] .nil) (.res (Box g1 26 [.slice A2 raw.Images.length c2, .slice A3 raw.Needs.length c3]) :: .ro (SlL eu8 A1 c1 codes) :: .ro (Sl (codL l_T_Image) A2 c2 raw.Images) :: .ro (SlL e_Need A3 c3 raw.Needs) :: R) mixed (by kernel_rfl) (fun _ w => ((.k (.k (.k (.k .z)))) : Keep _ _).sat w) ?_
      refine St.xfl (fun _ h => h) (Rd.loadB 0 rfl (.head _) rfl rfl) rfl ?_
      refine St.xfl (fun _ h => h) (Rd.p rfl) rfl ?_
      refine St.xfl (fun _ h => h) (Rd.p rfl) rfl ?_
      refine St.xef ?_
      obtain ⟨r3, hr3, h⟩ := bnd_e h
      refine St.call (c_field_New hr3) ent9 rfl rfl rfl (fun _ w => Sat.dup (G := [.ro (SlL eu8 A1 c1 codes)]) rfl ⟨(.tail _ (.head _)), trivial⟩ w) ?_
      rintro _ _ ⟨g2, A4, c4, rfl, rfl⟩
      refine St.asrt (F' := .ro (SlL eu8 A4 c4 r3.L) :: .res (Box g2 59 [.slice A4 r3.L.length c4, .int .i64 r3.At]) :: .res (Box g1 26 [.slice A2 raw.Images.length c2, .slice A3 raw.Needs.length c3]) :: .ro (SlL eu8 A1 c1 codes) :: .ro (Sl (codL l_T_Image) A2 c2 raw.Images) :: .ro (SlL e_Need A3 c3 raw.Needs) :: R) (fun _ w => w) ?_
      refine St.xk (fun _ w => ((.d (.d (.k (.k (.k (.k .z)))))) : Keep _ _).sat w) ?_
      refine St.xef ?_
      obtain ⟨r4, hr4, h⟩ := bnd_e h
      refine St.call (c_field_Codes_Bundle hr4) ent10 rfl rfl rfl (fun _ w => Sat.dup (G := [.ro (SlL eu8 A4 c4 r3.L)]) rfl ⟨(.tail _ (.head _)), trivial⟩ (w.front (.s .z))) ?_
      rintro _ _ ⟨A5, c5, A6, c6, A7, c7, rfl, rfl⟩
      refine St.asrt (F' := .ro (SlL eu8 A5 c5 r4.1.L) :: .ro (Sl (codL l_T_Image) A6 c6 r4.2.Images) :: .ro (SlL e_Need A7 c7 r4.2.Needs) :: .res (Box g2 59 [.slice A5 r4.1.L.length c5, .int .i64 r4.1.At]) :: .ro (SlL eu8 A4 c4 r3.L) :: .res (Box g1 26 [.slice A2 raw.Images.length c2, .slice A3 raw.Needs.length c3]) :: .ro (SlL eu8 A1 c1 codes) :: .ro (Sl (codL l_T_Image) A2 c2 raw.Images) :: .ro (SlL e_Need A3 c3 raw.Needs) :: R) (fun _ w => w) ?_
      refine St.xk (fun _ w => ((.d (.d (.d (.d (.d (.k (.k (.k (.k .z))))))))) : Keep _ _).sat w) ?_
      refine St.xef ?_
      refine St.buildSlice rfl rfl rfl rfl rfl rfl rfl rfl fun g3 => ?_
      refine St.xk (fun _ w => ((.d (.d (.d (.d (.d (.d (.k (.k (.k (.k .z)))))))))) : Keep _ _).sat w) ?_
      refine St.xfl (fun _ h => h) (Rd.p rfl) rfl ?_
      refine St.xdone ?_
      refine St.thenN ?_
      refine St.prune (Γ' := [(2, _), (24, _), (25, _), (26, _)]) ⟨rfl, rfl, rfl, rfl, trivial⟩ (.k (.d (.k (.k (.d (.d (.d (.d (.k (.k .z)))))))))) ?_
      refine St.asrt (fun _ w => Sat.litC (ls := l_T_Bundle) (e := 26) [(raw, ((A2, c2), ((A3, c3), ()))), (r4.2, ((A6, c6), ((A7, c7), ())))] rfl rfl rfl ⟨(.tail _ (.tail _ (.head _))), (.tail _ (.tail _ (.tail _ (.head _)))), (.head _), (.tail _ (.head _)), trivial⟩ (w.front .z)) ?_
      refine St.asrt (fun _ w => (w.front .z).meltC) ?_
      refine St.prune (Γ' := [(2, _), (24, _), (25, _), (26, _)]) ⟨rfl, rfl, rfl, rfl, trivial⟩ (.k (.d (.d (.d (.d .z))))) ?_
      obtain ⟨o1, hl1, h⟩ := bnd_e h
      refine St.cutI (fun (o2 : Unit) (e2 : Unit) => []) (fun o2 e2 => R) (fun o2 => o1 = .inr o2) ?_ ?_
      · refine St.block ?_
        refine St.loop hl1 (fun (s1 : Int) (e1 : Unit) => [(2, .string name), (24, .slice (some ⟨g3, 0, none⟩) ([raw, r4.2]).length ([raw, r4.2] : List T_Bundle).length), (25, .int .i64 ((2 : Nat) : Int)), (26, .int .i64 s1)]) (fun s1 e1 => .ro (Sl (codL l_T_Bundle) (some ⟨g3, 0, none⟩) ([raw, r4.2] : List T_Bundle).length ([raw, r4.2])) :: R) (fun _ _ => True) () trivial ⟨rfl, rfl, rfl, rfl, trivial⟩ (fun _ w => ((.k .z) : Keep _ _).sat w) ?_
        rintro s1 e1 - hit1
        obtain ⟨st1, hm1, hd1⟩ := iter_e hit1
        have h1 := hm1
        refine St.seq ?_
        refine St.region ?_
        refine St.p rfl rfl ?_
        refine St.done ?_
        refine St.thenN ?_
        refine St.seq ?_
        refine St.cond _ rfl (fun hb3 => ?_) (fun hb3 => ?_)
        · replace h1 := bif_t hb3 h1
          refine St.skip ?_
          refine St.thenN ?_
          refine St.prune (Γ' := [(2, _), (24, _), (25, _), (26, _)]) ⟨rfl, rfl, rfl, rfl, trivial⟩ (.k .z) ?_
          refine St.seq ?_
          refine St.block ?_
          refine St.seq ?_
          refine St.region ?_
          obtain ⟨x1, hx1, h1⟩ := bnd_e h1
          refine St.ixN hx1 rfl rfl rfl (.head _) rfl rfl rfl rfl rfl fun b1 ob1 ex1 => ?_
          obtain ⟨⟨A8, c8⟩, ⟨⟨A9, c9⟩, _⟩⟩ := ex1
          refine St.asrt (F' := .ro (Cells b1 ob1 [.slice A8 x1.Images.length c8, .slice A9 x1.Needs.length c9]) :: .ro (Sl (codL l_T_Image) A8 c8 x1.Images) :: .ro (SlL e_Need A9 c9 x1.Needs) :: .ro (Sl (codL l_T_Bundle) (some ⟨g3, 0, none⟩) ([raw, r4.2] : List T_Bundle).length ([raw, r4.2])) :: R) (fun _ w => w) ?_
          refine St.load ob1 0 rfl rfl (.head _) rfl rfl ?_
          refine St.alloc rfl rfl fun g4 => ?_
          refine St.store 0 rfl rfl rfl rfl rfl rfl .z rfl ?_
          refine St.done ?_
          refine St.thenN ?_
          refine St.prune (Γ' := [(2, _), (8, _), (24, _), (25, _), (26, _)]) ⟨rfl, rfl, rfl, rfl, rfl, trivial⟩ (.k (.d (.k (.k (.k .z))))) ?_
          refine St.seq ?_
          refine St.region ?_
          refine St.loadB 0 rfl rfl (.head _) rfl rfl ?_
          obtain ⟨r5, hr5, h1⟩ := bnd_e h1
          refine St.call (c_bundle_Encode hr5) ent11 rfl rfl rfl (fun _ w => Sat.dup (G := [.ro (Sl (codL l_T_Image) A8 c8 x1.Images), .ro (SlL e_Need A9 c9 x1.Needs)]) rfl ⟨(.tail _ (.head _)), (.tail _ (.tail _ (.head _))), trivial⟩ w) ?_
          rintro _ _ ⟨A10, c10, rfl, rfl⟩
          refine St.asrt (F' := .res (OwnL eu8 5 A10 c10 r5.1) :: .res (Box g4 26 [.slice A8 x1.Images.length c8, .slice A9 x1.Needs.length c9]) :: .ro (Sl (codL l_T_Image) A8 c8 x1.Images) :: .ro (SlL e_Need A9 c9 x1.Needs) :: .ro (Sl (codL l_T_Bundle) (some ⟨g3, 0, none⟩) ([raw, r4.2] : List T_Bundle).length ([raw, r4.2])) :: R) (fun _ w => w) ?_
          iterate 5 refine St.p rfl rfl ?_
          refine St.done ?_
          refine St.thenN ?_
          refine St.prune (Γ' := [(2, _), (8, _), (9, _), (10, _), (24, _), (25, _), (26, _)]) ⟨rfl, rfl, rfl, rfl, rfl, rfl, rfl, trivial⟩ (.k (.k (.k (.k (.k .z))))) ?_
          refine St.seq ?_
          refine St.region ?_
          refine St.loadB 0 rfl rfl (.tail _ (.head _)) rfl rfl ?_
          obtain ⟨r6, hr6, h1⟩ := bnd_e h1
          refine St.call (c_ref28_Encode hr6) ent12 rfl rfl rfl (fun _ w => Sat.dup (G := [.ro (Sl (codL l_T_Image) A8 c8 x1.Images), .ro (SlL e_Need A9 c9 x1.Needs)]) rfl ⟨(.tail _ (.tail _ (.head _))), (.tail _ (.tail _ (.tail _ (.head _)))), trivial⟩ w) ?_
          rintro _ _ ⟨A11, c11, rfl, rfl⟩
          refine St.asrt (F' := .res (OwnL eu8 5 A11 c11 r6.1) :: .res (OwnL eu8 5 A10 c10 r5.1) :: .res (Box g4 26 [.slice A8 x1.Images.length c8, .slice A9 x1.Needs.length c9]) :: .ro (Sl (codL l_T_Image) A8 c8 x1.Images) :: .ro (SlL e_Need A9 c9 x1.Needs) :: .ro (Sl (codL l_T_Bundle) (some ⟨g3, 0, none⟩) ([raw, r4.2] : List T_Bundle).length ([raw, r4.2])) :: R) (fun _ w => w) ?_
          iterate 5 refine St.p rfl rfl ?_
          refine St.done ?_
          refine St.thenN ?_
          refine St.prune (Γ' := [(2, _), (8, _), (9, _), (10, _), (11, _), (12, _), (24, _), (25, _), (26, _)]) ⟨rfl, rfl, rfl, rfl, rfl, rfl, rfl, rfl, rfl, trivial⟩ (.k (.k (.k (.k (.k (.k .z)))))) ?_
          refine St.seq ?_
          refine St.seq ?_
          obtain ⟨o3, hj1, h1⟩ := bnd_e h1
          refine St.cutE (fun (e3 : Unit) => [(2, .string name), (8, .pointer (some ⟨g4, 0, none⟩)), (24, .slice (some ⟨g3, 0, none⟩) ([raw, r4.2]).length ([raw, r4.2] : List T_Bundle).length), (25, .int .i64 ((2 : Nat) : Int)), (26, .int .i64 s1), (65, .bool o3)]) (fun e3 => .res (Box g4 26 [.slice A8 x1.Images.length c8, .slice A9 x1.Needs.length c9]) :: .ro (Sl (codL l_T_Image) A8 c8 x1.Images) :: .ro (SlL e_Need A9 c9 x1.Needs) :: .ro (Sl (codL l_T_Bundle) (some ⟨g3, 0, none⟩) ([raw, r4.2] : List T_Bundle).length ([raw, r4.2])) :: R) ?_ ?_
          · refine St.regionF mixed (by kernel_rfl) ?_
            refine St.loadB 0 rfl rfl (.tail _ (.tail _ (.head _))) rfl rfl ?_
            obtain ⟨r7, hr7, hj1⟩ := bnd_e hj1
            refine St.callV (c_bundle_Valid hr7) ent13 rfl rfl rfl rfl ⟨(.tail _ (.tail _ (.tail _ (.head _)))), (.tail _ (.tail _ (.tail _ (.tail _ (.head _))))), trivial⟩ ?_
            refine St.loadB 0 rfl rfl (.tail _ (.tail _ (.head _))) rfl rfl ?_
            obtain ⟨r8, hr8, hj1⟩ := bnd_e hj1
            refine St.callV (c_ref28_Valid hr8) ent14 rfl rfl rfl rfl ⟨(.tail _ (.tail _ (.tail _ (.head _)))), (.tail _ (.tail _ (.tail _ (.tail _ (.head _))))), trivial⟩ ?_
            refine St.p rfl rfl ?_
            refine St.p rfl rfl ?_
            refine St.gSplit (dj := 45) _ rfl (fun hb4 => ?_) (fun hb4 => ?_)
            · replace hj1 := bif_t hb4 hj1
              refine St.gOff (dj := 45) rfl rfl rfl rfl ?_
              refine St.gOff (dj := 45) rfl rfl rfl rfl ?_
              refine St.gOff (dj := 45) rfl rfl rfl rfl ?_
              refine St.p rfl rfl ?_
              refine St.p rfl rfl ?_
              refine St.gOff (dj := 50) rfl rfl rfl rfl ?_
              refine St.gOff (dj := 50) rfl rfl rfl rfl ?_
              refine St.gOff (dj := 50) rfl rfl rfl rfl ?_
              refine St.gOff (dj := 50) rfl rfl rfl rfl ?_
              refine St.gOff (dj := 50) rfl rfl rfl rfl ?_
              refine St.p rfl rfl ?_
              refine St.p rfl rfl ?_
              refine St.gOff (dj := 57) rfl rfl rfl rfl ?_
              refine St.gOff (dj := 57) rfl rfl rfl rfl ?_
              refine St.gOff (dj := 57) rfl rfl rfl rfl ?_
              refine St.gOff (dj := 57) rfl rfl rfl rfl ?_
              refine St.gOff (dj := 57) rfl rfl rfl rfl ?_
              refine St.gOff (dj := 57) rfl rfl rfl rfl ?_
              refine St.gOff (dj := 57) rfl rfl rfl rfl ?_
              refine St.p rfl rfl ?_
              refine St.doneQ ?_
              injection hj1 with hj1
              subst hj1
              refine St.thenN ?_
              exact St.hereE () ⟨rfl, rfl, rfl, rfl, rfl, rfl, trivial⟩ (fun _ w => ((.d (.d (.k (.k (.k (.k .z)))))) : Keep _ _).sat w)
            · replace hj1 := bif_f hb4 hj1
              refine St.gOn (dj := 45) rfl rfl ?_
              refine St.p rfl rfl ?_
              refine St.gOn (dj := 45) rfl rfl ?_
              refine St.p rfl rfl ?_
              refine St.gOn (dj := 45) rfl rfl ?_
              iterate 3 refine St.p rfl rfl ?_
              refine St.gSplit (dj := 50) _ rfl (fun hb5 => ?_) (fun hb5 => ?_)
              · replace hj1 := bif_t hb5 hj1
                refine St.gOff (dj := 50) rfl rfl rfl rfl ?_
                refine St.gOff (dj := 50) rfl rfl rfl rfl ?_
                refine St.gOff (dj := 50) rfl rfl rfl rfl ?_
                refine St.gOff (dj := 50) rfl rfl rfl rfl ?_
                refine St.gOff (dj := 50) rfl rfl rfl rfl ?_
                refine St.p rfl rfl ?_
                refine St.p rfl rfl ?_
                refine St.gOff (dj := 57) rfl rfl rfl rfl ?_
                refine St.gOff (dj := 57) rfl rfl rfl rfl ?_
                refine St.gOff (dj := 57) rfl rfl rfl rfl ?_
                refine St.gOff (dj := 57) rfl rfl rfl rfl ?_
                refine St.gOff (dj := 57) rfl rfl rfl rfl ?_
                refine St.gOff (dj := 57) rfl rfl rfl rfl ?_
                refine St.gOff (dj := 57) rfl rfl rfl rfl ?_
                refine St.p rfl rfl ?_
                refine St.doneQ ?_
                injection hj1 with hj1
                subst hj1
                refine St.thenN ?_
                exact St.hereE () ⟨rfl, rfl, rfl, rfl, rfl, rfl, trivial⟩ (fun _ w => ((.d (.d (.k (.k (.k (.k .z)))))) : Keep _ _).sat w)
              · replace hj1 := bif_f hb5 hj1
                refine St.gOn (dj := 50) rfl rfl ?_
                refine St.p rfl rfl ?_
                refine St.gOn (dj := 50) rfl rfl ?_
                refine St.asrt (fun _ w => (w.front (.s .z)).meltL) ?_
                refine St.b2s rfl rfl rfl rfl rfl rfl rfl rfl rfl (srcL (E := eu8) (.head _)) ?_
                refine St.gOn (dj := 50) rfl rfl ?_
                refine St.p rfl rfl ?_
                refine St.gOn (dj := 50) rfl rfl ?_
                refine St.asrt (fun _ w => (w.front (.s .z)).meltL) ?_
                refine St.b2s rfl rfl rfl rfl rfl rfl rfl rfl rfl (srcL (E := eu8) (.head _)) ?_
                refine St.gOn (dj := 50) rfl rfl ?_
                iterate 3 refine St.p rfl rfl ?_
                refine St.gSplit (dj := 57) _ rfl (fun hb6 => ?_) (fun hb6 => ?_)
                · replace hj1 := bif_t hb6 hj1
                  refine St.gOff (dj := 57) rfl rfl rfl rfl ?_
                  refine St.gOff (dj := 57) rfl rfl rfl rfl ?_
                  refine St.gOff (dj := 57) rfl rfl rfl rfl ?_
                  refine St.gOff (dj := 57) rfl rfl rfl rfl ?_
                  refine St.gOff (dj := 57) rfl rfl rfl rfl ?_
                  refine St.gOff (dj := 57) rfl rfl rfl rfl ?_
                  refine St.gOff (dj := 57) rfl rfl rfl rfl ?_
                  refine St.p rfl rfl ?_
                  refine St.doneQ ?_
                  injection hj1 with hj1
                  subst hj1
                  refine St.thenN ?_
                  exact St.hereE () ⟨rfl, rfl, rfl, rfl, rfl, rfl, trivial⟩ (fun _ w => ((.d (.d (.k (.k (.k (.k .z)))))) : Keep _ _).sat w)
                · replace hj1 := bif_f hb6 hj1
                  refine St.gOn (dj := 57) rfl rfl ?_
                  refine St.loadB 0 rfl rfl (.tail _ (.tail _ (.head _))) rfl rfl ?_
                  refine St.gOn (dj := 57) rfl rfl ?_
                  refine St.p rfl rfl ?_
                  refine St.gOn (dj := 57) rfl rfl ?_
                  obtain ⟨r9, hr9, hj1⟩ := bnd_e hj1
                  refine St.callV (c_bundle_Find hr9) ent15 rfl rfl rfl rfl ⟨(.tail _ (.tail _ (.tail _ (.head _)))), (.tail _ (.tail _ (.tail _ (.tail _ (.head _))))), trivial⟩ ?_
                  refine St.gOn (dj := 57) rfl rfl ?_
                  refine St.loadB 0 rfl rfl (.tail _ (.tail _ (.head _))) rfl rfl ?_
                  refine St.gOn (dj := 57) rfl rfl ?_
                  refine St.p rfl rfl ?_
                  refine St.gOn (dj := 57) rfl rfl ?_
                  obtain ⟨r10, hr10, hj1⟩ := bnd_e hj1
                  refine St.callV (c_ref28_Find hr10) ent16 rfl rfl rfl rfl ⟨(.tail _ (.tail _ (.tail _ (.head _)))), (.tail _ (.tail _ (.tail _ (.tail _ (.head _))))), trivial⟩ ?_
                  refine St.gOn (dj := 57) rfl rfl ?_
                  refine St.p rfl rfl ?_
                  refine St.p rfl rfl ?_
                  refine St.doneQ ?_
                  injection hj1 with hj1
                  subst hj1
                  refine St.thenN ?_
                  exact St.hereE () ⟨rfl, rfl, rfl, rfl, rfl, rfl, trivial⟩ (fun _ w => ((.d (.d (.k (.k (.k (.k .z)))))) : Keep _ _).sat w)
          · rintro e3
            refine St.cond _ rfl (fun hb7 => ?_) (fun hb7 => ?_)
            · replace h1 := bif_t hb7 h1
              refine St.seq ?_
              refine St.region ?_
              refine St.p rfl rfl ?_
              refine St.done ?_
              refine St.thenN ?_
              refine St.prune (Γ' := [(6, _)]) ⟨rfl, trivial⟩ (.d (.d (.d (.d .z)))) ?_
              refine St.ret ?_
              repeat (first | refine St.thenR ?_ | refine St.blkR ?_)
              injection h1 with h1
              subst h1
              have ho := hd1 _ rfl
              subst ho
              have h : some _ = some _ := h
              injection h with h
              subst h
              exact St.finR Try.results3 (.tmp rfl .nil) rfl [] ⟨rfl, rfl⟩ (fun _ w => (.z : Keep _ _).sat w)
            · replace h1 := bif_f hb7 h1
              refine St.skip ?_
              refine St.thenN ?_
              refine St.prune (Γ' := [(2, _), (8, _), (24, _), (25, _), (26, _)]) ⟨rfl, rfl, rfl, rfl, rfl, trivial⟩ (.k (.k (.k (.k .z)))) ?_
              refine St.seq ?_
              refine St.region ?_
              refine St.p rfl rfl ?_
              refine St.loadB 0 rfl rfl (.head _) rfl rfl ?_
              refine St.p rfl rfl ?_
              refine St.p rfl rfl ?_
              refine St.done ?_
              refine St.thenN ?_
              refine St.prune (Γ' := [(2, _), (8, _), (24, _), (25, _), (26, _), (67, _), (68, _), (69, _)]) ⟨rfl, rfl, rfl, rfl, rfl, rfl, rfl, rfl, trivial⟩ (.k (.k (.k (.k .z)))) ?_
              obtain ⟨o4, hl2, h1⟩ := bnd_e h1
              refine St.selfThen ?_
              refine St.cutI (fun (o5 : Unit) (e5 : Unit) => [(2, .string name), (24, .slice (some ⟨g3, 0, none⟩) ([raw, r4.2]).length ([raw, r4.2] : List T_Bundle).length), (25, .int .i64 ((2 : Nat) : Int)), (26, .int .i64 s1)]) (fun o5 e5 => .ro (Sl (codL l_T_Bundle) (some ⟨g3, 0, none⟩) ([raw, r4.2] : List T_Bundle).length ([raw, r4.2])) :: R) (fun o5 => o4 = .inr o5) ?_ ?_
              · refine St.block ?_
                refine St.loop hl2 (fun (s2 : Int) (e4 : Unit) => [(2, .string name), (8, .pointer (some ⟨g4, 0, none⟩)), (24, .slice (some ⟨g3, 0, none⟩) ([raw, r4.2]).length ([raw, r4.2] : List T_Bundle).length), (25, .int .i64 ((2 : Nat) : Int)), (26, .int .i64 s1), (67, .slice A8 x1.Images.length c8), (68, .int .i64 (x1.Images.length : Int)), (69, .int .i64 s2)]) (fun s2 e4 => .res (Box g4 26 [.slice A8 x1.Images.length c8, .slice A9 x1.Needs.length c9]) :: .ro (Sl (codL l_T_Image) A8 c8 x1.Images) :: .ro (SlL e_Need A9 c9 x1.Needs) :: .ro (Sl (codL l_T_Bundle) (some ⟨g3, 0, none⟩) ([raw, r4.2] : List T_Bundle).length ([raw, r4.2])) :: R) (fun _ _ => True) () trivial ⟨rfl, rfl, rfl, rfl, rfl, rfl, rfl, rfl, trivial⟩ (fun _ w => ((.k (.k (.k (.k .z)))) : Keep _ _).sat w) ?_
                rintro s2 e4 - hit2
                obtain ⟨st2, hm2, hd2⟩ := iter_e hit2
                have h2 := hm2
                refine St.seq ?_
                refine St.region ?_
                refine St.p rfl rfl ?_
                refine St.done ?_
                refine St.thenN ?_
                refine St.seq ?_
                refine St.cond _ rfl (fun hb8 => ?_) (fun hb8 => ?_)
                · replace h2 := bif_t hb8 h2
                  refine St.skip ?_
                  refine St.thenN ?_
                  refine St.prune (Γ' := [(2, _), (8, _), (24, _), (25, _), (26, _), (67, _), (68, _), (69, _)]) ⟨rfl, rfl, rfl, rfl, rfl, rfl, rfl, rfl, trivial⟩ (.k (.k (.k (.k .z)))) ?_
                  refine St.seq ?_
                  refine St.block ?_
                  refine St.seq ?_
                  refine St.region ?_
                  obtain ⟨x2, hx2, h2⟩ := bnd_e h2
                  refine St.ixN hx2 rfl rfl rfl (.tail _ (.head _)) rfl rfl rfl rfl rfl fun b2 ob2 ex2 => ?_
                  obtain ⟨⟨A12, c12⟩, _⟩ := ex2
                  refine St.asrt (F' := .ro (Cells b2 ob2 (bx_T_Image x2 A12 c12)) :: .ro (SlL eu8 A12 c12 x2.Data) :: .res (Box g4 26 [.slice A8 x1.Images.length c8, .slice A9 x1.Needs.length c9]) :: .ro (Sl (codL l_T_Image) A8 c8 x1.Images) :: .ro (SlL e_Need A9 c9 x1.Needs) :: .ro (Sl (codL l_T_Bundle) (some ⟨g3, 0, none⟩) ([raw, r4.2] : List T_Bundle).length ([raw, r4.2])) :: R) (fun _ w => w) ?_
                  refine St.load ob2 0 rfl rfl (.head _) rfl rfl ?_
                  refine St.alloc rfl rfl fun g5 => ?_
                  refine St.store 0 rfl rfl rfl rfl rfl rfl .z rfl ?_
                  refine St.done ?_
                  refine St.thenN ?_
                  refine St.prune (Γ' := [(2, _), (8, _), (14, _), (24, _), (25, _), (26, _), (67, _), (68, _), (69, _)]) ⟨rfl, rfl, rfl, rfl, rfl, rfl, rfl, rfl, rfl, trivial⟩ (.k (.d (.k (.k (.k (.k (.k .z))))))) ?_
                  refine St.seq ?_
                  obtain ⟨o6, hj2, h2⟩ := bnd_e h2
                  refine St.cutE (fun (e6 : Unit) => [(2, .string name), (8, .pointer (some ⟨g4, 0, none⟩)), (24, .slice (some ⟨g3, 0, none⟩) ([raw, r4.2]).length ([raw, r4.2] : List T_Bundle).length), (25, .int .i64 ((2 : Nat) : Int)), (26, .int .i64 s1), (67, .slice A8 x1.Images.length c8), (68, .int .i64 (x1.Images.length : Int)), (69, .int .i64 s2), (95, .bool o6)]) (fun e6 => .res (Box g4 26 [.slice A8 x1.Images.length c8, .slice A9 x1.Needs.length c9]) :: .ro (Sl (codL l_T_Image) A8 c8 x1.Images) :: .ro (SlL e_Need A9 c9 x1.Needs) :: .ro (Sl (codL l_T_Bundle) (some ⟨g3, 0, none⟩) ([raw, r4.2] : List T_Bundle).length ([raw, r4.2])) :: R) ?_ ?_
                  · refine St.regionF mixed (by kernel_rfl) ?_
                    refine St.loadB 0 rfl rfl (.head _) rfl rfl ?_
                    obtain ⟨r11, hr11, hj2⟩ := bnd_e hj2
                    refine St.callV (c_bundle_Right hr11) ent17 rfl rfl rfl rfl ⟨(.tail _ (.head _)), trivial⟩ ?_
                    refine St.loadB 0 rfl rfl (.head _) rfl rfl ?_
                    obtain ⟨r12, hr12, hj2⟩ := bnd_e hj2
                    refine St.callV (c_ref28_Right hr12) ent18 rfl rfl rfl rfl ⟨(.tail _ (.head _)), trivial⟩ ?_
                    refine St.p rfl rfl ?_
                    refine St.p rfl rfl ?_
                    refine St.gSplit (dj := 78) _ rfl (fun hb9 => ?_) (fun hb9 => ?_)
                    · replace hj2 := bif_t hb9 hj2
                      refine St.gOff (dj := 78) rfl rfl rfl rfl ?_
                      refine St.gOff (dj := 78) rfl rfl rfl rfl ?_
                      refine St.gOff (dj := 78) rfl rfl rfl rfl ?_
                      refine St.gOff (dj := 78) rfl rfl rfl rfl ?_
                      refine St.gOff (dj := 78) rfl rfl rfl rfl ?_
                      refine St.p rfl rfl ?_
                      refine St.p rfl rfl ?_
                      refine St.gOff (dj := 85) rfl rfl rfl rfl ?_
                      refine St.gOff (dj := 85) rfl rfl rfl rfl ?_
                      refine St.gOff (dj := 85) rfl rfl rfl rfl ?_
                      refine St.gOff (dj := 85) rfl rfl rfl rfl ?_
                      refine St.gOff (dj := 85) rfl rfl rfl rfl ?_
                      refine St.gOff (dj := 85) rfl rfl rfl rfl ?_
                      refine St.gOff (dj := 85) rfl rfl rfl rfl ?_
                      refine St.gOff (dj := 85) rfl rfl rfl rfl ?_
                      refine St.gOff (dj := 85) rfl rfl rfl rfl ?_
                      refine St.p rfl rfl ?_
                      refine St.doneQ ?_
                      injection hj2 with hj2
                      subst hj2
                      refine St.thenN ?_
                      exact St.hereE () ⟨rfl, rfl, rfl, rfl, rfl, rfl, rfl, rfl, rfl, trivial⟩ (fun _ w => ((.d (.d (.k (.k (.k (.k .z)))))) : Keep _ _).sat w)
                    · replace hj2 := bif_f hb9 hj2
                      refine St.gOn (dj := 78) rfl rfl ?_
                      refine St.loadB 0 rfl rfl (.head _) rfl rfl ?_
                      refine St.gOn (dj := 78) rfl rfl ?_
                      obtain ⟨r13, hr13, hj2⟩ := bnd_e hj2
                      refine St.callV (c_bundle_Sum hr13) ent19 rfl rfl rfl rfl ⟨(.tail _ (.head _)), trivial⟩ ?_
                      refine St.gOn (dj := 78) rfl rfl ?_
                      refine St.loadB 0 rfl rfl (.head _) rfl rfl ?_
                      refine St.gOn (dj := 78) rfl rfl ?_
                      obtain ⟨r14, hr14, hj2⟩ := bnd_e hj2
                      refine St.callV (c_ref28_Sum hr14) ent20 rfl rfl rfl rfl ⟨(.tail _ (.head _)), trivial⟩ ?_
                      refine St.gOn (dj := 78) rfl rfl ?_
                      iterate 3 refine St.p rfl rfl ?_
                      refine St.gSplit (dj := 85) _ rfl (fun hb10 => ?_) (fun hb10 => ?_)
                      · replace hj2 := bif_t hb10 hj2
                        refine St.gOff (dj := 85) rfl rfl rfl rfl ?_
                        refine St.gOff (dj := 85) rfl rfl rfl rfl ?_
                        refine St.gOff (dj := 85) rfl rfl rfl rfl ?_
                        refine St.gOff (dj := 85) rfl rfl rfl rfl ?_
                        refine St.gOff (dj := 85) rfl rfl rfl rfl ?_
                        refine St.gOff (dj := 85) rfl rfl rfl rfl ?_
                        refine St.gOff (dj := 85) rfl rfl rfl rfl ?_
                        refine St.gOff (dj := 85) rfl rfl rfl rfl ?_
                        refine St.gOff (dj := 85) rfl rfl rfl rfl ?_
                        refine St.p rfl rfl ?_
                        refine St.doneQ ?_
                        injection hj2 with hj2
                        subst hj2
                        refine St.thenN ?_
                        exact St.hereE () ⟨rfl, rfl, rfl, rfl, rfl, rfl, rfl, rfl, rfl, trivial⟩ (fun _ w => ((.d (.d (.k (.k (.k (.k .z)))))) : Keep _ _).sat w)
                      · replace hj2 := bif_f hb10 hj2
                        refine St.gOn (dj := 85) rfl rfl ?_
                        refine St.loadB 0 rfl rfl (.tail _ (.tail _ (.head _))) rfl rfl ?_
                        refine St.gOn (dj := 85) rfl rfl ?_
                        refine St.p rfl rfl ?_
                        refine St.gOn (dj := 85) rfl rfl ?_
                        refine St.loadB 0 rfl rfl (.head _) rfl rfl ?_
                        refine St.gOn (dj := 85) rfl rfl ?_
                        obtain ⟨r15, hr15, hj2⟩ := bnd_e hj2
                        refine St.callV (c_bundle_Find hr15) ent15 rfl rfl rfl rfl ⟨(.tail _ (.tail _ (.tail _ (.head _)))), (.tail _ (.tail _ (.tail _ (.tail _ (.head _))))), trivial⟩ ?_
                        refine St.gOn (dj := 85) rfl rfl ?_
                        refine St.loadB 0 rfl rfl (.tail _ (.tail _ (.head _))) rfl rfl ?_
                        refine St.gOn (dj := 85) rfl rfl ?_
                        refine St.p rfl rfl ?_
                        refine St.gOn (dj := 85) rfl rfl ?_
                        refine St.loadB 0 rfl rfl (.head _) rfl rfl ?_
                        refine St.gOn (dj := 85) rfl rfl ?_
                        obtain ⟨r16, hr16, hj2⟩ := bnd_e hj2
                        refine St.callV (c_ref28_Find hr16) ent16 rfl rfl rfl rfl ⟨(.tail _ (.tail _ (.tail _ (.head _)))), (.tail _ (.tail _ (.tail _ (.tail _ (.head _))))), trivial⟩ ?_
                        refine St.gOn (dj := 85) rfl rfl ?_
                        refine St.p rfl rfl ?_
                        refine St.p rfl rfl ?_
                        refine St.doneQ ?_
                        injection hj2 with hj2
                        subst hj2
                        refine St.thenN ?_
                        exact St.hereE () ⟨rfl, rfl, rfl, rfl, rfl, rfl, rfl, rfl, rfl, trivial⟩ (fun _ w => ((.d (.d (.k (.k (.k (.k .z)))))) : Keep _ _).sat w)
                  · rintro e6
                    refine St.cond _ rfl (fun hb11 => ?_) (fun hb11 => ?_)
                    · replace h2 := bif_t hb11 h2
                      refine St.seq ?_
                      refine St.region ?_
                      refine St.p rfl rfl ?_
                      refine St.done ?_
                      refine St.thenN ?_
                      refine St.prune (Γ' := [(6, _)]) ⟨rfl, trivial⟩ (.d (.d (.d (.d .z)))) ?_
                      refine St.ret ?_
                      repeat (first | refine St.thenR ?_ | refine St.blkR ?_)
                      injection h2 with h2
                      subst h2
                      have ho := hd2 _ rfl
                      subst ho
                      have h1 : some _ = some _ := h1
                      injection h1 with h1
                      subst h1
                      have ho := hd1 _ rfl
                      subst ho
                      have h : some _ = some _ := h
                      injection h with h
                      subst h
                      exact St.finR Try.results3 (.tmp rfl .nil) rfl [] ⟨rfl, rfl⟩ (fun _ w => (.z : Keep _ _).sat w)
                    · replace h2 := bif_f hb11 h2
                      refine St.skip ?_
                      refine St.blkN ?_
                      refine St.thenN ?_
                      refine St.prune (Γ' := [(2, _), (8, _), (24, _), (25, _), (26, _), (67, _), (68, _), (69, _)]) ⟨rfl, rfl, rfl, rfl, rfl, rfl, rfl, rfl, trivial⟩ (.k (.k (.k (.k .z)))) ?_
                      refine St.region ?_
                      refine St.p rfl rfl ?_
                      refine St.p rfl rfl ?_
                      refine St.done ?_
                      injection h2 with h2
                      subst h2
                      refine St.thenN ?_
                      exact St.again _ () hm2 trivial ⟨rfl, rfl, rfl, rfl, rfl, rfl, rfl, rfl, trivial⟩ (fun _ w => ((.k (.k (.k (.k .z)))) : Keep _ _).sat w)
                · replace h2 := bif_f hb8 h2
                  refine St.exit ?_
                  repeat (first | refine St.thenX ?_ | refine St.blkMiss rfl ?_)
                  refine St.blkHit ?_
                  injection h2 with h2
                  subst h2
                  have ho := hd2 _ rfl
                  subst ho
                  refine St.thenN ?_
                  exact St.hereI () () rfl ⟨rfl, rfl, rfl, rfl, trivial⟩ (fun _ w => ((.d (.d (.d (.k .z)))) : Keep _ _).sat w)
              · rintro o5 e5 ho
                subst ho
                have h1 : _ = some _ := h1
                refine St.blkN ?_
                refine St.thenN ?_
                refine St.region ?_
                refine St.p rfl rfl ?_
                refine St.p rfl rfl ?_
                refine St.done ?_
                injection h1 with h1
                subst h1
                refine St.thenN ?_
                exact St.again _ () hm1 trivial ⟨rfl, rfl, rfl, rfl, trivial⟩ (fun _ w => ((.k .z) : Keep _ _).sat w)
        · replace h1 := bif_f hb3 h1
          refine St.exit ?_
          repeat (first | refine St.thenX ?_ | refine St.blkMiss rfl ?_)
          refine St.blkHit ?_
          injection h1 with h1
          subst h1
          have ho := hd1 _ rfl
          subst ho
          refine St.thenN ?_
          exact St.hereI () () rfl trivial (fun _ w => ((.d .z) : Keep _ _).sat w)
      · rintro o2 e2 ho
        subst ho
        have h : _ = some _ := h
        refine St.seq ?_
        refine St.region ?_
        refine St.p rfl rfl ?_
        refine St.done ?_
        refine St.thenN ?_
        refine St.ret ?_
        repeat (first | refine St.thenR ?_ | refine St.blkR ?_)
        injection h with h
        subst h
        exact St.finR Try.results3 (.tmp rfl .nil) rfl [] ⟨rfl, rfl⟩ (fun _ w => (.z : Keep _ _).sat w)

end Go.Proofs.Ytgnmhmnglbbamaa
