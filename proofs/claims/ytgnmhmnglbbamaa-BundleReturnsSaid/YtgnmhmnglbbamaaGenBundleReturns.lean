/-
  Models of functions of the program, and that the functions compute them.
  Conditions: none.
-/
import Derived.Test.YtgnmhmnglbbamaaGen
namespace Go.Proofs.Ytgnmhmnglbbamaa
open Go
set_option linter.unusedVariables false
set_option maxRecDepth 4000

theorem ent5 : Ent Try.prog 5 := ⟨_, Try.func5, by kernel_rfl, by kernel_rfl⟩

noncomputable def m_law28_BundleReturns (codes : (List Int)) (at_p1 : Int) (by_p2 : Int) : Option Bool :=
  bnd (m_law28_awake) fun r1 => bif !r1 then (some false) else (bnd (m_field_New codes 300) fun r2 => bnd (m_field_Codes_Bundle r2) fun r3 => bnd (m_bundle_Encode r3.2) fun r4 => bif (r4.2 != 0) then (bnd ((bnd (m_bundle_Valid r3.2) fun r5 => bif (r4.2 == r5) then (some true) else (some (r4.2 == 3)) : Option Bool)) fun o1 => some o1) else (bnd (m_bundle_Decode r4.1) fun r6 => bnd ((bif (r6.2 != 0) then (some true) else (bnd (m_ref28_Same r3.2 r6.1) fun r7 => some (!r7)) : Option Bool)) fun o2 => bif o2 then (some false) else (bif (by_p2 == 0) then (some true) else (bnd (remM (IntKind.wrap .i64 at_p1) (r4.1.length : Int)) fun q1 => bnd (elt r4.1 q1) fun x1 => bnd (setE r4.1 q1 (iXor .u8 x1 by_p2)) fun l1 => bnd (m_bundle_Decode l1) fun r8 => some (r8.2 == 5)))))

theorem c_law28_BundleReturns {codes : (List Int)} {at_p1 : Int} {by_p2 : Int} {A1 : Option Addr} {c1 : Nat} {r : Bool} (h : m_law28_BundleReturns codes at_p1 by_p2 = some r) :
    Fun0 Try.prog 5 [.slice A1 codes.length c1, .int .u16 at_p1, .int .u8 by_p2] [.ro (SlL eu8 A1 c1 codes)] (Val (.bool r)) := by
  unfold m_law28_BundleReturns at h
  refine Fun0.intro Try.func5 rfl rfl rfl fun wE R hR => ?_
  have hag : As.ro (agree wE) ∈ R := by rw [hR]; exact List.mem_cons_self
  refine St.seq ?_
  refine St.region ?_
  refine St.p rfl rfl ?_
  refine St.done ?_
  refine St.thenN ?_
  refine St.prune (Γ' := [(0, _), (1, _), (2, _)]) ⟨rfl, rfl, rfl, trivial⟩ (.k .z) ?_
  refine St.seq ?_
  refine St.seq ?_
  refine St.region ?_
  obtain ⟨r1, hr1, h⟩ := bnd_e h
  refine St.callV (c_law28_awake hr1) ent7 rfl rfl rfl rfl trivial ?_
  refine St.p rfl rfl ?_
  refine St.done ?_
  refine St.thenN ?_
  refine St.prune (Γ' := [(0, _), (1, _), (2, _), (13, _)]) ⟨rfl, rfl, rfl, rfl, trivial⟩ (.k .z) ?_
  refine St.cond _ rfl (fun hb1 => ?_) (fun hb1 => ?_)
  · replace h := bif_t hb1 h
    refine St.seq ?_
    refine St.region ?_
    refine St.p rfl rfl ?_
    refine St.done ?_
    refine St.thenN ?_
    refine St.prune (Γ' := [(6, _)]) ⟨rfl, trivial⟩ (.d .z) ?_
    refine St.ret ?_
    repeat (first | refine St.thenR ?_ | refine St.blkR ?_)
    injection h with h
    subst h
    exact St.finR Try.results5 (.tmp rfl .nil) rfl [] ⟨rfl, rfl⟩ (fun _ w => (.z : Keep _ _).sat w)
  · replace h := bif_f hb1 h
    refine St.skip ?_
    refine St.thenN ?_
    refine St.prune (Γ' := [(0, _), (1, _), (2, _)]) ⟨rfl, rfl, rfl, trivial⟩ (.k .z) ?_
    refine St.seq ?_
    refine St.region ?_
    refine St.p rfl rfl ?_
    obtain ⟨r2, hr2, h⟩ := bnd_e h
    refine St.call (c_field_New hr2) ent9 rfl rfl rfl (fun _ w => Sat.dup (G := [.ro (SlL eu8 A1 c1 codes)]) rfl ⟨(.head _), trivial⟩ w) ?_
    rintro _ _ ⟨g1, A2, c2, rfl, rfl⟩
    refine St.asrt (F' := .ro (SlL eu8 A2 c2 r2.L) :: .res (Box g1 59 [.slice A2 r2.L.length c2, .int .i64 r2.At]) :: .ro (SlL eu8 A1 c1 codes) :: R) (fun _ w => w) ?_
    obtain ⟨r3, hr3, h⟩ := bnd_e h
    refine St.call (c_field_Codes_Bundle hr3) ent10 rfl rfl rfl (fun _ w => Sat.dup (G := [.ro (SlL eu8 A2 c2 r2.L)]) rfl ⟨(.tail _ (.head _)), trivial⟩ (w.front (.s .z))) ?_
    rintro _ _ ⟨A3, c3, A4, c4, A5, c5, rfl, rfl⟩
    refine St.asrt (F' := .ro (SlL eu8 A3 c3 r3.1.L) :: .ro (Sl (codL l_T_Image) A4 c4 r3.2.Images) :: .ro (SlL e_Need A5 c5 r3.2.Needs) :: .res (Box g1 59 [.slice A3 r3.1.L.length c3, .int .i64 r3.1.At]) :: .ro (SlL eu8 A2 c2 r2.L) :: .ro (SlL eu8 A1 c1 codes) :: R) (fun _ w => w) ?_
    refine St.alloc rfl rfl fun g2 => ?_
    refine St.store 0 rfl rfl rfl rfl rfl rfl .z rfl ?_
    refine St.done ?_
    refine St.thenN ?_
    refine St.prune (Γ' := [(1, _), (2, _), (7, _)]) ⟨rfl, rfl, rfl, trivial⟩ (.k (.d (.k (.k (.d (.d (.d .z))))))) ?_
    refine St.seq ?_
    refine St.region ?_
    refine St.loadB 0 rfl rfl (.head _) rfl rfl ?_
    obtain ⟨r4, hr4, h⟩ := bnd_e h
    refine St.call (c_bundle_Encode hr4) ent11 rfl rfl rfl (fun _ w => Sat.dup (G := [.ro (Sl (codL l_T_Image) A4 c4 r3.2.Images), .ro (SlL e_Need A5 c5 r3.2.Needs)]) rfl ⟨(.tail _ (.head _)), (.tail _ (.tail _ (.head _))), trivial⟩ w) ?_
    rintro _ _ ⟨A6, c6, rfl, rfl⟩
    refine St.asrt (F' := .res (OwnL eu8 5 A6 c6 r4.1) :: .res (Box g2 26 [.slice A4 r3.2.Images.length c4, .slice A5 r3.2.Needs.length c5]) :: .ro (Sl (codL l_T_Image) A4 c4 r3.2.Images) :: .ro (SlL e_Need A5 c5 r3.2.Needs) :: R) (fun _ w => w) ?_
    iterate 5 refine St.p rfl rfl ?_
    refine St.done ?_
    refine St.thenN ?_
    refine St.prune (Γ' := [(1, _), (2, _), (7, _), (8, _), (9, _)]) ⟨rfl, rfl, rfl, rfl, rfl, trivial⟩ (.k (.k (.k (.k .z)))) ?_
    refine St.seq ?_
    refine St.seq ?_
    refine St.region ?_
    refine St.p rfl rfl ?_
    refine St.p rfl rfl ?_
    refine St.done ?_
    refine St.thenN ?_
    refine St.prune (Γ' := [(1, _), (2, _), (7, _), (8, _), (9, _), (23, _)]) ⟨rfl, rfl, rfl, rfl, rfl, rfl, trivial⟩ (.k (.k (.k (.k .z)))) ?_
    refine St.cond _ rfl (fun hb2 => ?_) (fun hb2 => ?_)
    · replace h := bif_t hb2 h
      refine St.seq ?_
      obtain ⟨o1, hj1, h⟩ := bnd_e h
      refine St.cutE (fun (e1 : Unit) => [(6, .bool o1)]) (fun e1 => R) ?_ ?_
      · refine St.region ?_
        refine St.p rfl rfl ?_
        refine St.loadB 0 rfl rfl (.tail _ (.head _)) rfl rfl ?_
        obtain ⟨r5, hr5, hj1⟩ := bnd_e hj1
        refine St.callV (c_bundle_Valid hr5) ent13 rfl rfl rfl rfl ⟨(.tail _ (.tail _ (.head _))), (.tail _ (.tail _ (.tail _ (.head _)))), trivial⟩ ?_
        refine St.p rfl rfl ?_
        refine St.p rfl rfl ?_
        refine St.gSplit (dj := 28) _ rfl (fun hb3 => ?_) (fun hb3 => ?_)
        · replace hj1 := bif_t hb3 hj1
          refine St.gOff (dj := 28) rfl rfl rfl rfl ?_
          refine St.gOff (dj := 28) rfl rfl rfl rfl ?_
          refine St.p rfl rfl ?_
          refine St.p rfl rfl ?_
          refine St.done ?_
          injection hj1 with hj1
          subst hj1
          refine St.thenN ?_
          exact St.hereE () ⟨rfl, trivial⟩ (fun _ w => ((.d (.d (.d (.d .z)))) : Keep _ _).sat w)
        · replace hj1 := bif_f hb3 hj1
          refine St.gOn (dj := 28) rfl rfl ?_
          refine St.p rfl rfl ?_
          refine St.gOn (dj := 28) rfl rfl ?_
          iterate 3 refine St.p rfl rfl ?_
          refine St.done ?_
          injection hj1 with hj1
          subst hj1
          refine St.thenN ?_
          exact St.hereE () ⟨rfl, trivial⟩ (fun _ w => ((.d (.d (.d (.d .z)))) : Keep _ _).sat w)
      · rintro e1
        refine St.ret ?_
        repeat (first | refine St.thenR ?_ | refine St.blkR ?_)
        injection h with h
        subst h
        exact St.finR Try.results5 (.tmp rfl .nil) rfl [] ⟨rfl, rfl⟩ (fun _ w => (.z : Keep _ _).sat w)
    · replace h := bif_f hb2 h
      refine St.skip ?_
      refine St.thenN ?_
      refine St.prune (Γ' := [(1, _), (2, _), (7, _), (8, _)]) ⟨rfl, rfl, rfl, rfl, trivial⟩ (.k (.k (.k (.k .z)))) ?_
      refine St.seq ?_
      refine St.region ?_
      refine St.p rfl rfl ?_
      refine St.asrt (fun _ w => Sat.meltT (.tail _ (.tail _ (.tail _ hag))) (w.front .z)) ?_
      obtain ⟨r6, hr6, h⟩ := bnd_e h
      refine St.call (c_bundle_Decode hr6) ent22 rfl rfl rfl (fun _ w => Sat.dup (G := [.ro (SlL eu8 A6 c6 r4.1)]) rfl ⟨(.tail _ (.head _)), trivial⟩ w) ?_
      rintro _ _ ⟨A7, c7, A8, c8, rfl, rfl⟩
      refine St.asrt (F' := .ro (Sl (codL l_T_Image) A7 c7 r6.1.Images) :: .ro (SlL e_Need A8 c8 r6.1.Needs) :: .ro (Fro wE eu8 5 A6 c6 r4.1) :: .ro (SlL eu8 A6 c6 r4.1) :: .res (Box g2 26 [.slice A4 r3.2.Images.length c4, .slice A5 r3.2.Needs.length c5]) :: .ro (Sl (codL l_T_Image) A4 c4 r3.2.Images) :: .ro (SlL e_Need A5 c5 r3.2.Needs) :: R) (fun _ w => w) ?_
      iterate 3 refine St.p rfl rfl ?_
      refine St.alloc rfl rfl fun g3 => ?_
      refine St.store 0 rfl rfl rfl rfl rfl rfl .z rfl ?_
      refine St.p rfl rfl ?_
      refine St.done ?_
      refine St.thenN ?_
      refine St.prune (Γ' := [(1, _), (2, _), (7, _), (8, _), (10, _), (11, _)]) ⟨rfl, rfl, rfl, rfl, rfl, rfl, trivial⟩ (.k (.k (.k (.k (.k (.k (.k (.k .z)))))))) ?_
      refine St.seq ?_
      refine St.seq ?_
      obtain ⟨o2, hj2, h⟩ := bnd_e h
      refine St.cutE (fun (e2 : Unit) => [(1, .int .u16 at_p1), (2, .int .u8 by_p2), (8, .slice A6 r4.1.length c6), (44, .bool o2)]) (fun e2 => .ro (Fro wE eu8 5 A6 c6 r4.1) :: .ro (SlL eu8 A6 c6 r4.1) :: R) ?_ ?_
      · refine St.region ?_
        iterate 3 refine St.p rfl rfl ?_
        refine St.gSplit (dj := 39) _ rfl (fun hb4 => ?_) (fun hb4 => ?_)
        · replace hj2 := bif_t hb4 hj2
          refine St.gOff (dj := 39) rfl rfl rfl rfl ?_
          refine St.gOff (dj := 39) rfl rfl rfl rfl ?_
          refine St.gOff (dj := 39) rfl rfl rfl rfl ?_
          refine St.gOff (dj := 39) rfl rfl rfl rfl ?_
          refine St.p rfl rfl ?_
          refine St.done ?_
          injection hj2 with hj2
          subst hj2
          refine St.thenN ?_
          exact St.hereE () ⟨rfl, rfl, rfl, rfl, trivial⟩ (fun _ w => ((.d (.d (.d (.k (.k (.d (.d (.d .z)))))))) : Keep _ _).sat w)
        · replace hj2 := bif_f hb4 hj2
          refine St.gOn (dj := 39) rfl rfl ?_
          refine St.loadB 0 rfl rfl (.tail _ (.tail _ (.tail _ (.tail _ (.tail _ (.head _)))))) rfl rfl ?_
          refine St.gOn (dj := 39) rfl rfl ?_
          refine St.loadB 0 rfl rfl (.head _) rfl rfl ?_
          refine St.gOn (dj := 39) rfl rfl ?_
          obtain ⟨r7, hr7, hj2⟩ := bnd_e hj2
          refine St.callV (c_ref28_Same hr7) ent24 rfl rfl rfl rfl ⟨(.tail _ (.tail _ (.tail _ (.tail _ (.tail _ (.tail _ (.head _))))))), (.tail _ (.tail _ (.tail _ (.tail _ (.tail _ (.tail _ (.tail _ (.head _)))))))), (.tail _ (.head _)), (.tail _ (.tail _ (.head _))), trivial⟩ ?_
          refine St.gOn (dj := 39) rfl rfl ?_
          refine St.p rfl rfl ?_
          refine St.p rfl rfl ?_
          refine St.done ?_
          injection hj2 with hj2
          subst hj2
          refine St.thenN ?_
          exact St.hereE () ⟨rfl, rfl, rfl, rfl, trivial⟩ (fun _ w => ((.d (.d (.d (.k (.k (.d (.d (.d .z)))))))) : Keep _ _).sat w)
      · rintro e2
        refine St.cond _ rfl (fun hb5 => ?_) (fun hb5 => ?_)
        · replace h := bif_t hb5 h
          refine St.seq ?_
          refine St.region ?_
          refine St.p rfl rfl ?_
          refine St.done ?_
          refine St.thenN ?_
          refine St.prune (Γ' := [(6, _)]) ⟨rfl, trivial⟩ (.d (.d .z)) ?_
          refine St.ret ?_
          repeat (first | refine St.thenR ?_ | refine St.blkR ?_)
          injection h with h
          subst h
          exact St.finR Try.results5 (.tmp rfl .nil) rfl [] ⟨rfl, rfl⟩ (fun _ w => (.z : Keep _ _).sat w)
        · replace h := bif_f hb5 h
          refine St.skip ?_
          refine St.thenN ?_
          refine St.prune (Γ' := [(1, _), (2, _), (8, _)]) ⟨rfl, rfl, rfl, trivial⟩ (.k (.k .z)) ?_
          refine St.seq ?_
          refine St.seq ?_
          refine St.region ?_
          refine St.p rfl rfl ?_
          refine St.p rfl rfl ?_
          refine St.done ?_
          refine St.thenN ?_
          refine St.prune (Γ' := [(1, _), (2, _), (8, _), (46, _)]) ⟨rfl, rfl, rfl, rfl, trivial⟩ (.k (.k .z)) ?_
          refine St.cond _ rfl (fun hb6 => ?_) (fun hb6 => ?_)
          · replace h := bif_t hb6 h
            refine St.seq ?_
            refine St.region ?_
            refine St.p rfl rfl ?_
            refine St.done ?_
            refine St.thenN ?_
            refine St.prune (Γ' := [(6, _)]) ⟨rfl, trivial⟩ (.d (.d .z)) ?_
            refine St.ret ?_
            repeat (first | refine St.thenR ?_ | refine St.blkR ?_)
            injection h with h
            subst h
            exact St.finR Try.results5 (.tmp rfl .nil) rfl [] ⟨rfl, rfl⟩ (fun _ w => (.z : Keep _ _).sat w)
          · replace h := bif_f hb6 h
            refine St.skip ?_
            refine St.thenN ?_
            refine St.prune (Γ' := [(1, _), (2, _), (8, _)]) ⟨rfl, rfl, rfl, trivial⟩ (.k (.k .z)) ?_
            refine St.seq ?_
            refine St.asrt (fun _ w => ((.k (.d .z)) : Keep _ _).sat w) ?_
            refine St.asrt (F' := .res (OwnL eu8 5 A6 c6 r4.1) :: R) (fun _ h => by rw [hR] at h ⊢; exact Sat.thaw h) ?_
            refine St.region ?_
            iterate 5 refine St.p rfl rfl ?_
            obtain ⟨q1, hq1, h⟩ := bnd_e h
            refine St.rem rfl rfl rfl hq1 ?_
            obtain ⟨x1, hx1, h⟩ := bnd_e h
            refine St.ixO hx1 rfl rfl rfl (.head _) rfl rfl rfl rfl rfl fun g4 hA => ?_
            subst hA
            refine St.ldO 0 hx1 rfl rfl (.head _) rfl rfl ?_
            refine St.p rfl rfl ?_
            refine St.p rfl rfl ?_
            refine St.ixO hx1 rfl rfl rfl (.head _) rfl rfl rfl rfl rfl fun g5 hA => ?_
            cases hA
            obtain ⟨l1, hl1, h⟩ := bnd_e h
            refine St.stO 0 hx1 hl1 rfl rfl .z rfl rfl rfl rfl rfl ?_
            refine St.slots (Γ' := [(1, _), (2, _), (8, .slice (some ⟨g4, 0, none⟩) l1.length c6), (47, .slice (some ⟨g4, 0, none⟩) l1.length c6), (48, _), (49, _), (50, .slice (some ⟨g4, 0, none⟩) l1.length c6), (51, _), (52, _), (53, _), (54, _), (55, _), (56, _), (57, _)]) ⟨rfl, rfl, sl_len hl1, sl_len hl1, rfl, rfl, sl_len hl1, rfl, rfl, rfl, rfl, rfl, rfl, rfl, trivial⟩ ?_
            refine St.done ?_
            refine St.thenN ?_
            refine St.prune (Γ' := [(8, _)]) ⟨rfl, trivial⟩ (.k .z) ?_
            refine St.seq ?_
            refine St.region ?_
            refine St.p rfl rfl ?_
            refine St.asrt (fun _ w => Sat.meltT hag (w.front .z)) ?_
            obtain ⟨r8, hr8, h⟩ := bnd_e h
            refine St.call (c_bundle_Decode hr8) ent22 rfl rfl rfl (fun _ w => Sat.dup (G := [.ro (SlL eu8 (some ⟨g4, 0, none⟩) c6 l1)]) rfl ⟨(.tail _ (.head _)), trivial⟩ w) ?_
            rintro _ _ ⟨A9, c9, A10, c10, rfl, rfl⟩
            refine St.asrt (F' := .ro (Sl (codL l_T_Image) A9 c9 r8.1.Images) :: .ro (SlL e_Need A10 c10 r8.1.Needs) :: .ro (Fro wE eu8 5 (some ⟨g4, 0, none⟩) c6 l1) :: .ro (SlL eu8 (some ⟨g4, 0, none⟩) c6 l1) :: R) (fun _ w => w) ?_
            iterate 4 refine St.p rfl rfl ?_
            refine St.done ?_
            refine St.thenN ?_
            refine St.prune (Γ' := [(11, _)]) ⟨rfl, trivial⟩ (.d (.d (.d (.d .z)))) ?_
            refine St.seq ?_
            refine St.region ?_
            iterate 3 refine St.p rfl rfl ?_
            refine St.done ?_
            refine St.thenN ?_
            refine St.prune (Γ' := [(6, _)]) ⟨rfl, trivial⟩ .z ?_
            refine St.ret ?_
            repeat (first | refine St.thenR ?_ | refine St.blkR ?_)
            injection h with h
            subst h
            exact St.finR Try.results5 (.tmp rfl .nil) rfl [] ⟨rfl, rfl⟩ (fun _ w => (.z : Keep _ _).sat w)

end Go.Proofs.Ytgnmhmnglbbamaa
