/-
  Models of functions of the program, and that the functions compute them.
  Conditions: none.
-/
import Derived.Test.YtcekbbbjagfacaaDoorGen2
namespace Go.Proofs.YtcekbbbjagfacaaDoor
open Go
set_option linter.unusedVariables false
set_option maxRecDepth 4000

set_option maxHeartbeats 4000000 in
theorem c_ref17_bytes {i_p0 : T_Info} {A1 : Option Addr} {c1 : Nat} {A2 : Option Addr} {c2 : Nat} {A3 : Option Addr} {c3 : Nat} {A4 : Option Addr} {c4 : Nat} {r : ((List Int) × Bool)} (h : m_ref17_bytes i_p0 = some r) :
    Fun Tryd.prog 36 [.agg (bx_T_Info i_p0 A1 c1 A2 c2 A3 c3 A4 c4).toArray] [.ro (SlL e_Field A1 c1 i_p0.Chassis.Fields), .ro (SlL e_Field A2 c2 i_p0.Board.Fields), .ro (SlL e_Field A3 c3 i_p0.Product.Fields), .ro (SlL eu8 A4 c4 i_p0.Multi)] (fun v_ F_ => ∃ (A1 : Option Addr) (c1 : Nat), v_ = .tuple #[.slice A1 r.1.length c1, .bool r.2] ∧ F_ = [.res (OwnL eu8 5 A1 c1 r.1)]) := by
  unfold m_ref17_bytes at h
  refine Fun.intro Tryd.func36 rfl rfl rfl fun w R => ?_
  refine St.seq ?_
  refine St.region ?_
  refine St.box rfl rfl fun g1 => ?_
  refine St.p rfl rfl ?_
  refine St.p rfl rfl ?_
  refine St.done ?_
  refine St.thenN ?_
  refine St.prune (Γ' := [(1, _)]) ⟨rfl, trivial⟩ (.k (.k (.k (.k (.k .z))))) ?_
  refine St.seq ?_
  refine St.region ?_
  refine St.p rfl rfl ?_
  refine St.loadB 0 rfl rfl (.head _) rfl rfl ?_
  refine St.p rfl rfl ?_
  refine St.loadB 4 rfl rfl (.head _) rfl rfl ?_
  refine St.p rfl rfl ?_
  refine St.loadB 8 rfl rfl (.head _) rfl rfl ?_
  refine St.p rfl rfl ?_
  refine St.alloc rfl rfl fun g2 => ?_
  refine St.store 0 rfl rfl rfl rfl rfl rfl .z rfl ?_
  refine St.done ?_
  refine St.thenN ?_
  refine St.prune (Γ' := [(1, _), (4, _)]) ⟨rfl, rfl, trivial⟩ (.k (.k (.k (.k (.k (.k .z)))))) ?_
  refine St.seq ?_
  refine St.region ?_
  refine St.buildSlice rfl rfl rfl rfl rfl rfl rfl rfl fun g3 => ?_
  refine St.p rfl rfl ?_
  refine St.done ?_
  refine St.thenN ?_
  refine St.prune (Γ' := [(1, _), (4, _), (5, _)]) ⟨rfl, rfl, rfl, trivial⟩ (.k (.k (.k (.k (.k (.k (.k .z))))))) ?_
  refine St.seq ?_
  refine St.region ?_
  refine St.p rfl rfl ?_
  refine St.done ?_
  refine St.thenN ?_
  refine St.seq ?_
  refine St.seq ?_
  refine St.region ?_
  refine St.p rfl rfl ?_
  refine St.done ?_
  refine St.thenN ?_
  refine St.block ?_
  refine St.rounds 9 ?_
  refine St.round ?_
  refine St.seq ?_
  refine St.seq ?_
  refine St.region ?_
  refine St.p rfl rfl ?_
  refine St.p rfl rfl ?_
  refine St.done ?_
  refine St.thenN ?_
  refine St.prune (Γ' := [(1, _), (4, _), (5, _), (6, _), (7, _), (19, _)]) ⟨rfl, rfl, rfl, rfl, rfl, rfl, trivial⟩ (.k (.k (.k (.k (.k (.k (.k .z))))))) ?_
  refine St.condT rfl ?_
  refine St.skip ?_
  refine St.thenN ?_
  refine St.prune (Γ' := [(1, _), (4, _), (5, _), (6, _), (7, _)]) ⟨rfl, rfl, rfl, rfl, rfl, trivial⟩ (.k (.k (.k (.k (.k (.k (.k .z))))))) ?_
  refine St.seq ?_
  obtain ⟨o1, hj1, h⟩ := bnd_e h
  refine St.cutI (fun (o2 : List Int × Int) (e1 : Option Addr × Nat) => [(1, .pointer (some ⟨g1, 0, none⟩)), (4, .pointer (some ⟨g2, 0, none⟩)), (5, .slice (some ⟨g3, 0, none⟩) 7 7), (6, .slice e1.1 o2.1.length e1.2), (7, .int .i64 0)]) (fun o2 e1 => .res (OwnL eu8 5 e1.1 e1.2 o2.1) :: .res (Box g3 5 [.int .u8 1, .int .u8 0, .int .u8 o2.2, .int .u8 0, .int .u8 0, .int .u8 0, .int .u8 0]) :: .res (Box g2 69 [.bool i_p0.Chassis.Present, .int .u8 i_p0.Chassis.Code, .int .u32 i_p0.Chassis.Minutes, .slice A1 i_p0.Chassis.Fields.length c1, .bool i_p0.Board.Present, .int .u8 i_p0.Board.Code, .int .u32 i_p0.Board.Minutes, .slice A2 i_p0.Board.Fields.length c2, .bool i_p0.Product.Present, .int .u8 i_p0.Product.Code, .int .u32 i_p0.Product.Minutes, .slice A3 i_p0.Product.Fields.length c3]) :: .res (Box g1 28 (bx_T_Info i_p0 A1 c1 A2 c2 A3 c3 A4 c4)) :: .ro (SlL e_Field A1 c1 i_p0.Chassis.Fields) :: .ro (SlL e_Field A2 c2 i_p0.Board.Fields) :: .ro (SlL e_Field A3 c3 i_p0.Product.Fields) :: .ro (SlL eu8 A4 c4 i_p0.Multi) :: R) (fun o2 => o1 = .inr o2) ?_ ?_
  · refine St.block ?_
    refine St.seq ?_
    refine St.region ?_
    iterate 3 refine St.p rfl rfl ?_
    refine St.loadB 0 rfl rfl (.tail _ (.head _)) rfl rfl ?_
    obtain ⟨r1, hr1, hj1⟩ := bnd_e hj1
    refine St.call (c_ref17_area hr1) ent51 rfl rfl rfl (fun _ w => Sat.dup (G := [.ro (SlL e_Field A1 c1 i_p0.Chassis.Fields)]) rfl ⟨(.tail _ (.tail _ (.tail _ (.head _)))), trivial⟩ w) ?_
    rintro _ _ ⟨A6, c6, rfl, rfl⟩
    refine St.asrt (F' := .res (OwnL eu8 5 A6 c6 r1.1) :: .res (Box g3 5 [.int .u8 1, .int .u8 0, .int .u8 0, .int .u8 0, .int .u8 0, .int .u8 0, .int .u8 0]) :: .res (Box g2 69 [.bool i_p0.Chassis.Present, .int .u8 i_p0.Chassis.Code, .int .u32 i_p0.Chassis.Minutes, .slice A1 i_p0.Chassis.Fields.length c1, .bool i_p0.Board.Present, .int .u8 i_p0.Board.Code, .int .u32 i_p0.Board.Minutes, .slice A2 i_p0.Board.Fields.length c2, .bool i_p0.Product.Present, .int .u8 i_p0.Product.Code, .int .u32 i_p0.Product.Minutes, .slice A3 i_p0.Product.Fields.length c3]) :: .res (Box g1 28 (bx_T_Info i_p0 A1 c1 A2 c2 A3 c3 A4 c4)) :: .ro (SlL e_Field A1 c1 i_p0.Chassis.Fields) :: .ro (SlL e_Field A2 c2 i_p0.Board.Fields) :: .ro (SlL e_Field A3 c3 i_p0.Product.Fields) :: .ro (SlL eu8 A4 c4 i_p0.Multi) :: R) (fun _ w => w) ?_
    iterate 5 refine St.p rfl rfl ?_
    refine St.done ?_
    refine St.thenN ?_
    refine St.prune (Γ' := [(1, _), (4, _), (5, _), (6, _), (7, _), (8, _), (9, _)]) ⟨rfl, rfl, rfl, rfl, rfl, rfl, rfl, trivial⟩ (.k (.k (.k (.k (.k (.k (.k (.k .z)))))))) ?_
    refine St.seq ?_
    refine St.seq ?_
    refine St.region ?_
    refine St.p rfl rfl ?_
    refine St.p rfl rfl ?_
    refine St.done ?_
    refine St.thenN ?_
    refine St.prune (Γ' := [(1, _), (4, _), (5, _), (6, _), (7, _), (8, _), (31, _)]) ⟨rfl, rfl, rfl, rfl, rfl, rfl, rfl, trivial⟩ (.k (.k (.k (.k (.k (.k (.k (.k .z)))))))) ?_
    refine St.cond _ rfl (fun hb1 => ?_) (fun hb1 => ?_)
    · replace hj1 := bif_t hb1 hj1
      refine St.seq ?_
      refine St.region ?_
      refine St.p rfl rfl ?_
      refine St.p rfl rfl ?_
      refine St.done ?_
      refine St.thenN ?_
      refine St.prune (Γ' := [(2, _), (3, _)]) ⟨rfl, rfl, trivial⟩ (.d (.d (.d (.d (.d (.d (.d (.d .z)))))))) ?_
      refine St.ret ?_
      repeat (first | refine St.thenR ?_ | refine St.blkR ?_)
      refine St.asrt (fun _ w => w.nilL eu8 5) ?_
      injection hj1 with hj1
      subst hj1
      have h : some _ = some _ := h
      injection h with h
      subst h
      exact St.finR Tryd.results36 (.tmp rfl (.tmp rfl .nil)) rfl [.res (OwnL eu8 5 none 0 ([] : List Int))] ⟨none, 0, rfl, rfl⟩ (fun _ w => ((.k .z) : Keep _ _).sat w)
    · replace hj1 := bif_f hb1 hj1
      refine St.skip ?_
      refine St.thenN ?_
      refine St.prune (Γ' := [(1, _), (4, _), (5, _), (6, _), (7, _), (8, _)]) ⟨rfl, rfl, rfl, rfl, rfl, rfl, trivial⟩ (.k (.k (.k (.k (.k (.k (.k (.k .z)))))))) ?_
      refine St.seq ?_
      refine St.seq ?_
      refine St.region ?_
      iterate 3 refine St.p rfl rfl ?_
      refine St.done ?_
      refine St.thenN ?_
      refine St.prune (Γ' := [(1, _), (4, _), (5, _), (6, _), (7, _), (8, _), (34, _)]) ⟨rfl, rfl, rfl, rfl, rfl, rfl, rfl, trivial⟩ (.k (.k (.k (.k (.k (.k (.k (.k .z)))))))) ?_
      refine St.cond _ rfl (fun hb2 => ?_) (fun hb2 => ?_)
      · replace hj1 := bif_t hb2 hj1
        refine St.region ?_
        iterate 8 refine St.p rfl rfl ?_
        refine St.ixB 2 rfl rfl rfl rfl rfl rfl rfl rfl rfl rfl ?_
        refine St.store 2 rfl rfl rfl rfl rfl rfl (.s .z) rfl ?_
        refine St.done ?_
        refine St.thenN ?_
        refine St.prune (Γ' := [(1, _), (4, _), (5, _), (6, _), (7, _), (8, _)]) ⟨rfl, rfl, rfl, rfl, rfl, rfl, trivial⟩ (.k (.k (.k (.k (.k (.k (.k (.k .z)))))))) ?_
        refine St.region ?_
        refine St.p rfl rfl ?_
        refine St.p rfl rfl ?_
        refine St.asrt (fun _ w => (w.front (.s .z)).meltL) ?_
        refine St.asrt (fun _ w => w.nilL eu8 5) ?_
        obtain ⟨l1, hl1, hj1⟩ := bnd_e hj1
        refine St.app (E := eu8) hl1 rfl rfl rfl .z rfl rfl rfl rfl rfl rfl rfl rfl (srcL (.tail _ (.head _))) rfl rfl fun A7 c7 => ?_
        refine St.p rfl rfl ?_
        refine St.done ?_
        refine St.blkN ?_
        injection hj1 with hj1
        subst hj1
        refine St.thenN ?_
        exact St.hereI (l1, IntKind.wrap .u8 (IntKind.wrap .i64 ((8 : Int).tdiv 8))) (A7, c7) rfl ⟨rfl, rfl, rfl, rfl, rfl, trivial⟩ (fun _ w => ((.k (.d (.k (.k (.k (.k (.k (.k (.k .z))))))))) : Keep _ _).sat w)
      · replace hj1 := bif_f hb2 hj1
        refine St.skip ?_
        refine St.thenN ?_
        refine St.prune (Γ' := [(1, _), (4, _), (5, _), (6, _), (7, _), (8, _)]) ⟨rfl, rfl, rfl, rfl, rfl, rfl, trivial⟩ (.k (.k (.k (.k (.k (.k (.k (.k .z)))))))) ?_
        refine St.region ?_
        refine St.p rfl rfl ?_
        refine St.p rfl rfl ?_
        refine St.asrt (fun _ w => (w.front .z).meltL) ?_
        refine St.asrt (fun _ w => w.nilL eu8 5) ?_
        obtain ⟨l2, hl2, hj1⟩ := bnd_e hj1
        refine St.app (E := eu8) hl2 rfl rfl rfl .z rfl rfl rfl rfl rfl rfl rfl rfl (srcL (.tail _ (.head _))) rfl rfl fun A8 c8 => ?_
        refine St.p rfl rfl ?_
        refine St.done ?_
        refine St.blkN ?_
        injection hj1 with hj1
        subst hj1
        refine St.thenN ?_
        exact St.hereI (l2, 0) (A8, c8) rfl ⟨rfl, rfl, rfl, rfl, rfl, trivial⟩ (fun _ w => ((.k (.d (.k (.k (.k (.k (.k (.k (.k .z))))))))) : Keep _ _).sat w)
  · rintro o2 ⟨A5, c5⟩ ho
    subst ho
    have h : _ = some _ := h
    refine St.region ?_
    iterate 3 refine St.p rfl rfl ?_
    refine St.done ?_
    refine St.thenN ?_
    refine St.round ?_
    refine St.prune (Γ' := [(1, _), (4, _), (5, _), (6, _), (7, _)]) ⟨rfl, rfl, rfl, rfl, rfl, trivial⟩ (.k (.k (.k (.k (.k (.k (.k (.k .z)))))))) ?_
    refine St.seq ?_
    refine St.seq ?_
    refine St.region ?_
    refine St.p rfl rfl ?_
    refine St.p rfl rfl ?_
    refine St.done ?_
    refine St.thenN ?_
    refine St.prune (Γ' := [(1, _), (4, _), (5, _), (6, _), (7, _), (19, _)]) ⟨rfl, rfl, rfl, rfl, rfl, rfl, trivial⟩ (.k (.k (.k (.k (.k (.k (.k (.k .z)))))))) ?_
    refine St.condT rfl ?_
    refine St.skip ?_
    refine St.thenN ?_
    refine St.prune (Γ' := [(1, _), (4, _), (5, _), (6, _), (7, _)]) ⟨rfl, rfl, rfl, rfl, rfl, trivial⟩ (.k (.k (.k (.k (.k (.k (.k (.k .z)))))))) ?_
    refine St.seq ?_
    obtain ⟨o3, hj2, h⟩ := bnd_e h
    refine St.cutI (fun (o4 : List Int × Int) (e2 : Option Addr × Nat) => [(1, .pointer (some ⟨g1, 0, none⟩)), (4, .pointer (some ⟨g2, 0, none⟩)), (5, .slice (some ⟨g3, 0, none⟩) 7 7), (6, .slice e2.1 o4.1.length e2.2), (7, .int .i64 1)]) (fun o4 e2 => .res (OwnL eu8 5 e2.1 e2.2 o4.1) :: .res (Box g3 5 [.int .u8 1, .int .u8 0, .int .u8 o2.2, .int .u8 o4.2, .int .u8 0, .int .u8 0, .int .u8 0]) :: .res (Box g2 69 [.bool i_p0.Chassis.Present, .int .u8 i_p0.Chassis.Code, .int .u32 i_p0.Chassis.Minutes, .slice A1 i_p0.Chassis.Fields.length c1, .bool i_p0.Board.Present, .int .u8 i_p0.Board.Code, .int .u32 i_p0.Board.Minutes, .slice A2 i_p0.Board.Fields.length c2, .bool i_p0.Product.Present, .int .u8 i_p0.Product.Code, .int .u32 i_p0.Product.Minutes, .slice A3 i_p0.Product.Fields.length c3]) :: .res (Box g1 28 (bx_T_Info i_p0 A1 c1 A2 c2 A3 c3 A4 c4)) :: .ro (SlL e_Field A1 c1 i_p0.Chassis.Fields) :: .ro (SlL e_Field A2 c2 i_p0.Board.Fields) :: .ro (SlL e_Field A3 c3 i_p0.Product.Fields) :: .ro (SlL eu8 A4 c4 i_p0.Multi) :: R) (fun o4 => o3 = .inr o4) ?_ ?_
    · refine St.block ?_
      refine St.seq ?_
      refine St.region ?_
      iterate 3 refine St.p rfl rfl ?_
      refine St.loadB 4 rfl rfl (.tail _ (.tail _ (.head _))) rfl rfl ?_
      obtain ⟨r2, hr2, hj2⟩ := bnd_e hj2
      refine St.call (c_ref17_area hr2) ent51 rfl rfl rfl (fun _ w => Sat.dup (G := [.ro (SlL e_Field A2 c2 i_p0.Board.Fields)]) rfl ⟨(.tail _ (.tail _ (.tail _ (.tail _ (.tail _ (.head _)))))), trivial⟩ w) ?_
      rintro _ _ ⟨A10, c10, rfl, rfl⟩
      refine St.asrt (F' := .res (OwnL eu8 5 A10 c10 r2.1) :: .res (OwnL eu8 5 A5 c5 o2.1) :: .res (Box g3 5 [.int .u8 1, .int .u8 0, .int .u8 o2.2, .int .u8 0, .int .u8 0, .int .u8 0, .int .u8 0]) :: .res (Box g2 69 [.bool i_p0.Chassis.Present, .int .u8 i_p0.Chassis.Code, .int .u32 i_p0.Chassis.Minutes, .slice A1 i_p0.Chassis.Fields.length c1, .bool i_p0.Board.Present, .int .u8 i_p0.Board.Code, .int .u32 i_p0.Board.Minutes, .slice A2 i_p0.Board.Fields.length c2, .bool i_p0.Product.Present, .int .u8 i_p0.Product.Code, .int .u32 i_p0.Product.Minutes, .slice A3 i_p0.Product.Fields.length c3]) :: .res (Box g1 28 (bx_T_Info i_p0 A1 c1 A2 c2 A3 c3 A4 c4)) :: .ro (SlL e_Field A1 c1 i_p0.Chassis.Fields) :: .ro (SlL e_Field A2 c2 i_p0.Board.Fields) :: .ro (SlL e_Field A3 c3 i_p0.Product.Fields) :: .ro (SlL eu8 A4 c4 i_p0.Multi) :: R) (fun _ w => w) ?_
      iterate 5 refine St.p rfl rfl ?_
      refine St.done ?_
      refine St.thenN ?_
      refine St.prune (Γ' := [(1, _), (4, _), (5, _), (6, _), (7, _), (8, _), (9, _)]) ⟨rfl, rfl, rfl, rfl, rfl, rfl, rfl, trivial⟩ (.k (.k (.k (.k (.k (.k (.k (.k (.k .z))))))))) ?_
      refine St.seq ?_
      refine St.seq ?_
      refine St.region ?_
      refine St.p rfl rfl ?_
      refine St.p rfl rfl ?_
      refine St.done ?_
      refine St.thenN ?_
      refine St.prune (Γ' := [(1, _), (4, _), (5, _), (6, _), (7, _), (8, _), (31, _)]) ⟨rfl, rfl, rfl, rfl, rfl, rfl, rfl, trivial⟩ (.k (.k (.k (.k (.k (.k (.k (.k (.k .z))))))))) ?_
      refine St.cond _ rfl (fun hb3 => ?_) (fun hb3 => ?_)
      · replace hj2 := bif_t hb3 hj2
        refine St.seq ?_
        refine St.region ?_
        refine St.p rfl rfl ?_
        refine St.p rfl rfl ?_
        refine St.done ?_
        refine St.thenN ?_
        refine St.prune (Γ' := [(2, _), (3, _)]) ⟨rfl, rfl, trivial⟩ (.d (.d (.d (.d (.d (.d (.d (.d (.d .z))))))))) ?_
        refine St.ret ?_
        repeat (first | refine St.thenR ?_ | refine St.blkR ?_)
        refine St.asrt (fun _ w => w.nilL eu8 5) ?_
        injection hj2 with hj2
        subst hj2
        have h : some _ = some _ := h
        injection h with h
        subst h
        exact St.finR Tryd.results36 (.tmp rfl (.tmp rfl .nil)) rfl [.res (OwnL eu8 5 none 0 ([] : List Int))] ⟨none, 0, rfl, rfl⟩ (fun _ w => ((.k .z) : Keep _ _).sat w)
      · replace hj2 := bif_f hb3 hj2
        refine St.skip ?_
        refine St.thenN ?_
        refine St.prune (Γ' := [(1, _), (4, _), (5, _), (6, _), (7, _), (8, _)]) ⟨rfl, rfl, rfl, rfl, rfl, rfl, trivial⟩ (.k (.k (.k (.k (.k (.k (.k (.k (.k .z))))))))) ?_
        refine St.seq ?_
        refine St.seq ?_
        refine St.region ?_
        iterate 3 refine St.p rfl rfl ?_
        refine St.done ?_
        refine St.thenN ?_
        refine St.prune (Γ' := [(1, _), (4, _), (5, _), (6, _), (7, _), (8, _), (34, _)]) ⟨rfl, rfl, rfl, rfl, rfl, rfl, rfl, trivial⟩ (.k (.k (.k (.k (.k (.k (.k (.k (.k .z))))))))) ?_
        refine St.cond _ rfl (fun hb4 => ?_) (fun hb4 => ?_)
        · replace hj2 := bif_t hb4 hj2
          refine St.region ?_
          iterate 8 refine St.p rfl rfl ?_
          refine St.ixB 3 rfl rfl rfl rfl rfl rfl rfl rfl rfl rfl ?_
          refine St.store 3 rfl rfl rfl rfl rfl rfl (.s (.s .z)) rfl ?_
          refine St.done ?_
          refine St.thenN ?_
          refine St.prune (Γ' := [(1, _), (4, _), (5, _), (6, _), (7, _), (8, _)]) ⟨rfl, rfl, rfl, rfl, rfl, rfl, trivial⟩ (.k (.k (.k (.k (.k (.k (.k (.k (.k .z))))))))) ?_
          refine St.region ?_
          refine St.p rfl rfl ?_
          refine St.p rfl rfl ?_
          refine St.asrt (fun _ w => (w.front (.s .z)).meltL) ?_
          obtain ⟨l3, hl3, hj2⟩ := bnd_e hj2
          refine St.app (E := eu8) hl3 rfl rfl rfl (.s (.s .z)) rfl rfl rfl rfl rfl rfl rfl rfl (srcL (.head _)) rfl rfl fun A11 c11 => ?_
          refine St.p rfl rfl ?_
          refine St.done ?_
          refine St.blkN ?_
          injection hj2 with hj2
          subst hj2
          refine St.thenN ?_
          exact St.hereI (l3, IntKind.wrap .u8 (IntKind.wrap .i64 ((IntKind.wrap .i64 (8 + (o2.1.length : Int))).tdiv 8))) (A11, c11) rfl ⟨rfl, rfl, rfl, rfl, rfl, trivial⟩ (fun _ w => ((.k (.d (.k (.k (.k (.k (.k (.k (.k .z))))))))) : Keep _ _).sat w)
        · replace hj2 := bif_f hb4 hj2
          refine St.skip ?_
          refine St.thenN ?_
          refine St.prune (Γ' := [(1, _), (4, _), (5, _), (6, _), (7, _), (8, _)]) ⟨rfl, rfl, rfl, rfl, rfl, rfl, trivial⟩ (.k (.k (.k (.k (.k (.k (.k (.k (.k .z))))))))) ?_
          refine St.region ?_
          refine St.p rfl rfl ?_
          refine St.p rfl rfl ?_
          refine St.asrt (fun _ w => (w.front .z).meltL) ?_
          obtain ⟨l4, hl4, hj2⟩ := bnd_e hj2
          refine St.app (E := eu8) hl4 rfl rfl rfl (.s .z) rfl rfl rfl rfl rfl rfl rfl rfl (srcL (.head _)) rfl rfl fun A12 c12 => ?_
          refine St.p rfl rfl ?_
          refine St.done ?_
          refine St.blkN ?_
          injection hj2 with hj2
          subst hj2
          refine St.thenN ?_
          exact St.hereI (l4, 0) (A12, c12) rfl ⟨rfl, rfl, rfl, rfl, rfl, trivial⟩ (fun _ w => ((.k (.d (.k (.k (.k (.k (.k (.k (.k .z))))))))) : Keep _ _).sat w)
    · rintro o4 ⟨A9, c9⟩ ho
      subst ho
      have h : _ = some _ := h
      refine St.region ?_
      iterate 3 refine St.p rfl rfl ?_
      refine St.done ?_
      refine St.thenN ?_
      refine St.round ?_
      refine St.prune (Γ' := [(1, _), (4, _), (5, _), (6, _), (7, _)]) ⟨rfl, rfl, rfl, rfl, rfl, trivial⟩ (.k (.k (.k (.k (.k (.k (.k (.k .z)))))))) ?_
      refine St.seq ?_
      refine St.seq ?_
      refine St.region ?_
      refine St.p rfl rfl ?_
      refine St.p rfl rfl ?_
      refine St.done ?_
      refine St.thenN ?_
      refine St.prune (Γ' := [(1, _), (4, _), (5, _), (6, _), (7, _), (19, _)]) ⟨rfl, rfl, rfl, rfl, rfl, rfl, trivial⟩ (.k (.k (.k (.k (.k (.k (.k (.k .z)))))))) ?_
      refine St.condT rfl ?_
      refine St.skip ?_
      refine St.thenN ?_
      refine St.prune (Γ' := [(1, _), (4, _), (5, _), (6, _), (7, _)]) ⟨rfl, rfl, rfl, rfl, rfl, trivial⟩ (.k (.k (.k (.k (.k (.k (.k (.k .z)))))))) ?_
      refine St.seq ?_
      obtain ⟨o5, hj3, h⟩ := bnd_e h
      refine St.cutI (fun (o6 : List Int × Int) (e3 : Option Addr × Nat) => [(1, .pointer (some ⟨g1, 0, none⟩)), (4, .pointer (some ⟨g2, 0, none⟩)), (5, .slice (some ⟨g3, 0, none⟩) 7 7), (6, .slice e3.1 o6.1.length e3.2), (7, .int .i64 2)]) (fun o6 e3 => .res (OwnL eu8 5 e3.1 e3.2 o6.1) :: .res (Box g3 5 [.int .u8 1, .int .u8 0, .int .u8 o2.2, .int .u8 o4.2, .int .u8 o6.2, .int .u8 0, .int .u8 0]) :: .res (Box g2 69 [.bool i_p0.Chassis.Present, .int .u8 i_p0.Chassis.Code, .int .u32 i_p0.Chassis.Minutes, .slice A1 i_p0.Chassis.Fields.length c1, .bool i_p0.Board.Present, .int .u8 i_p0.Board.Code, .int .u32 i_p0.Board.Minutes, .slice A2 i_p0.Board.Fields.length c2, .bool i_p0.Product.Present, .int .u8 i_p0.Product.Code, .int .u32 i_p0.Product.Minutes, .slice A3 i_p0.Product.Fields.length c3]) :: .res (Box g1 28 (bx_T_Info i_p0 A1 c1 A2 c2 A3 c3 A4 c4)) :: .ro (SlL e_Field A1 c1 i_p0.Chassis.Fields) :: .ro (SlL e_Field A2 c2 i_p0.Board.Fields) :: .ro (SlL e_Field A3 c3 i_p0.Product.Fields) :: .ro (SlL eu8 A4 c4 i_p0.Multi) :: R) (fun o6 => o5 = .inr o6) ?_ ?_
      · refine St.block ?_
        refine St.seq ?_
        refine St.region ?_
        iterate 3 refine St.p rfl rfl ?_
        refine St.loadB 8 rfl rfl (.tail _ (.tail _ (.head _))) rfl rfl ?_
        obtain ⟨r3, hr3, hj3⟩ := bnd_e hj3
        refine St.call (c_ref17_area hr3) ent51 rfl rfl rfl (fun _ w => Sat.dup (G := [.ro (SlL e_Field A3 c3 i_p0.Product.Fields)]) rfl ⟨(.tail _ (.tail _ (.tail _ (.tail _ (.tail _ (.tail _ (.head _))))))), trivial⟩ w) ?_
        rintro _ _ ⟨A14, c14, rfl, rfl⟩
        refine St.asrt (F' := .res (OwnL eu8 5 A14 c14 r3.1) :: .res (OwnL eu8 5 A9 c9 o4.1) :: .res (Box g3 5 [.int .u8 1, .int .u8 0, .int .u8 o2.2, .int .u8 o4.2, .int .u8 0, .int .u8 0, .int .u8 0]) :: .res (Box g2 69 [.bool i_p0.Chassis.Present, .int .u8 i_p0.Chassis.Code, .int .u32 i_p0.Chassis.Minutes, .slice A1 i_p0.Chassis.Fields.length c1, .bool i_p0.Board.Present, .int .u8 i_p0.Board.Code, .int .u32 i_p0.Board.Minutes, .slice A2 i_p0.Board.Fields.length c2, .bool i_p0.Product.Present, .int .u8 i_p0.Product.Code, .int .u32 i_p0.Product.Minutes, .slice A3 i_p0.Product.Fields.length c3]) :: .res (Box g1 28 (bx_T_Info i_p0 A1 c1 A2 c2 A3 c3 A4 c4)) :: .ro (SlL e_Field A1 c1 i_p0.Chassis.Fields) :: .ro (SlL e_Field A2 c2 i_p0.Board.Fields) :: .ro (SlL e_Field A3 c3 i_p0.Product.Fields) :: .ro (SlL eu8 A4 c4 i_p0.Multi) :: R) (fun _ w => w) ?_
        iterate 5 refine St.p rfl rfl ?_
        refine St.done ?_
        refine St.thenN ?_
        refine St.prune (Γ' := [(1, _), (4, _), (5, _), (6, _), (7, _), (8, _), (9, _)]) ⟨rfl, rfl, rfl, rfl, rfl, rfl, rfl, trivial⟩ (.k (.k (.k (.k (.k (.k (.k (.k (.k .z))))))))) ?_
        refine St.seq ?_
        refine St.seq ?_
        refine St.region ?_
        refine St.p rfl rfl ?_
        refine St.p rfl rfl ?_
        refine St.done ?_
        refine St.thenN ?_
        refine St.prune (Γ' := [(1, _), (4, _), (5, _), (6, _), (7, _), (8, _), (31, _)]) ⟨rfl, rfl, rfl, rfl, rfl, rfl, rfl, trivial⟩ (.k (.k (.k (.k (.k (.k (.k (.k (.k .z))))))))) ?_
        refine St.cond _ rfl (fun hb5 => ?_) (fun hb5 => ?_)
        · replace hj3 := bif_t hb5 hj3
          refine St.seq ?_
          refine St.region ?_
          refine St.p rfl rfl ?_
          refine St.p rfl rfl ?_
          refine St.done ?_
          refine St.thenN ?_
          refine St.prune (Γ' := [(2, _), (3, _)]) ⟨rfl, rfl, trivial⟩ (.d (.d (.d (.d (.d (.d (.d (.d (.d .z))))))))) ?_
          refine St.ret ?_
          repeat (first | refine St.thenR ?_ | refine St.blkR ?_)
          refine St.asrt (fun _ w => w.nilL eu8 5) ?_
          injection hj3 with hj3
          subst hj3
          have h : some _ = some _ := h
          injection h with h
          subst h
          exact St.finR Tryd.results36 (.tmp rfl (.tmp rfl .nil)) rfl [.res (OwnL eu8 5 none 0 ([] : List Int))] ⟨none, 0, rfl, rfl⟩ (fun _ w => ((.k .z) : Keep _ _).sat w)
        · replace hj3 := bif_f hb5 hj3
          refine St.skip ?_
          refine St.thenN ?_
          refine St.prune (Γ' := [(1, _), (4, _), (5, _), (6, _), (7, _), (8, _)]) ⟨rfl, rfl, rfl, rfl, rfl, rfl, trivial⟩ (.k (.k (.k (.k (.k (.k (.k (.k (.k .z))))))))) ?_
          refine St.seq ?_
          refine St.seq ?_
          refine St.region ?_
          iterate 3 refine St.p rfl rfl ?_
          refine St.done ?_
          refine St.thenN ?_
          refine St.prune (Γ' := [(1, _), (4, _), (5, _), (6, _), (7, _), (8, _), (34, _)]) ⟨rfl, rfl, rfl, rfl, rfl, rfl, rfl, trivial⟩ (.k (.k (.k (.k (.k (.k (.k (.k (.k .z))))))))) ?_
          refine St.cond _ rfl (fun hb6 => ?_) (fun hb6 => ?_)
          · replace hj3 := bif_t hb6 hj3
            refine St.region ?_
            iterate 8 refine St.p rfl rfl ?_
            refine St.ixB 4 rfl rfl rfl rfl rfl rfl rfl rfl rfl rfl ?_
            refine St.store 4 rfl rfl rfl rfl rfl rfl (.s (.s .z)) rfl ?_
            refine St.done ?_
            refine St.thenN ?_
            refine St.prune (Γ' := [(1, _), (4, _), (5, _), (6, _), (7, _), (8, _)]) ⟨rfl, rfl, rfl, rfl, rfl, rfl, trivial⟩ (.k (.k (.k (.k (.k (.k (.k (.k (.k .z))))))))) ?_
            refine St.region ?_
            refine St.p rfl rfl ?_
            refine St.p rfl rfl ?_
            refine St.asrt (fun _ w => (w.front (.s .z)).meltL) ?_
            obtain ⟨l5, hl5, hj3⟩ := bnd_e hj3
            refine St.app (E := eu8) hl5 rfl rfl rfl (.s (.s .z)) rfl rfl rfl rfl rfl rfl rfl rfl (srcL (.head _)) rfl rfl fun A15 c15 => ?_
            refine St.p rfl rfl ?_
            refine St.done ?_
            refine St.blkN ?_
            injection hj3 with hj3
            subst hj3
            refine St.thenN ?_
            exact St.hereI (l5, IntKind.wrap .u8 (IntKind.wrap .i64 ((IntKind.wrap .i64 (8 + (o4.1.length : Int))).tdiv 8))) (A15, c15) rfl ⟨rfl, rfl, rfl, rfl, rfl, trivial⟩ (fun _ w => ((.k (.d (.k (.k (.k (.k (.k (.k (.k .z))))))))) : Keep _ _).sat w)
          · replace hj3 := bif_f hb6 hj3
            refine St.skip ?_
            refine St.thenN ?_
            refine St.prune (Γ' := [(1, _), (4, _), (5, _), (6, _), (7, _), (8, _)]) ⟨rfl, rfl, rfl, rfl, rfl, rfl, trivial⟩ (.k (.k (.k (.k (.k (.k (.k (.k (.k .z))))))))) ?_
            refine St.region ?_
            refine St.p rfl rfl ?_
            refine St.p rfl rfl ?_
            refine St.asrt (fun _ w => (w.front .z).meltL) ?_
            obtain ⟨l6, hl6, hj3⟩ := bnd_e hj3
            refine St.app (E := eu8) hl6 rfl rfl rfl (.s .z) rfl rfl rfl rfl rfl rfl rfl rfl (srcL (.head _)) rfl rfl fun A16 c16 => ?_
            refine St.p rfl rfl ?_
            refine St.done ?_
            refine St.blkN ?_
            injection hj3 with hj3
            subst hj3
            refine St.thenN ?_
            exact St.hereI (l6, 0) (A16, c16) rfl ⟨rfl, rfl, rfl, rfl, rfl, trivial⟩ (fun _ w => ((.k (.d (.k (.k (.k (.k (.k (.k (.k .z))))))))) : Keep _ _).sat w)
      · rintro o6 ⟨A13, c13⟩ ho
        subst ho
        have h : _ = some _ := h
        refine St.region ?_
        iterate 3 refine St.p rfl rfl ?_
        refine St.done ?_
        refine St.thenN ?_
        refine St.round ?_
        refine St.prune (Γ' := [(1, _), (4, _), (5, _), (6, _), (7, _)]) ⟨rfl, rfl, rfl, rfl, rfl, trivial⟩ (.k (.k (.k (.k (.k (.k (.k (.k .z)))))))) ?_
        refine St.seq ?_
        refine St.seq ?_
        refine St.region ?_
        refine St.p rfl rfl ?_
        refine St.p rfl rfl ?_
        refine St.done ?_
        refine St.thenN ?_
        refine St.prune (Γ' := [(1, _), (4, _), (5, _), (6, _), (7, _), (19, _)]) ⟨rfl, rfl, rfl, rfl, rfl, rfl, trivial⟩ (.k (.k (.k (.k (.k (.k (.k (.k .z)))))))) ?_
        refine St.condF rfl ?_
        refine St.exit ?_
        repeat (first | refine St.thenX ?_ | refine St.blkMiss rfl ?_)
        refine St.blkHit ?_
        refine St.thenN ?_
        refine St.prune (Γ' := [(1, _), (5, _), (6, _)]) ⟨rfl, rfl, rfl, trivial⟩ (.k (.k (.d (.k (.k (.k (.k (.k .z)))))))) ?_
        refine St.seq ?_
        refine St.seq ?_
        obtain ⟨o7, hj4, h⟩ := bnd_e h
        refine St.cutE (fun (e4 : Unit) => [(1, .pointer (some ⟨g1, 0, none⟩)), (5, .slice (some ⟨g3, 0, none⟩) 7 7), (6, .slice A13 o6.1.length c13), (60, .bool o7)]) (fun e4 => .res (OwnL eu8 5 A13 c13 o6.1) :: .res (Box g3 5 [.int .u8 1, .int .u8 0, .int .u8 o2.2, .int .u8 o4.2, .int .u8 o6.2, .int .u8 0, .int .u8 0]) :: .res (Box g1 28 (bx_T_Info i_p0 A1 c1 A2 c2 A3 c3 A4 c4)) :: .ro (SlL e_Field A1 c1 i_p0.Chassis.Fields) :: .ro (SlL e_Field A2 c2 i_p0.Board.Fields) :: .ro (SlL e_Field A3 c3 i_p0.Product.Fields) :: .ro (SlL eu8 A4 c4 i_p0.Multi) :: R) ?_ ?_
        · refine St.region ?_
          refine St.p rfl rfl ?_
          refine St.loadB 12 rfl rfl (.tail _ (.tail _ (.head _))) rfl rfl ?_
          iterate 3 refine St.p rfl rfl ?_
          refine St.gSplit (dj := 51) _ rfl (fun hb7 => ?_) (fun hb7 => ?_)
          · replace hj4 := bif_t hb7 hj4
            refine St.gOff (dj := 51) rfl rfl rfl rfl ?_
            refine St.gOff (dj := 51) rfl rfl rfl rfl ?_
            refine St.gOff (dj := 51) rfl rfl rfl rfl ?_
            refine St.gOff (dj := 51) rfl rfl rfl rfl ?_
            refine St.gOff (dj := 51) rfl rfl rfl rfl ?_
            refine St.gOff (dj := 51) rfl rfl rfl rfl ?_
            refine St.gOff (dj := 51) rfl rfl rfl rfl ?_
            refine St.gOff (dj := 51) rfl rfl rfl rfl ?_
            refine St.p rfl rfl ?_
            refine St.done ?_
            injection hj4 with hj4
            subst hj4
            refine St.thenN ?_
            exact St.hereE () ⟨rfl, rfl, rfl, rfl, trivial⟩ (fun _ w => ((.k (.k (.k (.k (.k (.k (.k .z))))))) : Keep _ _).sat w)
          · replace hj4 := bif_f hb7 hj4
            refine St.gOn (dj := 51) rfl rfl ?_
            refine St.p rfl rfl ?_
            refine St.gOn (dj := 51) rfl rfl ?_
            refine St.p rfl rfl ?_
            refine St.gOn (dj := 51) rfl rfl ?_
            refine St.p rfl rfl ?_
            refine St.gOn (dj := 51) rfl rfl ?_
            refine St.p rfl rfl ?_
            refine St.gOn (dj := 51) rfl rfl ?_
            refine St.loadB 12 rfl rfl (.tail _ (.tail _ (.head _))) rfl rfl ?_
            refine St.gOn (dj := 51) rfl rfl ?_
            refine St.p rfl rfl ?_
            refine St.gOn (dj := 51) rfl rfl ?_
            refine St.p rfl rfl ?_
            refine St.gOn (dj := 51) rfl rfl ?_
            refine St.p rfl rfl ?_
            refine St.p rfl rfl ?_
            refine St.done ?_
            injection hj4 with hj4
            subst hj4
            refine St.thenN ?_
            exact St.hereE () ⟨rfl, rfl, rfl, rfl, trivial⟩ (fun _ w => ((.k (.k (.k (.k (.k (.k (.k .z))))))) : Keep _ _).sat w)
        · rintro e4
          refine St.cond _ rfl (fun hb8 => ?_) (fun hb8 => ?_)
          · replace h := bif_t hb8 h
            refine St.seq ?_
            refine St.region ?_
            refine St.p rfl rfl ?_
            refine St.p rfl rfl ?_
            refine St.done ?_
            refine St.thenN ?_
            refine St.prune (Γ' := [(2, _), (3, _)]) ⟨rfl, rfl, trivial⟩ (.d (.d (.d (.d (.d (.d (.d .z))))))) ?_
            refine St.ret ?_
            repeat (first | refine St.thenR ?_ | refine St.blkR ?_)
            refine St.asrt (fun _ w => w.nilL eu8 5) ?_
            injection h with h
            subst h
            exact St.finR Tryd.results36 (.tmp rfl (.tmp rfl .nil)) rfl [.res (OwnL eu8 5 none 0 ([] : List Int))] ⟨none, 0, rfl, rfl⟩ (fun _ w => ((.k .z) : Keep _ _).sat w)
          · replace h := bif_f hb8 h
            refine St.skip ?_
            refine St.thenN ?_
            refine St.prune (Γ' := [(1, _), (5, _), (6, _)]) ⟨rfl, rfl, rfl, trivial⟩ (.k (.k (.k (.k (.k (.k (.k .z))))))) ?_
            refine St.seq ?_
            refine St.seq ?_
            refine St.region ?_
            refine St.p rfl rfl ?_
            refine St.loadB 12 rfl rfl (.tail _ (.tail _ (.head _))) rfl rfl ?_
            refine St.p rfl rfl ?_
            refine St.p rfl rfl ?_
            refine St.done ?_
            refine St.thenN ?_
            refine St.prune (Γ' := [(1, _), (5, _), (6, _), (64, _)]) ⟨rfl, rfl, rfl, rfl, trivial⟩ (.k (.k (.k (.k (.k (.k (.k .z))))))) ?_
            refine St.cond _ rfl (fun hb9 => ?_) (fun hb9 => ?_)
            · replace h := bif_t hb9 h
              refine St.region ?_
              iterate 6 refine St.p rfl rfl ?_
              refine St.ixB 5 rfl rfl rfl rfl rfl rfl rfl rfl rfl rfl ?_
              refine St.store 5 rfl rfl rfl rfl rfl rfl (.s .z) rfl ?_
              refine St.done ?_
              refine St.thenN ?_
              refine St.prune (Γ' := [(1, _), (5, _), (6, _)]) ⟨rfl, rfl, rfl, trivial⟩ (.k (.k (.k (.k (.k (.k (.k .z))))))) ?_
              refine St.seq ?_
              refine St.regionX (iL [(.fl, 0), (.fl, 2), (.fl, 4), (.fl, 5), (.ef, 1), (.ef, 3), (.ef, 6), (.fl, 7), (.fl, 8)] .nil) (.res (Box g1 28 (bx_T_Info i_p0 A1 c1 A2 c2 A3 c3 A4 c4)) :: .ro (SlL e_Field A1 c1 i_p0.Chassis.Fields) :: .ro (SlL e_Field A2 c2 i_p0.Board.Fields) :: .ro (SlL e_Field A3 c3 i_p0.Product.Fields) :: .ro (SlL eu8 A4 c4 i_p0.Multi) :: R) mixed (by kernel_rfl) (fun _ w => ((.d (.d (.k (.k (.k (.k (.k .z))))))) : Keep _ _).sat w) ?_
              refine St.xfl (fun _ h => h) (Rd.p rfl) rfl ?_
              refine St.xfl (fun _ h => h) (Rd.p rfl) rfl ?_
              refine St.xfl (fun _ h => h) (Rd.p rfl) rfl ?_
              refine St.xfl (fun _ h => h) (Rd.loadB 12 rfl (.head _) rfl rfl) rfl ?_
              refine St.xef ?_
              refine St.asrt (fun _ w => (w.front .z).litL (E := eu8) (e := 5) [1, 0, o2.2, o4.2, o6.2, IntKind.wrap .u8 (IntKind.wrap .i64 ((IntKind.wrap .i64 (8 + (o6.1.length : Int))).tdiv 8)), 0] rfl rfl) ?_
              refine St.asrt (fun _ w => (w.front .z).meltL) ?_
              obtain ⟨r4, hr4, h⟩ := bnd_e h
              refine St.call (c_ref01_Seal8 hr4) ent52 rfl rfl rfl (fun _ w => Sat.dup (G := [.ro (SlL eu8 (some ⟨g3, 0, none⟩) ([1, 0, o2.2, o4.2, o6.2, IntKind.wrap .u8 (IntKind.wrap .i64 ((IntKind.wrap .i64 (8 + (o6.1.length : Int))).tdiv 8)), 0] : List Int).length ([1, 0, o2.2, o4.2, o6.2, IntKind.wrap .u8 (IntKind.wrap .i64 ((IntKind.wrap .i64 (8 + (o6.1.length : Int))).tdiv 8)), 0]))]) rfl ⟨(.head _), trivial⟩ w) ?_
              rintro _ _ ⟨A17, c17, rfl, rfl⟩
              refine St.asrt (F' := .res (OwnL eu8 5 A17 c17 r4) :: .ro (SlL eu8 (some ⟨g3, 0, none⟩) ([1, 0, o2.2, o4.2, o6.2, IntKind.wrap .u8 (IntKind.wrap .i64 ((IntKind.wrap .i64 (8 + (o6.1.length : Int))).tdiv 8)), 0] : List Int).length ([1, 0, o2.2, o4.2, o6.2, IntKind.wrap .u8 (IntKind.wrap .i64 ((IntKind.wrap .i64 (8 + (o6.1.length : Int))).tdiv 8)), 0])) :: .res (OwnL eu8 5 A13 c13 o6.1) :: .res (Box g1 28 (bx_T_Info i_p0 A1 c1 A2 c2 A3 c3 A4 c4)) :: .ro (SlL e_Field A1 c1 i_p0.Chassis.Fields) :: .ro (SlL e_Field A2 c2 i_p0.Board.Fields) :: .ro (SlL e_Field A3 c3 i_p0.Product.Fields) :: .ro (SlL eu8 A4 c4 i_p0.Multi) :: R) (fun _ w => w) ?_
              refine St.xk (fun _ w => ((.d (.d (.d (.k (.k (.k (.k (.k .z)))))))) : Keep _ _).sat w) ?_
              refine St.xef ?_
              refine St.asrt (fun _ w => (w.front (.s (.s .z))).meltL) ?_
              obtain ⟨l7, hl7, h⟩ := bnd_e h
              refine St.app (E := eu8) hl7 rfl rfl rfl (.s .z) rfl rfl rfl rfl rfl rfl rfl rfl (srcL (.head _)) rfl rfl fun A18 c18 => ?_
              refine St.xk (fun _ w => ((.d (.d (.d (.k (.k (.k (.k (.k .z)))))))) : Keep _ _).sat w) ?_
              refine St.xef ?_
              obtain ⟨l8, hl8, h⟩ := bnd_e h
              refine St.app (E := eu8) hl8 rfl rfl rfl .z rfl rfl rfl rfl rfl rfl rfl rfl (srcL (.tail _ (.tail _ (.tail _ (.tail _ (.tail _ (.tail _ (.tail _ (.head _))))))))) rfl rfl fun A19 c19 => ?_
              refine St.xk (fun _ w => ((.d (.d (.d (.k (.k (.k (.k (.k .z)))))))) : Keep _ _).sat w) ?_
              refine St.xfl (fun _ h => h) (Rd.p rfl) rfl ?_
              refine St.xfl (fun _ h => h) (Rd.p rfl) rfl ?_
              refine St.xdone ?_
              refine St.thenN ?_
              refine St.prune (Γ' := [(2, _), (3, _)]) ⟨rfl, rfl, trivial⟩ (.k (.d (.d (.d (.d (.d (.d (.d .z)))))))) ?_
              refine St.ret ?_
              repeat (first | refine St.thenR ?_ | refine St.blkR ?_)
              injection h with h
              subst h
              exact St.finR Tryd.results36 (.tmp rfl (.tmp rfl .nil)) rfl [.res (OwnL eu8 5 A19 c19 l8)] ⟨A19, c19, rfl, rfl⟩ (fun _ w => ((.k .z) : Keep _ _).sat w)
            · replace h := bif_f hb9 h
              refine St.skip ?_
              refine St.thenN ?_
              refine St.prune (Γ' := [(1, _), (5, _), (6, _)]) ⟨rfl, rfl, rfl, trivial⟩ (.k (.k (.k (.k (.k (.k (.k .z))))))) ?_
              refine St.seq ?_
              refine St.regionX (iL [(.fl, 0), (.fl, 2), (.fl, 4), (.fl, 5), (.ef, 1), (.ef, 3), (.ef, 6), (.fl, 7), (.fl, 8)] .nil) (.res (Box g1 28 (bx_T_Info i_p0 A1 c1 A2 c2 A3 c3 A4 c4)) :: .ro (SlL e_Field A1 c1 i_p0.Chassis.Fields) :: .ro (SlL e_Field A2 c2 i_p0.Board.Fields) :: .ro (SlL e_Field A3 c3 i_p0.Product.Fields) :: .ro (SlL eu8 A4 c4 i_p0.Multi) :: R) mixed (by kernel_rfl) (fun _ w => ((.d (.d (.k (.k (.k (.k (.k .z))))))) : Keep _ _).sat w) ?_
              refine St.xfl (fun _ h => h) (Rd.p rfl) rfl ?_
              refine St.xfl (fun _ h => h) (Rd.p rfl) rfl ?_
              refine St.xfl (fun _ h => h) (Rd.p rfl) rfl ?_
              refine St.xfl (fun _ h => h) (Rd.loadB 12 rfl (.head _) rfl rfl) rfl ?_
              refine St.xef ?_
              refine St.asrt (fun _ w => (w.front (.s .z)).litL (E := eu8) (e := 5) [1, 0, o2.2, o4.2, o6.2, 0, 0] rfl rfl) ?_
              refine St.asrt (fun _ w => (w.front .z).meltL) ?_
              obtain ⟨r5, hr5, h⟩ := bnd_e h
              refine St.call (c_ref01_Seal8 hr5) ent52 rfl rfl rfl (fun _ w => Sat.dup (G := [.ro (SlL eu8 (some ⟨g3, 0, none⟩) ([1, 0, o2.2, o4.2, o6.2, 0, 0] : List Int).length ([1, 0, o2.2, o4.2, o6.2, 0, 0]))]) rfl ⟨(.head _), trivial⟩ w) ?_
              rintro _ _ ⟨A20, c20, rfl, rfl⟩
              refine St.asrt (F' := .res (OwnL eu8 5 A20 c20 r5) :: .ro (SlL eu8 (some ⟨g3, 0, none⟩) ([1, 0, o2.2, o4.2, o6.2, 0, 0] : List Int).length ([1, 0, o2.2, o4.2, o6.2, 0, 0])) :: .res (OwnL eu8 5 A13 c13 o6.1) :: .res (Box g1 28 (bx_T_Info i_p0 A1 c1 A2 c2 A3 c3 A4 c4)) :: .ro (SlL e_Field A1 c1 i_p0.Chassis.Fields) :: .ro (SlL e_Field A2 c2 i_p0.Board.Fields) :: .ro (SlL e_Field A3 c3 i_p0.Product.Fields) :: .ro (SlL eu8 A4 c4 i_p0.Multi) :: R) (fun _ w => w) ?_
              refine St.xk (fun _ w => ((.d (.d (.d (.k (.k (.k (.k (.k .z)))))))) : Keep _ _).sat w) ?_
              refine St.xef ?_
              refine St.asrt (fun _ w => (w.front (.s (.s .z))).meltL) ?_
              obtain ⟨l9, hl9, h⟩ := bnd_e h
              refine St.app (E := eu8) hl9 rfl rfl rfl (.s .z) rfl rfl rfl rfl rfl rfl rfl rfl (srcL (.head _)) rfl rfl fun A21 c21 => ?_
              refine St.xk (fun _ w => ((.d (.d (.d (.k (.k (.k (.k (.k .z)))))))) : Keep _ _).sat w) ?_
              refine St.xef ?_
              obtain ⟨l10, hl10, h⟩ := bnd_e h
              refine St.app (E := eu8) hl10 rfl rfl rfl .z rfl rfl rfl rfl rfl rfl rfl rfl (srcL (.tail _ (.tail _ (.tail _ (.tail _ (.tail _ (.tail _ (.tail _ (.head _))))))))) rfl rfl fun A22 c22 => ?_
              refine St.xk (fun _ w => ((.d (.d (.d (.k (.k (.k (.k (.k .z)))))))) : Keep _ _).sat w) ?_
              refine St.xfl (fun _ h => h) (Rd.p rfl) rfl ?_
              refine St.xfl (fun _ h => h) (Rd.p rfl) rfl ?_
              refine St.xdone ?_
              refine St.thenN ?_
              refine St.prune (Γ' := [(2, _), (3, _)]) ⟨rfl, rfl, trivial⟩ (.k (.d (.d (.d (.d (.d (.d (.d .z)))))))) ?_
              refine St.ret ?_
              repeat (first | refine St.thenR ?_ | refine St.blkR ?_)
              injection h with h
              subst h
              exact St.finR Tryd.results36 (.tmp rfl (.tmp rfl .nil)) rfl [.res (OwnL eu8 5 A22 c22 l10)] ⟨A22, c22, rfl, rfl⟩ (fun _ w => ((.k .z) : Keep _ _).sat w)

theorem ent17 : Ent Tryd.prog 17 := ⟨_, Tryd.func17, by kernel_rfl, by kernel_rfl⟩

noncomputable def m_ref17_Valid (i_p0 : T_Info) : Option Bool :=
  bnd (m_ref17_bytes i_p0) fun r1 => some r1.2

theorem c_ref17_Valid {i_p0 : T_Info} {A1 : Option Addr} {c1 : Nat} {A2 : Option Addr} {c2 : Nat} {A3 : Option Addr} {c3 : Nat} {A4 : Option Addr} {c4 : Nat} {r : Bool} (h : m_ref17_Valid i_p0 = some r) :
    Fun Tryd.prog 17 [.agg (bx_T_Info i_p0 A1 c1 A2 c2 A3 c3 A4 c4).toArray] [.ro (SlL e_Field A1 c1 i_p0.Chassis.Fields), .ro (SlL e_Field A2 c2 i_p0.Board.Fields), .ro (SlL e_Field A3 c3 i_p0.Product.Fields), .ro (SlL eu8 A4 c4 i_p0.Multi)] (Val (.bool r)) := by
  unfold m_ref17_Valid at h
  refine Fun.intro Tryd.func17 rfl rfl rfl fun w R => ?_
  refine St.seq ?_
  refine St.region ?_
  refine St.box rfl rfl fun g1 => ?_
  refine St.p rfl rfl ?_
  refine St.done ?_
  refine St.thenN ?_
  refine St.prune (Γ' := [(1, _)]) ⟨rfl, trivial⟩ (.k (.k (.k (.k (.k .z))))) ?_
  refine St.seq ?_
  refine St.region ?_
  refine St.loadB 0 rfl rfl (.head _) rfl rfl ?_
  obtain ⟨r1, hr1, h⟩ := bnd_e h
  refine St.call (c_ref17_bytes hr1) ent36 rfl rfl rfl (fun _ w => Sat.dup (G := [.ro (SlL e_Field A1 c1 i_p0.Chassis.Fields), .ro (SlL e_Field A2 c2 i_p0.Board.Fields), .ro (SlL e_Field A3 c3 i_p0.Product.Fields), .ro (SlL eu8 A4 c4 i_p0.Multi)]) rfl ⟨(.tail _ (.head _)), (.tail _ (.tail _ (.head _))), (.tail _ (.tail _ (.tail _ (.head _)))), (.tail _ (.tail _ (.tail _ (.tail _ (.head _))))), trivial⟩ w) ?_
  rintro _ _ ⟨A5, c5, rfl, rfl⟩
  refine St.asrt (F' := .res (OwnL eu8 5 A5 c5 r1.1) :: .res (Box g1 28 (bx_T_Info i_p0 A1 c1 A2 c2 A3 c3 A4 c4)) :: .ro (SlL e_Field A1 c1 i_p0.Chassis.Fields) :: .ro (SlL e_Field A2 c2 i_p0.Board.Fields) :: .ro (SlL e_Field A3 c3 i_p0.Product.Fields) :: .ro (SlL eu8 A4 c4 i_p0.Multi) :: R) (fun _ w => w) ?_
  iterate 5 refine St.p rfl rfl ?_
  refine St.done ?_
  refine St.thenN ?_
  refine St.prune (Γ' := [(4, _)]) ⟨rfl, trivial⟩ (.d (.d (.d (.d (.d (.d .z)))))) ?_
  refine St.seq ?_
  refine St.region ?_
  refine St.p rfl rfl ?_
  refine St.p rfl rfl ?_
  refine St.done ?_
  refine St.thenN ?_
  refine St.prune (Γ' := [(2, _)]) ⟨rfl, trivial⟩ .z ?_
  refine St.ret ?_
  repeat (first | refine St.thenR ?_ | refine St.blkR ?_)
  injection h with h
  subst h
  exact St.finR Tryd.results17 (.tmp rfl .nil) rfl [] ⟨rfl, rfl⟩ (fun _ w => (.z : Keep _ _).sat w)

theorem ent12 : Ent Tryd.prog 12 := ⟨_, Tryd.func12, by kernel_rfl, by kernel_rfl⟩

noncomputable def m_made_Dice_Info (d_p0 : T_Dice) : Option (T_Dice × T_Info) :=
  bnd (m_made_Dice_Area d_p0 2 false) fun r1 => bnd (m_made_Dice_Area r1.1 5 true) fun r2 => bnd (m_made_Dice_Area r2.1 7 false) fun r3 => bnd (m_made_Dice_Bytes r3.1 20) fun r4 => bnd (m_ref17_Valid (⟨r1.2, r2.2, r3.2, r4.2⟩ : T_Info)) fun r5 => bif !r5 then (some (r4.1, (⟨r1.2, (⟨false, 0, 0, []⟩ : T_Area), (⟨false, 0, 0, []⟩ : T_Area), r4.2⟩ : T_Info))) else (some (r4.1, (⟨r1.2, r2.2, r3.2, r4.2⟩ : T_Info)))

theorem c_made_Dice_Info {d_p0 : T_Dice} {A1 : Option Addr} {c1 : Nat} {gb1 : Nat} {r : (T_Dice × T_Info)} (h : m_made_Dice_Info d_p0 = some r) :
    Fun Tryd.prog 12 [.pointer (some ⟨gb1, 0, none⟩)] [.ro (SlL ei64 A1 c1 d_p0.L), .res (Box gb1 62 [.slice A1 d_p0.L.length c1, .int .i64 d_p0.At])] (fun v_ F_ => ∃ (A1 : Option Addr) (c1 : Nat) (A2 : Option Addr) (c2 : Nat) (A3 : Option Addr) (c3 : Nat) (A4 : Option Addr) (c4 : Nat) (A5 : Option Addr) (c5 : Nat), v_ = .agg (bx_T_Info r.2 A2 c2 A3 c3 A4 c4 A5 c5).toArray ∧ F_ = [.ro (SlL ei64 A1 c1 r.1.L), .ro (SlL e_Field A2 c2 r.2.Chassis.Fields), .ro (SlL e_Field A3 c3 r.2.Board.Fields), .ro (SlL e_Field A4 c4 r.2.Product.Fields), .ro (SlL eu8 A5 c5 r.2.Multi), .res (Box gb1 62 [.slice A1 r.1.L.length c1, .int .i64 r.1.At])]) := by
  unfold m_made_Dice_Info at h
  refine Fun.intro Tryd.func12 rfl rfl rfl fun w R => ?_
  refine St.seq ?_
  refine St.region ?_
  refine St.alloc rfl rfl fun g1 => ?_
  refine St.done ?_
  refine St.thenN ?_
  refine St.seq ?_
  refine St.region ?_
  refine St.p rfl rfl ?_
  obtain ⟨r1, hr1, h⟩ := bnd_e h
  refine St.call (c_made_Dice_Area hr1) ent32 rfl rfl rfl (fun _ w => Sat.dup (G := [.ro (SlL ei64 A1 c1 d_p0.L)]) rfl ⟨(.tail _ (.tail _ (.head _))), trivial⟩ (w.front (.s (.s .z)))) ?_
  rintro _ _ ⟨A2, c2, A3, c3, rfl, rfl⟩
  refine St.asrt (F' := .ro (SlL ei64 A2 c2 r1.1.L) :: .ro (SlL e_Field A3 c3 r1.2.Fields) :: .res (Box gb1 62 [.slice A2 r1.1.L.length c2, .int .i64 r1.1.At]) :: .res (Box g1 28 [.bool false, .int .u8 0, .int .u32 0, .slice none 0 0, .bool false, .int .u8 0, .int .u32 0, .slice none 0 0, .bool false, .int .u8 0, .int .u32 0, .slice none 0 0, .slice none 0 0]) :: .ro (SlL ei64 A1 c1 d_p0.L) :: R) (fun _ w => w) ?_
  refine St.p rfl rfl ?_
  obtain ⟨r2, hr2, h⟩ := bnd_e h
  refine St.call (c_made_Dice_Area hr2) ent32 rfl rfl rfl (fun _ w => Sat.dup (G := [.ro (SlL ei64 A2 c2 r1.1.L)]) rfl ⟨(.tail _ (.head _)), trivial⟩ (w.front (.s (.s .z)))) ?_
  rintro _ _ ⟨A4, c4, A5, c5, rfl, rfl⟩
  refine St.asrt (F' := .ro (SlL ei64 A4 c4 r2.1.L) :: .ro (SlL e_Field A5 c5 r2.2.Fields) :: .res (Box gb1 62 [.slice A4 r2.1.L.length c4, .int .i64 r2.1.At]) :: .ro (SlL ei64 A2 c2 r1.1.L) :: .ro (SlL e_Field A3 c3 r1.2.Fields) :: .res (Box g1 28 [.bool false, .int .u8 0, .int .u32 0, .slice none 0 0, .bool false, .int .u8 0, .int .u32 0, .slice none 0 0, .bool false, .int .u8 0, .int .u32 0, .slice none 0 0, .slice none 0 0]) :: .ro (SlL ei64 A1 c1 d_p0.L) :: R) (fun _ w => w) ?_
  refine St.p rfl rfl ?_
  obtain ⟨r3, hr3, h⟩ := bnd_e h
  refine St.call (c_made_Dice_Area hr3) ent32 rfl rfl rfl (fun _ w => Sat.dup (G := [.ro (SlL ei64 A4 c4 r2.1.L)]) rfl ⟨(.tail _ (.head _)), trivial⟩ (w.front (.s (.s .z)))) ?_
  rintro _ _ ⟨A6, c6, A7, c7, rfl, rfl⟩
  refine St.asrt (F' := .ro (SlL ei64 A6 c6 r3.1.L) :: .ro (SlL e_Field A7 c7 r3.2.Fields) :: .res (Box gb1 62 [.slice A6 r3.1.L.length c6, .int .i64 r3.1.At]) :: .ro (SlL ei64 A4 c4 r2.1.L) :: .ro (SlL e_Field A5 c5 r2.2.Fields) :: .ro (SlL ei64 A2 c2 r1.1.L) :: .ro (SlL e_Field A3 c3 r1.2.Fields) :: .res (Box g1 28 [.bool false, .int .u8 0, .int .u32 0, .slice none 0 0, .bool false, .int .u8 0, .int .u32 0, .slice none 0 0, .bool false, .int .u8 0, .int .u32 0, .slice none 0 0, .slice none 0 0]) :: .ro (SlL ei64 A1 c1 d_p0.L) :: R) (fun _ w => w) ?_
  refine St.p rfl rfl ?_
  obtain ⟨r4, hr4, h⟩ := bnd_e h
  refine St.call (c_made_Dice_Bytes hr4) ent33 rfl rfl rfl (fun _ w => Sat.dup (G := [.ro (SlL ei64 A6 c6 r3.1.L)]) rfl ⟨(.tail _ (.head _)), trivial⟩ (w.front (.s (.s .z)))) ?_
  rintro _ _ ⟨A8, c8, A9, c9, rfl, rfl⟩
  refine St.asrt (F' := .ro (SlL ei64 A8 c8 r4.1.L) :: .res (Box gb1 62 [.slice A8 r4.1.L.length c8, .int .i64 r4.1.At]) :: .res (OwnL eu8 5 A9 c9 r4.2) :: .ro (SlL ei64 A6 c6 r3.1.L) :: .ro (SlL e_Field A7 c7 r3.2.Fields) :: .ro (SlL ei64 A4 c4 r2.1.L) :: .ro (SlL e_Field A5 c5 r2.2.Fields) :: .ro (SlL ei64 A2 c2 r1.1.L) :: .ro (SlL e_Field A3 c3 r1.2.Fields) :: .res (Box g1 28 [.bool false, .int .u8 0, .int .u32 0, .slice none 0 0, .bool false, .int .u8 0, .int .u32 0, .slice none 0 0, .bool false, .int .u8 0, .int .u32 0, .slice none 0 0, .slice none 0 0]) :: .ro (SlL ei64 A1 c1 d_p0.L) :: R) (fun _ w => w) ?_
  refine St.p rfl rfl ?_
  refine St.alloc rfl rfl fun g2 => ?_
  refine St.store 0 rfl rfl rfl rfl rfl rfl .z rfl ?_
  refine St.done ?_
  refine St.thenN ?_
  refine St.prune (Γ' := [(2, _), (3, _)]) ⟨rfl, rfl, trivial⟩ (.k (.k (.k (.k (.d (.k (.d (.k (.d (.k (.k (.d .z)))))))))))) ?_
  refine St.seq ?_
  refine St.seq ?_
  refine St.region ?_
  refine St.loadB 0 rfl rfl (.head _) rfl rfl ?_
  refine St.asrt (fun _ w => (w.front (.s (.s (.s .z)))).meltL) ?_
  obtain ⟨r5, hr5, h⟩ := bnd_e h
  refine St.callV (c_ref17_Valid hr5) ent17 rfl rfl rfl rfl ⟨(.tail _ (.tail _ (.tail _ (.tail _ (.tail _ (.tail _ (.head _))))))), (.tail _ (.tail _ (.tail _ (.tail _ (.tail _ (.head _)))))), (.tail _ (.tail _ (.tail _ (.tail _ (.head _))))), (.head _), trivial⟩ ?_
  refine St.p rfl rfl ?_
  refine St.done ?_
  refine St.thenN ?_
  refine St.prune (Γ' := [(2, _), (3, _), (15, _)]) ⟨rfl, rfl, rfl, trivial⟩ (.k (.k (.k (.k (.k (.k (.k (.k .z)))))))) ?_
  refine St.cond _ rfl (fun hb1 => ?_) (fun hb1 => ?_)
  · replace h := bif_t hb1 h
    refine St.region ?_
    iterate 3 refine St.p rfl rfl ?_
    refine St.store 4 rfl rfl rfl rfl rfl rfl (.s .z) rfl ?_
    refine St.p rfl rfl ?_
    refine St.store 8 rfl rfl rfl rfl rfl rfl .z rfl ?_
    refine St.done ?_
    refine St.thenN ?_
    refine St.prune (Γ' := [(2, _), (3, _)]) ⟨rfl, rfl, trivial⟩ (.k (.k (.k (.k (.d (.d (.k (.k .z)))))))) ?_
    refine St.seq ?_
    refine St.region ?_
    refine St.loadB 0 rfl rfl (.head _) rfl rfl ?_
    refine St.store 0 rfl rfl rfl rfl rfl rfl (.s (.s (.s (.s (.s .z))))) rfl ?_
    refine St.done ?_
    refine St.thenN ?_
    refine St.prune (Γ' := [(2, _)]) ⟨rfl, trivial⟩ (.k (.d (.k (.k (.k (.k .z)))))) ?_
    refine St.ret ?_
    repeat (first | refine St.thenR ?_ | refine St.blkR ?_)
    refine St.asrt (fun _ w => w.nilSl (cod e_Field)) ?_
    refine St.asrt (fun _ w => w.nilSl (cod e_Field)) ?_
    injection h with h
    subst h
    exact St.finR Tryd.results12 (.cell rfl (.tail _ (.tail _ (.head _))) rfl .nil) rfl [.ro (SlL ei64 A8 c8 r4.1.L), .ro (SlL e_Field A3 c3 r1.2.Fields), .ro (SlL e_Field none 0 ([] : List T_Field)), .ro (SlL e_Field none 0 ([] : List T_Field)), .ro (SlL eu8 A9 c9 r4.2), .res (Box gb1 62 [.slice A8 r4.1.L.length c8, .int .i64 r4.1.At])] ⟨A8, c8, A3, c3, none, 0, none, 0, A9, c9, rfl, rfl⟩ (fun _ w => ((.k (.k (.k (.k (.k (.k (.d (.d (.d (.d (.d (.d .z)))))))))))) : Keep _ _).sat (Sat.dup (G := [.ro (SlL ei64 A8 c8 r4.1.L), .ro (SlL e_Field A3 c3 r1.2.Fields), .ro (SlL e_Field none 0 ([] : List T_Field)), .ro (SlL e_Field none 0 ([] : List T_Field)), .ro (SlL eu8 A9 c9 r4.2)]) rfl ⟨(.tail _ (.tail _ (.tail _ (.tail _ (.tail _ (.head _)))))), (.tail _ (.tail _ (.tail _ (.tail _ (.tail _ (.tail _ (.head _))))))), (.tail _ (.head _)), (.tail _ (.head _)), (.tail _ (.tail _ (.tail _ (.tail _ (.head _))))), trivial⟩ (w.front (.s (.s (.s (.s (.s .z))))))))
  · replace h := bif_f hb1 h
    refine St.skip ?_
    refine St.thenN ?_
    refine St.prune (Γ' := [(2, _), (3, _)]) ⟨rfl, rfl, trivial⟩ (.k (.k (.k (.k (.k (.k (.k (.k .z)))))))) ?_
    refine St.seq ?_
    refine St.region ?_
    refine St.loadB 0 rfl rfl (.tail _ (.head _)) rfl rfl ?_
    refine St.store 0 rfl rfl rfl rfl rfl rfl (.s (.s (.s (.s (.s (.s (.s .z))))))) rfl ?_
    refine St.done ?_
    refine St.thenN ?_
    refine St.prune (Γ' := [(2, _)]) ⟨rfl, trivial⟩ (.k (.k (.d (.k (.k (.k (.k (.k .z)))))))) ?_
    refine St.ret ?_
    repeat (first | refine St.thenR ?_ | refine St.blkR ?_)
    injection h with h
    subst h
    exact St.finR Tryd.results12 (.cell rfl (.head _) rfl .nil) rfl [.ro (SlL ei64 A8 c8 r4.1.L), .ro (SlL e_Field A3 c3 r1.2.Fields), .ro (SlL e_Field A5 c5 r2.2.Fields), .ro (SlL e_Field A7 c7 r3.2.Fields), .ro (SlL eu8 A9 c9 r4.2), .res (Box gb1 62 [.slice A8 r4.1.L.length c8, .int .i64 r4.1.At])] ⟨A8, c8, A3, c3, A5, c5, A7, c7, A9, c9, rfl, rfl⟩ (fun _ w => ((.k (.k (.k (.k (.k (.k (.d (.d (.d (.d (.d (.d .z)))))))))))) : Keep _ _).sat (Sat.dup (G := [.ro (SlL ei64 A8 c8 r4.1.L), .ro (SlL e_Field A3 c3 r1.2.Fields), .ro (SlL e_Field A5 c5 r2.2.Fields), .ro (SlL e_Field A7 c7 r3.2.Fields), .ro (SlL eu8 A9 c9 r4.2)]) rfl ⟨(.tail _ (.tail _ (.tail _ (.head _)))), (.tail _ (.tail _ (.tail _ (.tail _ (.tail _ (.tail _ (.head _))))))), (.tail _ (.tail _ (.tail _ (.tail _ (.tail _ (.head _)))))), (.tail _ (.tail _ (.tail _ (.tail _ (.head _))))), (.tail _ (.tail _ (.head _))), trivial⟩ (w.front (.s (.s (.s .z))))))

theorem ent15 : Ent Tryd.prog 15 := ⟨_, Tryd.func15, by kernel_rfl, by kernel_rfl⟩

noncomputable def m_ref17_Encode (i_p0 : T_Info) : Option ((List Int) × Int) :=
  bnd (m_ref17_bytes i_p0) fun r1 => bif !r1.2 then (some ([], 1)) else (some (r1.1, 0))

theorem c_ref17_Encode {i_p0 : T_Info} {A1 : Option Addr} {c1 : Nat} {A2 : Option Addr} {c2 : Nat} {A3 : Option Addr} {c3 : Nat} {A4 : Option Addr} {c4 : Nat} {r : ((List Int) × Int)} (h : m_ref17_Encode i_p0 = some r) :
    Fun Tryd.prog 15 [.agg (bx_T_Info i_p0 A1 c1 A2 c2 A3 c3 A4 c4).toArray] [.ro (SlL e_Field A1 c1 i_p0.Chassis.Fields), .ro (SlL e_Field A2 c2 i_p0.Board.Fields), .ro (SlL e_Field A3 c3 i_p0.Product.Fields), .ro (SlL eu8 A4 c4 i_p0.Multi)] (fun v_ F_ => ∃ (A1 : Option Addr) (c1 : Nat), v_ = .tuple #[.slice A1 r.1.length c1, .int .i64 r.2] ∧ F_ = [.res (OwnL eu8 5 A1 c1 r.1)]) := by
  unfold m_ref17_Encode at h
  refine Fun.intro Tryd.func15 rfl rfl rfl fun w R => ?_
  refine St.seq ?_
  refine St.region ?_
  refine St.box rfl rfl fun g1 => ?_
  refine St.p rfl rfl ?_
  refine St.p rfl rfl ?_
  refine St.done ?_
  refine St.thenN ?_
  refine St.prune (Γ' := [(1, _)]) ⟨rfl, trivial⟩ (.k (.k (.k (.k (.k .z))))) ?_
  refine St.seq ?_
  refine St.region ?_
  refine St.loadB 0 rfl rfl (.head _) rfl rfl ?_
  obtain ⟨r1, hr1, h⟩ := bnd_e h
  refine St.call (c_ref17_bytes hr1) ent36 rfl rfl rfl (fun _ w => Sat.dup (G := [.ro (SlL e_Field A1 c1 i_p0.Chassis.Fields), .ro (SlL e_Field A2 c2 i_p0.Board.Fields), .ro (SlL e_Field A3 c3 i_p0.Product.Fields), .ro (SlL eu8 A4 c4 i_p0.Multi)]) rfl ⟨(.tail _ (.head _)), (.tail _ (.tail _ (.head _))), (.tail _ (.tail _ (.tail _ (.head _)))), (.tail _ (.tail _ (.tail _ (.tail _ (.head _))))), trivial⟩ w) ?_
  rintro _ _ ⟨A5, c5, rfl, rfl⟩
  refine St.asrt (F' := .res (OwnL eu8 5 A5 c5 r1.1) :: .res (Box g1 28 (bx_T_Info i_p0 A1 c1 A2 c2 A3 c3 A4 c4)) :: .ro (SlL e_Field A1 c1 i_p0.Chassis.Fields) :: .ro (SlL e_Field A2 c2 i_p0.Board.Fields) :: .ro (SlL e_Field A3 c3 i_p0.Product.Fields) :: .ro (SlL eu8 A4 c4 i_p0.Multi) :: R) (fun _ w => w) ?_
  iterate 5 refine St.p rfl rfl ?_
  refine St.done ?_
  refine St.thenN ?_
  refine St.prune (Γ' := [(4, _), (5, _)]) ⟨rfl, rfl, trivial⟩ (.k (.d (.d (.d (.d (.d .z)))))) ?_
  refine St.seq ?_
  refine St.seq ?_
  refine St.region ?_
  refine St.p rfl rfl ?_
  refine St.p rfl rfl ?_
  refine St.done ?_
  refine St.thenN ?_
  refine St.prune (Γ' := [(4, _), (12, _)]) ⟨rfl, rfl, trivial⟩ (.k .z) ?_
  refine St.cond _ rfl (fun hb1 => ?_) (fun hb1 => ?_)
  · replace h := bif_t hb1 h
    refine St.seq ?_
    refine St.region ?_
    refine St.p rfl rfl ?_
    refine St.p rfl rfl ?_
    refine St.done ?_
    refine St.thenN ?_
    refine St.prune (Γ' := [(2, _), (3, _)]) ⟨rfl, rfl, trivial⟩ (.d .z) ?_
    refine St.ret ?_
    repeat (first | refine St.thenR ?_ | refine St.blkR ?_)
    refine St.asrt (fun _ w => w.nilL eu8 5) ?_
    injection h with h
    subst h
    exact St.finR Tryd.results15 (.tmp rfl (.tmp rfl .nil)) rfl [.res (OwnL eu8 5 none 0 ([] : List Int))] ⟨none, 0, rfl, rfl⟩ (fun _ w => ((.k .z) : Keep _ _).sat w)
  · replace h := bif_f hb1 h
    refine St.skip ?_
    refine St.thenN ?_
    refine St.prune (Γ' := [(4, _)]) ⟨rfl, trivial⟩ (.k .z) ?_
    refine St.seq ?_
    refine St.region ?_
    iterate 3 refine St.p rfl rfl ?_
    refine St.done ?_
    refine St.thenN ?_
    refine St.prune (Γ' := [(2, _), (3, _)]) ⟨rfl, rfl, trivial⟩ (.k .z) ?_
    refine St.ret ?_
    repeat (first | refine St.thenR ?_ | refine St.blkR ?_)
    injection h with h
    subst h
    exact St.finR Tryd.results15 (.tmp rfl (.tmp rfl .nil)) rfl [.res (OwnL eu8 5 A5 c5 r1.1)] ⟨A5, c5, rfl, rfl⟩ (fun _ w => ((.k .z) : Keep _ _).sat w)

theorem ent19 : Ent Tryd.prog 19 := ⟨_, Tryd.func19, by kernel_rfl, by kernel_rfl⟩

noncomputable def m_unitinfo_Serial (i_p0 : T_Info) : Option ByteArray :=
  bnd ((bif i_p0.Product.Present then (bif decide (4 < (i_p0.Product.Fields.length : Int)) then (bnd (elt i_p0.Product.Fields 4) fun x1 => some (!(x1.Value.toList == ((⟨#[]⟩) : ByteArray).toList))) else (some false)) else (some false) : Option Bool)) fun o1 => bif o1 then (bnd (elt i_p0.Product.Fields 4) fun x2 => some x2.Value) else (bnd ((bif i_p0.Board.Present then (bif decide (2 < (i_p0.Board.Fields.length : Int)) then (bnd (elt i_p0.Board.Fields 2) fun x3 => some (!(x3.Value.toList == ((⟨#[]⟩) : ByteArray).toList))) else (some false)) else (some false) : Option Bool)) fun o2 => bif o2 then (bnd (elt i_p0.Board.Fields 2) fun x4 => some x4.Value) else (bnd ((bif i_p0.Chassis.Present then (bif decide (1 < (i_p0.Chassis.Fields.length : Int)) then (bnd (elt i_p0.Chassis.Fields 1) fun x5 => some (!(x5.Value.toList == ((⟨#[]⟩) : ByteArray).toList))) else (some false)) else (some false) : Option Bool)) fun o3 => bif o3 then (bnd (elt i_p0.Chassis.Fields 1) fun x6 => some x6.Value) else (some (⟨#[]⟩))))

set_option maxHeartbeats 4000000 in
theorem c_unitinfo_Serial {i_p0 : T_Info} {A1 : Option Addr} {c1 : Nat} {A2 : Option Addr} {c2 : Nat} {A3 : Option Addr} {c3 : Nat} {A4 : Option Addr} {c4 : Nat} {r : ByteArray} (h : m_unitinfo_Serial i_p0 = some r) :
    Fun Tryd.prog 19 [.agg (bx_T_Info i_p0 A1 c1 A2 c2 A3 c3 A4 c4).toArray] [.ro (SlL e_Field A1 c1 i_p0.Chassis.Fields), .ro (SlL e_Field A2 c2 i_p0.Board.Fields), .ro (SlL e_Field A3 c3 i_p0.Product.Fields), .ro (SlL eu8 A4 c4 i_p0.Multi)] (Val (.string r)) := by
  unfold m_unitinfo_Serial at h
  refine Fun.intro Tryd.func19 rfl rfl rfl fun w R => ?_
  refine St.seq ?_
  refine St.region ?_
  refine St.box rfl rfl fun g1 => ?_
  refine St.p rfl rfl ?_
  refine St.done ?_
  refine St.thenN ?_
  refine St.prune (Γ' := [(1, _)]) ⟨rfl, trivial⟩ (.k (.k (.k (.k (.k .z))))) ?_
  refine St.seq ?_
  refine St.seq ?_
  refine St.region ?_
  refine St.p rfl rfl ?_
  refine St.loadB 8 rfl rfl (.head _) rfl rfl ?_
  refine St.p rfl rfl ?_
  refine St.p rfl rfl ?_
  refine St.loadB 4 rfl rfl (.head _) rfl rfl ?_
  refine St.p rfl rfl ?_
  refine St.p rfl rfl ?_
  refine St.loadB 0 rfl rfl (.head _) rfl rfl ?_
  refine St.p rfl rfl ?_
  refine St.buildSlice rfl rfl rfl rfl rfl rfl rfl rfl fun g2 => ?_
  refine St.p rfl rfl ?_
  refine St.p rfl rfl ?_
  refine St.done ?_
  refine St.thenN ?_
  refine St.prune (Γ' := [(14, _), (15, _), (16, _)]) ⟨rfl, rfl, rfl, trivial⟩ (.k (.d (.k (.k (.k (.d .z)))))) ?_
  refine St.block ?_
  refine St.rounds 9 ?_
  refine St.round ?_
  refine St.seq ?_
  refine St.region ?_
  refine St.p rfl rfl ?_
  refine St.done ?_
  refine St.thenN ?_
  refine St.seq ?_
  refine St.condT rfl ?_
  refine St.skip ?_
  refine St.thenN ?_
  refine St.prune (Γ' := [(14, _), (15, _), (16, _)]) ⟨rfl, rfl, rfl, trivial⟩ (.k (.k (.k (.k .z)))) ?_
  refine St.seq ?_
  refine St.block ?_
  refine St.seq ?_
  refine St.region ?_
  refine St.ixB 0 rfl rfl rfl rfl rfl rfl rfl rfl rfl rfl ?_
  refine St.loadB 0 rfl rfl (.head _) rfl rfl ?_
  refine St.alloc rfl rfl fun g3 => ?_
  refine St.store 0 rfl rfl rfl rfl rfl rfl .z rfl ?_
  refine St.done ?_
  refine St.thenN ?_
  refine St.prune (Γ' := [(4, _), (14, _), (15, _), (16, _)]) ⟨rfl, rfl, rfl, rfl, trivial⟩ (.k (.k (.k (.k (.k .z))))) ?_
  refine St.seq ?_
  obtain ⟨o1, hj1, h⟩ := bnd_e h
  refine St.cutE (fun (e1 : Unit) => [(4, .pointer (some ⟨g3, 0, none⟩)), (14, .slice (some ⟨g2, 0, none⟩) 3 3), (15, .int .i64 ((3 : Nat) : Int)), (16, .int .i64 0), (42, .bool o1)]) (fun e1 => .res (Box g3 72 [.bool i_p0.Product.Present, .int .u8 i_p0.Product.Code, .int .u32 i_p0.Product.Minutes, .slice A3 i_p0.Product.Fields.length c3, .int .i64 4]) :: .res (Box g2 72 [.bool i_p0.Product.Present, .int .u8 i_p0.Product.Code, .int .u32 i_p0.Product.Minutes, .slice A3 i_p0.Product.Fields.length c3, .int .i64 4, .bool i_p0.Board.Present, .int .u8 i_p0.Board.Code, .int .u32 i_p0.Board.Minutes, .slice A2 i_p0.Board.Fields.length c2, .int .i64 2, .bool i_p0.Chassis.Present, .int .u8 i_p0.Chassis.Code, .int .u32 i_p0.Chassis.Minutes, .slice A1 i_p0.Chassis.Fields.length c1, .int .i64 1]) :: .ro (SlL e_Field A1 c1 i_p0.Chassis.Fields) :: .ro (SlL e_Field A2 c2 i_p0.Board.Fields) :: .ro (SlL e_Field A3 c3 i_p0.Product.Fields) :: R) ?_ ?_
  · refine St.region ?_
    refine St.p rfl rfl ?_
    refine St.p rfl rfl ?_
    refine St.loadB 0 rfl rfl (.head _) rfl rfl ?_
    refine St.p rfl rfl ?_
    refine St.gSplit (dj := 23) _ rfl (fun hb1 => ?_) (fun hb1 => ?_)
    · replace hj1 := bif_t hb1 hj1
      refine St.gOn (dj := 23) rfl rfl ?_
      refine St.p rfl rfl ?_
      refine St.gOn (dj := 23) rfl rfl ?_
      refine St.loadB 4 rfl rfl (.head _) rfl rfl ?_
      refine St.gOn (dj := 23) rfl rfl ?_
      refine St.p rfl rfl ?_
      refine St.gOn (dj := 23) rfl rfl ?_
      refine St.p rfl rfl ?_
      refine St.gOn (dj := 23) rfl rfl ?_
      refine St.loadB 3 rfl rfl (.head _) rfl rfl ?_
      refine St.gOn (dj := 23) rfl rfl ?_
      refine St.p rfl rfl ?_
      refine St.gOn (dj := 23) rfl rfl ?_
      iterate 3 refine St.p rfl rfl ?_
      refine St.gSplit (dj := 32) _ rfl (fun hb2 => ?_) (fun hb2 => ?_)
      · replace hj1 := bif_t hb2 hj1
        refine St.gOn (dj := 32) rfl rfl ?_
        refine St.p rfl rfl ?_
        refine St.gOn (dj := 32) rfl rfl ?_
        refine St.p rfl rfl ?_
        refine St.gOn (dj := 32) rfl rfl ?_
        refine St.loadB 3 rfl rfl (.head _) rfl rfl ?_
        refine St.gOn (dj := 32) rfl rfl ?_
        refine St.p rfl rfl ?_
        refine St.gOn (dj := 32) rfl rfl ?_
        refine St.loadB 4 rfl rfl (.head _) rfl rfl ?_
        refine St.gOn (dj := 32) rfl rfl ?_
        obtain ⟨x1, hx1, hj1⟩ := bnd_e hj1
        refine St.ixL hx1 rfl rfl rfl (.tail _ (.tail _ (.tail _ (.tail _ (.head _))))) rfl rfl rfl rfl rfl fun b1 ob1 => ?_
        refine St.gOn (dj := 32) rfl rfl ?_
        refine St.p rfl rfl ?_
        refine St.gOn (dj := 32) rfl rfl ?_
        refine St.load ob1 1 rfl rfl (.head _) rfl rfl ?_
        refine St.gOn (dj := 32) rfl rfl ?_
        refine St.p rfl rfl ?_
        refine St.p rfl rfl ?_
        refine St.done ?_
        injection hj1 with hj1
        subst hj1
        refine St.thenN ?_
        exact St.hereE () ⟨rfl, rfl, rfl, rfl, rfl, trivial⟩ (fun _ w => ((.d (.k (.k (.k (.k (.k .z)))))) : Keep _ _).sat w)
      · replace hj1 := bif_f hb2 hj1
        refine St.gOff (dj := 32) rfl rfl rfl rfl ?_
        refine St.gOff (dj := 32) rfl rfl rfl rfl ?_
        refine St.gOff (dj := 32) rfl rfl rfl rfl ?_
        refine St.gOff (dj := 32) rfl rfl rfl rfl ?_
        refine St.gOff (dj := 32) rfl rfl rfl rfl ?_
        refine St.gOff (dj := 32) rfl rfl rfl rfl ?_
        refine St.gOff (dj := 32) rfl rfl rfl rfl ?_
        refine St.gOff (dj := 32) rfl rfl rfl rfl ?_
        refine St.gOff (dj := 32) rfl rfl rfl rfl ?_
        refine St.p rfl rfl ?_
        refine St.done ?_
        injection hj1 with hj1
        subst hj1
        refine St.thenN ?_
        exact St.hereE () ⟨rfl, rfl, rfl, rfl, rfl, trivial⟩ (fun _ w => ((.k (.k (.k (.k (.k .z))))) : Keep _ _).sat w)
    · replace hj1 := bif_f hb1 hj1
      refine St.gOff (dj := 23) rfl rfl rfl rfl ?_
      refine St.gOff (dj := 23) rfl rfl rfl rfl ?_
      refine St.gOff (dj := 23) rfl rfl rfl rfl ?_
      refine St.gOff (dj := 23) rfl rfl rfl rfl ?_
      refine St.gOff (dj := 23) rfl rfl rfl rfl ?_
      refine St.gOff (dj := 23) rfl rfl rfl rfl ?_
      refine St.gOff (dj := 23) rfl rfl rfl rfl ?_
      refine St.p rfl rfl ?_
      refine St.p rfl rfl ?_
      refine St.gOff (dj := 32) rfl rfl rfl rfl ?_
      refine St.gOff (dj := 32) rfl rfl rfl rfl ?_
      refine St.gOff (dj := 32) rfl rfl rfl rfl ?_
      refine St.gOff (dj := 32) rfl rfl rfl rfl ?_
      refine St.gOff (dj := 32) rfl rfl rfl rfl ?_
      refine St.gOff (dj := 32) rfl rfl rfl rfl ?_
      refine St.gOff (dj := 32) rfl rfl rfl rfl ?_
      refine St.gOff (dj := 32) rfl rfl rfl rfl ?_
      refine St.gOff (dj := 32) rfl rfl rfl rfl ?_
      refine St.p rfl rfl ?_
      refine St.done ?_
      injection hj1 with hj1
      subst hj1
      refine St.thenN ?_
      exact St.hereE () ⟨rfl, rfl, rfl, rfl, rfl, trivial⟩ (fun _ w => ((.k (.k (.k (.k (.k .z))))) : Keep _ _).sat w)
  · rintro e1
    refine St.cond _ rfl (fun hb3 => ?_) (fun hb3 => ?_)
    · replace h := bif_t hb3 h
      refine St.seq ?_
      refine St.region ?_
      refine St.p rfl rfl ?_
      refine St.p rfl rfl ?_
      refine St.loadB 3 rfl rfl (.head _) rfl rfl ?_
      refine St.p rfl rfl ?_
      refine St.loadB 4 rfl rfl (.head _) rfl rfl ?_
      obtain ⟨x2, hx2, h⟩ := bnd_e h
      refine St.ixL hx2 rfl rfl rfl (.tail _ (.tail _ (.tail _ (.tail _ (.head _))))) rfl rfl rfl rfl rfl fun b2 ob2 => ?_
      refine St.p rfl rfl ?_
      refine St.load ob2 1 rfl rfl (.head _) rfl rfl ?_
      refine St.p rfl rfl ?_
      refine St.done ?_
      refine St.thenN ?_
      refine St.prune (Γ' := [(2, _)]) ⟨rfl, trivial⟩ (.d (.d (.d (.d (.d (.d .z)))))) ?_
      refine St.ret ?_
      repeat (first | refine St.thenR ?_ | refine St.blkR ?_)
      injection h with h
      subst h
      exact St.finR Tryd.results19 (.tmp rfl .nil) rfl [] ⟨rfl, rfl⟩ (fun _ w => (.z : Keep _ _).sat w)
    · replace h := bif_f hb3 h
      refine St.skip ?_
      refine St.blkN ?_
      refine St.thenN ?_
      refine St.prune (Γ' := [(14, _), (15, _), (16, _)]) ⟨rfl, rfl, rfl, trivial⟩ (.d (.k (.k (.k (.k .z))))) ?_
      refine St.region ?_
      refine St.p rfl rfl ?_
      refine St.p rfl rfl ?_
      refine St.done ?_
      refine St.thenN ?_
      refine St.round ?_
      refine St.prune (Γ' := [(14, _), (15, _), (16, _)]) ⟨rfl, rfl, rfl, trivial⟩ (.k (.k (.k (.k .z)))) ?_
      refine St.seq ?_
      refine St.region ?_
      refine St.p rfl rfl ?_
      refine St.done ?_
      refine St.thenN ?_
      refine St.seq ?_
      refine St.condT rfl ?_
      refine St.skip ?_
      refine St.thenN ?_
      refine St.prune (Γ' := [(14, _), (15, _), (16, _)]) ⟨rfl, rfl, rfl, trivial⟩ (.k (.k (.k (.k .z)))) ?_
      refine St.seq ?_
      refine St.block ?_
      refine St.seq ?_
      refine St.region ?_
      refine St.ixB 5 rfl rfl rfl rfl rfl rfl rfl rfl rfl rfl ?_
      refine St.loadB 5 rfl rfl (.head _) rfl rfl ?_
      refine St.alloc rfl rfl fun g4 => ?_
      refine St.store 0 rfl rfl rfl rfl rfl rfl .z rfl ?_
      refine St.done ?_
      refine St.thenN ?_
      refine St.prune (Γ' := [(4, _), (14, _), (15, _), (16, _)]) ⟨rfl, rfl, rfl, rfl, trivial⟩ (.k (.k (.k (.k (.k .z))))) ?_
      refine St.seq ?_
      obtain ⟨o2, hj2, h⟩ := bnd_e h
      refine St.cutE (fun (e2 : Unit) => [(4, .pointer (some ⟨g4, 0, none⟩)), (14, .slice (some ⟨g2, 0, none⟩) 3 3), (15, .int .i64 ((3 : Nat) : Int)), (16, .int .i64 1), (42, .bool o2)]) (fun e2 => .res (Box g4 72 [.bool i_p0.Board.Present, .int .u8 i_p0.Board.Code, .int .u32 i_p0.Board.Minutes, .slice A2 i_p0.Board.Fields.length c2, .int .i64 2]) :: .res (Box g2 72 [.bool i_p0.Product.Present, .int .u8 i_p0.Product.Code, .int .u32 i_p0.Product.Minutes, .slice A3 i_p0.Product.Fields.length c3, .int .i64 4, .bool i_p0.Board.Present, .int .u8 i_p0.Board.Code, .int .u32 i_p0.Board.Minutes, .slice A2 i_p0.Board.Fields.length c2, .int .i64 2, .bool i_p0.Chassis.Present, .int .u8 i_p0.Chassis.Code, .int .u32 i_p0.Chassis.Minutes, .slice A1 i_p0.Chassis.Fields.length c1, .int .i64 1]) :: .ro (SlL e_Field A1 c1 i_p0.Chassis.Fields) :: .ro (SlL e_Field A2 c2 i_p0.Board.Fields) :: .ro (SlL e_Field A3 c3 i_p0.Product.Fields) :: R) ?_ ?_
      · refine St.region ?_
        refine St.p rfl rfl ?_
        refine St.p rfl rfl ?_
        refine St.loadB 0 rfl rfl (.head _) rfl rfl ?_
        refine St.p rfl rfl ?_
        refine St.gSplit (dj := 23) _ rfl (fun hb4 => ?_) (fun hb4 => ?_)
        · replace hj2 := bif_t hb4 hj2
          refine St.gOn (dj := 23) rfl rfl ?_
          refine St.p rfl rfl ?_
          refine St.gOn (dj := 23) rfl rfl ?_
          refine St.loadB 4 rfl rfl (.head _) rfl rfl ?_
          refine St.gOn (dj := 23) rfl rfl ?_
          refine St.p rfl rfl ?_
          refine St.gOn (dj := 23) rfl rfl ?_
          refine St.p rfl rfl ?_
          refine St.gOn (dj := 23) rfl rfl ?_
          refine St.loadB 3 rfl rfl (.head _) rfl rfl ?_
          refine St.gOn (dj := 23) rfl rfl ?_
          refine St.p rfl rfl ?_
          refine St.gOn (dj := 23) rfl rfl ?_
          iterate 3 refine St.p rfl rfl ?_
          refine St.gSplit (dj := 32) _ rfl (fun hb5 => ?_) (fun hb5 => ?_)
          · replace hj2 := bif_t hb5 hj2
            refine St.gOn (dj := 32) rfl rfl ?_
            refine St.p rfl rfl ?_
            refine St.gOn (dj := 32) rfl rfl ?_
            refine St.p rfl rfl ?_
            refine St.gOn (dj := 32) rfl rfl ?_
            refine St.loadB 3 rfl rfl (.head _) rfl rfl ?_
            refine St.gOn (dj := 32) rfl rfl ?_
            refine St.p rfl rfl ?_
            refine St.gOn (dj := 32) rfl rfl ?_
            refine St.loadB 4 rfl rfl (.head _) rfl rfl ?_
            refine St.gOn (dj := 32) rfl rfl ?_
            obtain ⟨x3, hx3, hj2⟩ := bnd_e hj2
            refine St.ixL hx3 rfl rfl rfl (.tail _ (.tail _ (.tail _ (.head _)))) rfl rfl rfl rfl rfl fun b3 ob3 => ?_
            refine St.gOn (dj := 32) rfl rfl ?_
            refine St.p rfl rfl ?_
            refine St.gOn (dj := 32) rfl rfl ?_
            refine St.load ob3 1 rfl rfl (.head _) rfl rfl ?_
            refine St.gOn (dj := 32) rfl rfl ?_
            refine St.p rfl rfl ?_
            refine St.p rfl rfl ?_
            refine St.done ?_
            injection hj2 with hj2
            subst hj2
            refine St.thenN ?_
            exact St.hereE () ⟨rfl, rfl, rfl, rfl, rfl, trivial⟩ (fun _ w => ((.d (.k (.k (.k (.k (.k .z)))))) : Keep _ _).sat w)
          · replace hj2 := bif_f hb5 hj2
            refine St.gOff (dj := 32) rfl rfl rfl rfl ?_
            refine St.gOff (dj := 32) rfl rfl rfl rfl ?_
            refine St.gOff (dj := 32) rfl rfl rfl rfl ?_
            refine St.gOff (dj := 32) rfl rfl rfl rfl ?_
            refine St.gOff (dj := 32) rfl rfl rfl rfl ?_
            refine St.gOff (dj := 32) rfl rfl rfl rfl ?_
            refine St.gOff (dj := 32) rfl rfl rfl rfl ?_
            refine St.gOff (dj := 32) rfl rfl rfl rfl ?_
            refine St.gOff (dj := 32) rfl rfl rfl rfl ?_
            refine St.p rfl rfl ?_
            refine St.done ?_
            injection hj2 with hj2
            subst hj2
            refine St.thenN ?_
            exact St.hereE () ⟨rfl, rfl, rfl, rfl, rfl, trivial⟩ (fun _ w => ((.k (.k (.k (.k (.k .z))))) : Keep _ _).sat w)
        · replace hj2 := bif_f hb4 hj2
          refine St.gOff (dj := 23) rfl rfl rfl rfl ?_
          refine St.gOff (dj := 23) rfl rfl rfl rfl ?_
          refine St.gOff (dj := 23) rfl rfl rfl rfl ?_
          refine St.gOff (dj := 23) rfl rfl rfl rfl ?_
          refine St.gOff (dj := 23) rfl rfl rfl rfl ?_
          refine St.gOff (dj := 23) rfl rfl rfl rfl ?_
          refine St.gOff (dj := 23) rfl rfl rfl rfl ?_
          refine St.p rfl rfl ?_
          refine St.p rfl rfl ?_
          refine St.gOff (dj := 32) rfl rfl rfl rfl ?_
          refine St.gOff (dj := 32) rfl rfl rfl rfl ?_
          refine St.gOff (dj := 32) rfl rfl rfl rfl ?_
          refine St.gOff (dj := 32) rfl rfl rfl rfl ?_
          refine St.gOff (dj := 32) rfl rfl rfl rfl ?_
          refine St.gOff (dj := 32) rfl rfl rfl rfl ?_
          refine St.gOff (dj := 32) rfl rfl rfl rfl ?_
          refine St.gOff (dj := 32) rfl rfl rfl rfl ?_
          refine St.gOff (dj := 32) rfl rfl rfl rfl ?_
          refine St.p rfl rfl ?_
          refine St.done ?_
          injection hj2 with hj2
          subst hj2
          refine St.thenN ?_
          exact St.hereE () ⟨rfl, rfl, rfl, rfl, rfl, trivial⟩ (fun _ w => ((.k (.k (.k (.k (.k .z))))) : Keep _ _).sat w)
      · rintro e2
        refine St.cond _ rfl (fun hb6 => ?_) (fun hb6 => ?_)
        · replace h := bif_t hb6 h
          refine St.seq ?_
          refine St.region ?_
          refine St.p rfl rfl ?_
          refine St.p rfl rfl ?_
          refine St.loadB 3 rfl rfl (.head _) rfl rfl ?_
          refine St.p rfl rfl ?_
          refine St.loadB 4 rfl rfl (.head _) rfl rfl ?_
          obtain ⟨x4, hx4, h⟩ := bnd_e h
          refine St.ixL hx4 rfl rfl rfl (.tail _ (.tail _ (.tail _ (.head _)))) rfl rfl rfl rfl rfl fun b4 ob4 => ?_
          refine St.p rfl rfl ?_
          refine St.load ob4 1 rfl rfl (.head _) rfl rfl ?_
          refine St.p rfl rfl ?_
          refine St.done ?_
          refine St.thenN ?_
          refine St.prune (Γ' := [(2, _)]) ⟨rfl, trivial⟩ (.d (.d (.d (.d (.d (.d .z)))))) ?_
          refine St.ret ?_
          repeat (first | refine St.thenR ?_ | refine St.blkR ?_)
          injection h with h
          subst h
          exact St.finR Tryd.results19 (.tmp rfl .nil) rfl [] ⟨rfl, rfl⟩ (fun _ w => (.z : Keep _ _).sat w)
        · replace h := bif_f hb6 h
          refine St.skip ?_
          refine St.blkN ?_
          refine St.thenN ?_
          refine St.prune (Γ' := [(14, _), (15, _), (16, _)]) ⟨rfl, rfl, rfl, trivial⟩ (.d (.k (.k (.k (.k .z))))) ?_
          refine St.region ?_
          refine St.p rfl rfl ?_
          refine St.p rfl rfl ?_
          refine St.done ?_
          refine St.thenN ?_
          refine St.round ?_
          refine St.prune (Γ' := [(14, _), (15, _), (16, _)]) ⟨rfl, rfl, rfl, trivial⟩ (.k (.k (.k (.k .z)))) ?_
          refine St.seq ?_
          refine St.region ?_
          refine St.p rfl rfl ?_
          refine St.done ?_
          refine St.thenN ?_
          refine St.seq ?_
          refine St.condT rfl ?_
          refine St.skip ?_
          refine St.thenN ?_
          refine St.prune (Γ' := [(14, _), (15, _), (16, _)]) ⟨rfl, rfl, rfl, trivial⟩ (.k (.k (.k (.k .z)))) ?_
          refine St.seq ?_
          refine St.block ?_
          refine St.seq ?_
          refine St.region ?_
          refine St.ixB 10 rfl rfl rfl rfl rfl rfl rfl rfl rfl rfl ?_
          refine St.loadB 10 rfl rfl (.head _) rfl rfl ?_
          refine St.alloc rfl rfl fun g5 => ?_
          refine St.store 0 rfl rfl rfl rfl rfl rfl .z rfl ?_
          refine St.done ?_
          refine St.thenN ?_
          refine St.prune (Γ' := [(4, _), (14, _), (15, _), (16, _)]) ⟨rfl, rfl, rfl, rfl, trivial⟩ (.k (.k (.k (.k (.k .z))))) ?_
          refine St.seq ?_
          obtain ⟨o3, hj3, h⟩ := bnd_e h
          refine St.cutE (fun (e3 : Unit) => [(4, .pointer (some ⟨g5, 0, none⟩)), (14, .slice (some ⟨g2, 0, none⟩) 3 3), (15, .int .i64 ((3 : Nat) : Int)), (16, .int .i64 2), (42, .bool o3)]) (fun e3 => .res (Box g5 72 [.bool i_p0.Chassis.Present, .int .u8 i_p0.Chassis.Code, .int .u32 i_p0.Chassis.Minutes, .slice A1 i_p0.Chassis.Fields.length c1, .int .i64 1]) :: .res (Box g2 72 [.bool i_p0.Product.Present, .int .u8 i_p0.Product.Code, .int .u32 i_p0.Product.Minutes, .slice A3 i_p0.Product.Fields.length c3, .int .i64 4, .bool i_p0.Board.Present, .int .u8 i_p0.Board.Code, .int .u32 i_p0.Board.Minutes, .slice A2 i_p0.Board.Fields.length c2, .int .i64 2, .bool i_p0.Chassis.Present, .int .u8 i_p0.Chassis.Code, .int .u32 i_p0.Chassis.Minutes, .slice A1 i_p0.Chassis.Fields.length c1, .int .i64 1]) :: .ro (SlL e_Field A1 c1 i_p0.Chassis.Fields) :: .ro (SlL e_Field A2 c2 i_p0.Board.Fields) :: .ro (SlL e_Field A3 c3 i_p0.Product.Fields) :: R) ?_ ?_
          · refine St.region ?_
            refine St.p rfl rfl ?_
            refine St.p rfl rfl ?_
            refine St.loadB 0 rfl rfl (.head _) rfl rfl ?_
            refine St.p rfl rfl ?_
            refine St.gSplit (dj := 23) _ rfl (fun hb7 => ?_) (fun hb7 => ?_)
            · replace hj3 := bif_t hb7 hj3
              refine St.gOn (dj := 23) rfl rfl ?_
              refine St.p rfl rfl ?_
              refine St.gOn (dj := 23) rfl rfl ?_
              refine St.loadB 4 rfl rfl (.head _) rfl rfl ?_
              refine St.gOn (dj := 23) rfl rfl ?_
              refine St.p rfl rfl ?_
              refine St.gOn (dj := 23) rfl rfl ?_
              refine St.p rfl rfl ?_
              refine St.gOn (dj := 23) rfl rfl ?_
              refine St.loadB 3 rfl rfl (.head _) rfl rfl ?_
              refine St.gOn (dj := 23) rfl rfl ?_
              refine St.p rfl rfl ?_
              refine St.gOn (dj := 23) rfl rfl ?_
              iterate 3 refine St.p rfl rfl ?_
              refine St.gSplit (dj := 32) _ rfl (fun hb8 => ?_) (fun hb8 => ?_)
              · replace hj3 := bif_t hb8 hj3
                refine St.gOn (dj := 32) rfl rfl ?_
                refine St.p rfl rfl ?_
                refine St.gOn (dj := 32) rfl rfl ?_
                refine St.p rfl rfl ?_
                refine St.gOn (dj := 32) rfl rfl ?_
                refine St.loadB 3 rfl rfl (.head _) rfl rfl ?_
                refine St.gOn (dj := 32) rfl rfl ?_
                refine St.p rfl rfl ?_
                refine St.gOn (dj := 32) rfl rfl ?_
                refine St.loadB 4 rfl rfl (.head _) rfl rfl ?_
                refine St.gOn (dj := 32) rfl rfl ?_
                obtain ⟨x5, hx5, hj3⟩ := bnd_e hj3
                refine St.ixL hx5 rfl rfl rfl (.tail _ (.tail _ (.head _))) rfl rfl rfl rfl rfl fun b5 ob5 => ?_
                refine St.gOn (dj := 32) rfl rfl ?_
                refine St.p rfl rfl ?_
                refine St.gOn (dj := 32) rfl rfl ?_
                refine St.load ob5 1 rfl rfl (.head _) rfl rfl ?_
                refine St.gOn (dj := 32) rfl rfl ?_
                refine St.p rfl rfl ?_
                refine St.p rfl rfl ?_
                refine St.done ?_
                injection hj3 with hj3
                subst hj3
                refine St.thenN ?_
                exact St.hereE () ⟨rfl, rfl, rfl, rfl, rfl, trivial⟩ (fun _ w => ((.d (.k (.k (.k (.k (.k .z)))))) : Keep _ _).sat w)
              · replace hj3 := bif_f hb8 hj3
                refine St.gOff (dj := 32) rfl rfl rfl rfl ?_
                refine St.gOff (dj := 32) rfl rfl rfl rfl ?_
                refine St.gOff (dj := 32) rfl rfl rfl rfl ?_
                refine St.gOff (dj := 32) rfl rfl rfl rfl ?_
                refine St.gOff (dj := 32) rfl rfl rfl rfl ?_
                refine St.gOff (dj := 32) rfl rfl rfl rfl ?_
                refine St.gOff (dj := 32) rfl rfl rfl rfl ?_
                refine St.gOff (dj := 32) rfl rfl rfl rfl ?_
                refine St.gOff (dj := 32) rfl rfl rfl rfl ?_
                refine St.p rfl rfl ?_
                refine St.done ?_
                injection hj3 with hj3
                subst hj3
                refine St.thenN ?_
                exact St.hereE () ⟨rfl, rfl, rfl, rfl, rfl, trivial⟩ (fun _ w => ((.k (.k (.k (.k (.k .z))))) : Keep _ _).sat w)
            · replace hj3 := bif_f hb7 hj3
              refine St.gOff (dj := 23) rfl rfl rfl rfl ?_
              refine St.gOff (dj := 23) rfl rfl rfl rfl ?_
              refine St.gOff (dj := 23) rfl rfl rfl rfl ?_
              refine St.gOff (dj := 23) rfl rfl rfl rfl ?_
              refine St.gOff (dj := 23) rfl rfl rfl rfl ?_
              refine St.gOff (dj := 23) rfl rfl rfl rfl ?_
              refine St.gOff (dj := 23) rfl rfl rfl rfl ?_
              refine St.p rfl rfl ?_
              refine St.p rfl rfl ?_
              refine St.gOff (dj := 32) rfl rfl rfl rfl ?_
              refine St.gOff (dj := 32) rfl rfl rfl rfl ?_
              refine St.gOff (dj := 32) rfl rfl rfl rfl ?_
              refine St.gOff (dj := 32) rfl rfl rfl rfl ?_
              refine St.gOff (dj := 32) rfl rfl rfl rfl ?_
              refine St.gOff (dj := 32) rfl rfl rfl rfl ?_
              refine St.gOff (dj := 32) rfl rfl rfl rfl ?_
              refine St.gOff (dj := 32) rfl rfl rfl rfl ?_
              refine St.gOff (dj := 32) rfl rfl rfl rfl ?_
              refine St.p rfl rfl ?_
              refine St.done ?_
              injection hj3 with hj3
              subst hj3
              refine St.thenN ?_
              exact St.hereE () ⟨rfl, rfl, rfl, rfl, rfl, trivial⟩ (fun _ w => ((.k (.k (.k (.k (.k .z))))) : Keep _ _).sat w)
          · rintro e3
            refine St.cond _ rfl (fun hb9 => ?_) (fun hb9 => ?_)
            · replace h := bif_t hb9 h
              refine St.seq ?_
              refine St.region ?_
              refine St.p rfl rfl ?_
              refine St.p rfl rfl ?_
              refine St.loadB 3 rfl rfl (.head _) rfl rfl ?_
              refine St.p rfl rfl ?_
              refine St.loadB 4 rfl rfl (.head _) rfl rfl ?_
              obtain ⟨x6, hx6, h⟩ := bnd_e h
              refine St.ixL hx6 rfl rfl rfl (.tail _ (.tail _ (.head _))) rfl rfl rfl rfl rfl fun b6 ob6 => ?_
              refine St.p rfl rfl ?_
              refine St.load ob6 1 rfl rfl (.head _) rfl rfl ?_
              refine St.p rfl rfl ?_
              refine St.done ?_
              refine St.thenN ?_
              refine St.prune (Γ' := [(2, _)]) ⟨rfl, trivial⟩ (.d (.d (.d (.d (.d (.d .z)))))) ?_
              refine St.ret ?_
              repeat (first | refine St.thenR ?_ | refine St.blkR ?_)
              injection h with h
              subst h
              exact St.finR Tryd.results19 (.tmp rfl .nil) rfl [] ⟨rfl, rfl⟩ (fun _ w => (.z : Keep _ _).sat w)
            · replace h := bif_f hb9 h
              refine St.skip ?_
              refine St.blkN ?_
              refine St.thenN ?_
              refine St.prune (Γ' := [(14, _), (15, _), (16, _)]) ⟨rfl, rfl, rfl, trivial⟩ (.d (.k (.k (.k (.k .z))))) ?_
              refine St.region ?_
              refine St.p rfl rfl ?_
              refine St.p rfl rfl ?_
              refine St.done ?_
              refine St.thenN ?_
              refine St.round ?_
              refine St.prune (Γ' := [(14, _), (15, _), (16, _)]) ⟨rfl, rfl, rfl, trivial⟩ (.k (.k (.k (.k .z)))) ?_
              refine St.seq ?_
              refine St.region ?_
              refine St.p rfl rfl ?_
              refine St.done ?_
              refine St.thenN ?_
              refine St.seq ?_
              refine St.condF rfl ?_
              refine St.exit ?_
              repeat (first | refine St.thenX ?_ | refine St.blkMiss rfl ?_)
              refine St.blkHit ?_
              refine St.thenN ?_
              refine St.prune (Γ' := []) trivial (.d (.d (.d (.d .z)))) ?_
              refine St.seq ?_
              refine St.region ?_
              refine St.p rfl rfl ?_
              refine St.done ?_
              refine St.thenN ?_
              refine St.ret ?_
              repeat (first | refine St.thenR ?_ | refine St.blkR ?_)
              injection h with h
              subst h
              exact St.finR Tryd.results19 (.tmp rfl .nil) rfl [] ⟨rfl, rfl⟩ (fun _ w => (.z : Keep _ _).sat w)

theorem ent56 : Ent Tryd.prog 56 := ⟨_, Tryd.func56, by kernel_rfl, by kernel_rfl⟩

noncomputable def m_checksum_Open8 (b_p0 : (List Int)) : Option ((List Int) × Int) :=
  bif ((b_p0.length : Int) == 0) then (some ([], 4)) else (bnd (m_checksum_Sum8 b_p0) fun r1 => bif (r1 != 0) then (some ([], 5)) else (bnd (sub b_p0 0 (IntKind.wrap .i64 ((b_p0.length : Int) - 1))) fun l1 => bnd (m_slices_Clone__byte_byte l1) fun r2 => some (r2, 0)))

theorem c_checksum_Open8 {b_p0 : (List Int)} {A1 : Option Addr} {c1 : Nat} {r : ((List Int) × Int)} (h : m_checksum_Open8 b_p0 = some r) :
    Fun Tryd.prog 56 [.slice A1 b_p0.length c1] [.ro (SlL eu8 A1 c1 b_p0)] (fun v_ F_ => ∃ (A1 : Option Addr) (c1 : Nat), v_ = .tuple #[.slice A1 r.1.length c1, .int .i64 r.2] ∧ F_ = [.res (OwnL eu8 5 A1 c1 r.1)]) := by
  unfold m_checksum_Open8 at h
  refine Fun.intro Tryd.func56 rfl rfl rfl fun w R => ?_
  refine St.seq ?_
  refine St.region ?_
  refine St.p rfl rfl ?_
  refine St.p rfl rfl ?_
  refine St.done ?_
  refine St.thenN ?_
  refine St.prune (Γ' := [(0, _)]) ⟨rfl, trivial⟩ (.k .z) ?_
  refine St.seq ?_
  refine St.block ?_
  refine St.seq ?_
  refine St.region ?_
  iterate 4 refine St.p rfl rfl ?_
  refine St.done ?_
  refine St.thenN ?_
  refine St.prune (Γ' := [(0, _), (4, _)]) ⟨rfl, rfl, trivial⟩ (.k .z) ?_
  refine St.cond _ rfl (fun hb1 => ?_) (fun hb1 => ?_)
  · replace h := bif_t hb1 h
    refine St.seq ?_
    refine St.region ?_
    refine St.p rfl rfl ?_
    refine St.p rfl rfl ?_
    refine St.done ?_
    refine St.thenN ?_
    refine St.prune (Γ' := [(2, _), (3, _)]) ⟨rfl, rfl, trivial⟩ (.d .z) ?_
    refine St.ret ?_
    repeat (first | refine St.thenR ?_ | refine St.blkR ?_)
    refine St.asrt (fun _ w => w.nilL eu8 5) ?_
    injection h with h
    subst h
    exact St.finR Tryd.results56 (.tmp rfl (.tmp rfl .nil)) rfl [.res (OwnL eu8 5 none 0 ([] : List Int))] ⟨none, 0, rfl, rfl⟩ (fun _ w => ((.k .z) : Keep _ _).sat w)
  · replace h := bif_f hb1 h
    refine St.seq ?_
    refine St.region ?_
    refine St.p rfl rfl ?_
    obtain ⟨r1, hr1, h⟩ := bnd_e h
    refine St.callV (c_checksum_Sum8 hr1) ent39 rfl rfl rfl rfl ⟨(.head _), trivial⟩ ?_
    refine St.p rfl rfl ?_
    refine St.p rfl rfl ?_
    refine St.done ?_
    refine St.thenN ?_
    refine St.prune (Γ' := [(0, _), (8, _)]) ⟨rfl, rfl, trivial⟩ (.k .z) ?_
    refine St.cond _ rfl (fun hb2 => ?_) (fun hb2 => ?_)
    · replace h := bif_t hb2 h
      refine St.seq ?_
      refine St.region ?_
      refine St.p rfl rfl ?_
      refine St.p rfl rfl ?_
      refine St.done ?_
      refine St.thenN ?_
      refine St.prune (Γ' := [(2, _), (3, _)]) ⟨rfl, rfl, trivial⟩ (.d .z) ?_
      refine St.ret ?_
      repeat (first | refine St.thenR ?_ | refine St.blkR ?_)
      refine St.asrt (fun _ w => w.nilL eu8 5) ?_
      injection h with h
      subst h
      exact St.finR Tryd.results56 (.tmp rfl (.tmp rfl .nil)) rfl [.res (OwnL eu8 5 none 0 ([] : List Int))] ⟨none, 0, rfl, rfl⟩ (fun _ w => ((.k .z) : Keep _ _).sat w)
    · replace h := bif_f hb2 h
      refine St.skip ?_
      refine St.blkN ?_
      refine St.thenN ?_
      refine St.prune (Γ' := [(0, _)]) ⟨rfl, trivial⟩ (.k .z) ?_
      refine St.seq ?_
      refine St.region ?_
      iterate 4 refine St.p rfl rfl ?_
      obtain ⟨l1, hl1, h⟩ := bnd_e h
      refine St.sub (E := (cod eu8)) rfl rfl (.head _) rfl rfl rfl rfl rfl rfl rfl hl1 fun A2 c2 => ?_
      obtain ⟨r2, hr2, h⟩ := bnd_e h
      refine St.call (c_slices_Clone__byte_byte hr2) ent41 rfl rfl rfl (fun _ w => Sat.dup (G := [.ro (SlL eu8 A2 c2 l1)]) rfl ⟨(.head _), trivial⟩ w) ?_
      rintro _ _ ⟨A3, c3, rfl, rfl⟩
      refine St.asrt (F' := .res (OwnL eu8 5 A3 c3 r2) :: .ro (SlL eu8 A2 c2 l1) :: .ro (SlL eu8 A1 c1 b_p0) :: R) (fun _ w => w) ?_
      refine St.p rfl rfl ?_
      refine St.p rfl rfl ?_
      refine St.done ?_
      refine St.thenN ?_
      refine St.prune (Γ' := [(2, _), (3, _)]) ⟨rfl, rfl, trivial⟩ (.k (.d (.d .z))) ?_
      refine St.ret ?_
      repeat (first | refine St.thenR ?_ | refine St.blkR ?_)
      injection h with h
      subst h
      exact St.finR Tryd.results56 (.tmp rfl (.tmp rfl .nil)) rfl [.res (OwnL eu8 5 A3 c3 r2)] ⟨A3, c3, rfl, rfl⟩ (fun _ w => ((.k .z) : Keep _ _).sat w)

theorem ent58 : Ent Tryd.prog 58 := ⟨_, Tryd.func58, by kernel_rfl, by kernel_rfl⟩

noncomputable def m_unitinfo_fieldsAt (k_p0 : Int) : Option Int :=
  bif (k_p0 == 1) then (some 6) else (some 3)

theorem c_unitinfo_fieldsAt {k_p0 : Int} {r : Int} (h : m_unitinfo_fieldsAt k_p0 = some r) :
    Fun Tryd.prog 58 [.int .i64 k_p0] [] (Val (.int .i64 r)) := by
  unfold m_unitinfo_fieldsAt at h
  refine Fun.intro Tryd.func58 rfl rfl rfl fun w R => ?_
  refine St.seq ?_
  refine St.region ?_
  refine St.p rfl rfl ?_
  refine St.done ?_
  refine St.thenN ?_
  refine St.prune (Γ' := [(0, _)]) ⟨rfl, trivial⟩ .z ?_
  refine St.seq ?_
  refine St.seq ?_
  refine St.region ?_
  refine St.p rfl rfl ?_
  refine St.p rfl rfl ?_
  refine St.done ?_
  refine St.thenN ?_
  refine St.prune (Γ' := [(4, _)]) ⟨rfl, trivial⟩ .z ?_
  refine St.cond _ rfl (fun hb1 => ?_) (fun hb1 => ?_)
  · replace h := bif_t hb1 h
    refine St.seq ?_
    refine St.region ?_
    refine St.p rfl rfl ?_
    refine St.done ?_
    refine St.thenN ?_
    refine St.prune (Γ' := [(2, _)]) ⟨rfl, trivial⟩ .z ?_
    refine St.ret ?_
    repeat (first | refine St.thenR ?_ | refine St.blkR ?_)
    injection h with h
    subst h
    exact St.finR Tryd.results58 (.tmp rfl .nil) rfl [] ⟨rfl, rfl⟩ (fun _ w => (.z : Keep _ _).sat w)
  · replace h := bif_f hb1 h
    refine St.skip ?_
    refine St.thenN ?_
    refine St.prune (Γ' := []) trivial .z ?_
    refine St.seq ?_
    refine St.region ?_
    refine St.p rfl rfl ?_
    refine St.done ?_
    refine St.thenN ?_
    refine St.ret ?_
    repeat (first | refine St.thenR ?_ | refine St.blkR ?_)
    injection h with h
    subst h
    exact St.finR Tryd.results58 (.tmp rfl .nil) rfl [] ⟨rfl, rfl⟩ (fun _ w => (.z : Keep _ _).sat w)

theorem ent89 : Ent Tryd.prog 89 := ⟨_, Tryd.func89, by kernel_rfl, by kernel_rfl⟩

noncomputable def m_fields_decimal (b_p0 : (List Int)) : Option (ByteArray × Bool) :=
  bnd (loopM (τ := (ByteArray × Bool) ⊕ List Int) (fun (s1 : List Int × Int) => bif decide (s1.2 < (b_p0.length : Int)) then (bnd (elt b_p0 s1.2) fun x1 => bif decide ((IntKind.wrap .i64 (iShr .u8 x1 4)) ≥ 13) then (some (.done (.inl (⟨#[]⟩, false)))) else (bnd (eltS (⟨#[48, 49, 50, 51, 52, 53, 54, 55, 56, 57, 32, 45, 46]⟩) (iShr .u8 x1 4)) fun y1 => bnd (app 1 s1.1 [y1]) fun l1 => bif decide ((IntKind.wrap .i64 (iAnd .u8 x1 15)) ≥ 13) then (some (.done (.inl (⟨#[]⟩, false)))) else (bnd (eltS (⟨#[48, 49, 50, 51, 52, 53, 54, 55, 56, 57, 32, 45, 46]⟩) (iAnd .u8 x1 15)) fun y2 => bnd (app 1 l1 [y2]) fun l2 => some (.next (l2, IntKind.wrap .i64 (s1.2 + 1)))))) else (some (.done (.inr s1.1)))) ([], 0)) fun o1 => retOr o1 fun o2 => some (strOf o2, true)

theorem c_fields_decimal {b_p0 : (List Int)} {A1 : Option Addr} {c1 : Nat} {r : (ByteArray × Bool)} (h : m_fields_decimal b_p0 = some r) :
    Fun Tryd.prog 89 [.slice A1 b_p0.length c1] [.ro (SlL eu8 A1 c1 b_p0)] (Val (.tuple #[.string r.1, .bool r.2])) := by
  unfold m_fields_decimal at h
  refine Fun.intro Tryd.func89 rfl rfl rfl fun w R => ?_
  refine St.seq ?_
  refine St.region ?_
  refine St.p rfl rfl ?_
  refine St.p rfl rfl ?_
  refine St.done ?_
  refine St.thenN ?_
  refine St.prune (Γ' := [(0, _)]) ⟨rfl, trivial⟩ (.k .z) ?_
  refine St.seq ?_
  refine St.region ?_
  refine St.p rfl rfl ?_
  refine St.done ?_
  refine St.thenN ?_
  refine St.seq ?_
  refine St.seq ?_
  refine St.region ?_
  iterate 3 refine St.p rfl rfl ?_
  refine St.done ?_
  refine St.thenN ?_
  refine St.prune (Γ' := [(4, _), (9, _), (10, _), (11, _)]) ⟨rfl, rfl, rfl, rfl, trivial⟩ (.k .z) ?_
  refine St.asrt (fun _ w => w.nilL eu8 5) ?_
  obtain ⟨o1, hl1, h⟩ := bnd_e h
  refine St.cutI (fun (o2 : List Int) (e2 : Option Addr × Nat) => [(4, .slice e2.1 o2.length e2.2)]) (fun o2 e2 => .res (OwnL eu8 5 e2.1 e2.2 o2) :: R) (fun o2 => o1 = .inr o2) ?_ ?_
  · refine St.block ?_
    refine St.loop hl1 (fun (s1 : List Int × Int) (e1 : Option Addr × Nat) => [(4, .slice e1.1 s1.1.length e1.2), (9, .slice A1 b_p0.length c1), (10, .int .i64 (b_p0.length : Int)), (11, .int .i64 s1.2)]) (fun s1 e1 => .res (OwnL eu8 5 e1.1 e1.2 s1.1) :: .ro (SlL eu8 A1 c1 b_p0) :: R) (fun _ _ => True) (none, 0) trivial ⟨rfl, rfl, rfl, rfl, trivial⟩ (fun _ w => ((.k (.k .z)) : Keep _ _).sat w) ?_
    rintro s1 ⟨A2, c2⟩ - hit1
    obtain ⟨st1, hm1, hd1⟩ := iter_e hit1
    have h1 := hm1
    refine St.seq ?_
    refine St.region ?_
    refine St.p rfl rfl ?_
    refine St.done ?_
    refine St.thenN ?_
    refine St.seq ?_
    refine St.cond _ rfl (fun hb1 => ?_) (fun hb1 => ?_)
    · replace h1 := bif_t hb1 h1
      refine St.skip ?_
      refine St.thenN ?_
      refine St.prune (Γ' := [(4, _), (9, _), (10, _), (11, _)]) ⟨rfl, rfl, rfl, rfl, trivial⟩ (.k (.k .z)) ?_
      refine St.seq ?_
      refine St.block ?_
      refine St.seq ?_
      refine St.region ?_
      obtain ⟨x1, hx1, h1⟩ := bnd_e h1
      refine St.ixL hx1 rfl rfl rfl (.tail _ (.head _)) rfl rfl rfl rfl rfl fun b1 ob1 => ?_
      refine St.load ob1 0 rfl rfl (.head _) rfl rfl ?_
      refine St.p rfl rfl ?_
      refine St.done ?_
      refine St.thenN ?_
      refine St.prune (Γ' := [(4, _), (6, _), (9, _), (10, _), (11, _)]) ⟨rfl, rfl, rfl, rfl, rfl, trivial⟩ (.d (.k (.k .z))) ?_
      refine St.seq ?_
      refine St.region ?_
      iterate 4 refine St.p rfl rfl ?_
      refine St.buildSlice rfl rfl rfl rfl rfl rfl rfl rfl fun g1 => ?_
      refine St.p rfl rfl ?_
      refine St.p rfl rfl ?_
      refine St.done ?_
      refine St.thenN ?_
      refine St.prune (Γ' := [(4, _), (9, _), (10, _), (11, _), (19, _), (20, _), (21, _)]) ⟨rfl, rfl, rfl, rfl, rfl, rfl, rfl, trivial⟩ (.k (.k (.k .z))) ?_
      refine St.block ?_
      refine St.rounds 9 ?_
      refine St.round ?_
      refine St.seq ?_
      refine St.region ?_
      refine St.p rfl rfl ?_
      refine St.done ?_
      refine St.thenN ?_
      refine St.seq ?_
      refine St.condT rfl ?_
      refine St.skip ?_
      refine St.thenN ?_
      refine St.prune (Γ' := [(4, _), (9, _), (10, _), (11, _), (19, _), (20, _), (21, _)]) ⟨rfl, rfl, rfl, rfl, rfl, rfl, rfl, trivial⟩ (.k (.k (.k .z))) ?_
      refine St.seq ?_
      refine St.block ?_
      refine St.seq ?_
      refine St.region ?_
      refine St.ixB 0 rfl rfl rfl rfl rfl rfl rfl rfl rfl rfl ?_
      refine St.loadB 0 rfl rfl (.head _) rfl rfl ?_
      refine St.p rfl rfl ?_
      refine St.done ?_
      refine St.thenN ?_
      refine St.prune (Γ' := [(4, _), (8, _), (9, _), (10, _), (11, _), (19, _), (20, _), (21, _)]) ⟨rfl, rfl, rfl, rfl, rfl, rfl, rfl, rfl, trivial⟩ (.k (.k (.k .z))) ?_
      refine St.seq ?_
      refine St.seq ?_
      refine St.region ?_
      iterate 3 refine St.p rfl rfl ?_
      refine St.done ?_
      refine St.thenN ?_
      refine St.prune (Γ' := [(4, _), (8, _), (9, _), (10, _), (11, _), (19, _), (20, _), (21, _), (27, _)]) ⟨rfl, rfl, rfl, rfl, rfl, rfl, rfl, rfl, rfl, trivial⟩ (.k (.k (.k .z))) ?_
      refine St.cond _ rfl (fun hb2 => ?_) (fun hb2 => ?_)
      · replace h1 := bif_t hb2 h1
        refine St.seq ?_
        refine St.region ?_
        refine St.p rfl rfl ?_
        refine St.p rfl rfl ?_
        refine St.done ?_
        refine St.thenN ?_
        refine St.prune (Γ' := [(2, _), (3, _)]) ⟨rfl, rfl, trivial⟩ (.d (.d (.d .z))) ?_
        refine St.ret ?_
        repeat (first | refine St.thenR ?_ | refine St.blkR ?_)
        injection h1 with h1
        subst h1
        have ho := hd1 _ rfl
        subst ho
        have h : some _ = some _ := h
        injection h with h
        subst h
        exact St.finR Tryd.results89 (.tmp rfl (.tmp rfl .nil)) rfl [] ⟨rfl, rfl⟩ (fun _ w => (.z : Keep _ _).sat w)
      · replace h1 := bif_f hb2 h1
        refine St.skip ?_
        refine St.thenN ?_
        refine St.prune (Γ' := [(4, _), (8, _), (9, _), (10, _), (11, _), (19, _), (20, _), (21, _)]) ⟨rfl, rfl, rfl, rfl, rfl, rfl, rfl, rfl, trivial⟩ (.k (.k (.k .z))) ?_
        refine St.region ?_
        refine St.p rfl rfl ?_
        refine St.p rfl rfl ?_
        obtain ⟨y1, hy1, h1⟩ := bnd_e h1
        refine St.eltS rfl rfl rfl rfl rfl hy1 ?_
        refine St.buildSlice rfl rfl rfl rfl rfl rfl rfl rfl fun g2 => ?_
        obtain ⟨l1, hl1, h1⟩ := bnd_e h1
        refine St.app (E := eu8) hl1 rfl rfl rfl (.s (.s .z)) rfl rfl rfl rfl rfl rfl rfl rfl (srcB (.head _) rfl rfl) rfl rfl fun A4 c4 => ?_
        refine St.p rfl rfl ?_
        refine St.done ?_
        refine St.blkN ?_
        refine St.thenN ?_
        refine St.prune (Γ' := [(4, _), (9, _), (10, _), (11, _), (19, _), (20, _), (21, _)]) ⟨rfl, rfl, rfl, rfl, rfl, rfl, rfl, trivial⟩ (.k (.d (.k (.k .z)))) ?_
        refine St.region ?_
        refine St.p rfl rfl ?_
        refine St.p rfl rfl ?_
        refine St.done ?_
        refine St.thenN ?_
        refine St.round ?_
        refine St.prune (Γ' := [(4, _), (9, _), (10, _), (11, _), (19, _), (20, _), (21, _)]) ⟨rfl, rfl, rfl, rfl, rfl, rfl, rfl, trivial⟩ (.k (.k (.k .z))) ?_
        refine St.seq ?_
        refine St.region ?_
        refine St.p rfl rfl ?_
        refine St.done ?_
        refine St.thenN ?_
        refine St.seq ?_
        refine St.condT rfl ?_
        refine St.skip ?_
        refine St.thenN ?_
        refine St.prune (Γ' := [(4, _), (9, _), (10, _), (11, _), (19, _), (20, _), (21, _)]) ⟨rfl, rfl, rfl, rfl, rfl, rfl, rfl, trivial⟩ (.k (.k (.k .z))) ?_
        refine St.seq ?_
        refine St.block ?_
        refine St.seq ?_
        refine St.region ?_
        refine St.ixB 1 rfl rfl rfl rfl rfl rfl rfl rfl rfl rfl ?_
        refine St.loadB 1 rfl rfl (.tail _ (.head _)) rfl rfl ?_
        refine St.p rfl rfl ?_
        refine St.done ?_
        refine St.thenN ?_
        refine St.prune (Γ' := [(4, _), (8, _), (9, _), (10, _), (11, _), (19, _), (20, _), (21, _)]) ⟨rfl, rfl, rfl, rfl, rfl, rfl, rfl, rfl, trivial⟩ (.k (.k (.k .z))) ?_
        refine St.seq ?_
        refine St.seq ?_
        refine St.region ?_
        iterate 3 refine St.p rfl rfl ?_
        refine St.done ?_
        refine St.thenN ?_
        refine St.prune (Γ' := [(4, _), (8, _), (9, _), (10, _), (11, _), (19, _), (20, _), (21, _), (27, _)]) ⟨rfl, rfl, rfl, rfl, rfl, rfl, rfl, rfl, rfl, trivial⟩ (.k (.k (.k .z))) ?_
        refine St.cond _ rfl (fun hb3 => ?_) (fun hb3 => ?_)
        · replace h1 := bif_t hb3 h1
          refine St.seq ?_
          refine St.region ?_
          refine St.p rfl rfl ?_
          refine St.p rfl rfl ?_
          refine St.done ?_
          refine St.thenN ?_
          refine St.prune (Γ' := [(2, _), (3, _)]) ⟨rfl, rfl, trivial⟩ (.d (.d (.d .z))) ?_
          refine St.ret ?_
          repeat (first | refine St.thenR ?_ | refine St.blkR ?_)
          injection h1 with h1
          subst h1
          have ho := hd1 _ rfl
          subst ho
          have h : some _ = some _ := h
          injection h with h
          subst h
          exact St.finR Tryd.results89 (.tmp rfl (.tmp rfl .nil)) rfl [] ⟨rfl, rfl⟩ (fun _ w => (.z : Keep _ _).sat w)
        · replace h1 := bif_f hb3 h1
          refine St.skip ?_
          refine St.thenN ?_
          refine St.prune (Γ' := [(4, _), (8, _), (9, _), (10, _), (11, _), (19, _), (20, _), (21, _)]) ⟨rfl, rfl, rfl, rfl, rfl, rfl, rfl, rfl, trivial⟩ (.k (.k (.k .z))) ?_
          refine St.region ?_
          refine St.p rfl rfl ?_
          refine St.p rfl rfl ?_
          obtain ⟨y2, hy2, h1⟩ := bnd_e h1
          refine St.eltS rfl rfl rfl rfl rfl hy2 ?_
          refine St.buildSlice rfl rfl rfl rfl rfl rfl rfl rfl fun g3 => ?_
          obtain ⟨l2, hl2, h1⟩ := bnd_e h1
          refine St.app (E := eu8) hl2 rfl rfl rfl (.s .z) rfl rfl rfl rfl rfl rfl rfl rfl (srcB (.head _) rfl rfl) rfl rfl fun A5 c5 => ?_
          refine St.p rfl rfl ?_
          refine St.done ?_
          refine St.blkN ?_
          refine St.thenN ?_
          refine St.prune (Γ' := [(4, _), (9, _), (10, _), (11, _), (19, _), (20, _), (21, _)]) ⟨rfl, rfl, rfl, rfl, rfl, rfl, rfl, trivial⟩ (.k (.d (.k (.k .z)))) ?_
          refine St.region ?_
          refine St.p rfl rfl ?_
          refine St.p rfl rfl ?_
          refine St.done ?_
          refine St.thenN ?_
          refine St.round ?_
          refine St.prune (Γ' := [(4, _), (9, _), (10, _), (11, _), (19, _), (20, _), (21, _)]) ⟨rfl, rfl, rfl, rfl, rfl, rfl, rfl, trivial⟩ (.k (.k (.k .z))) ?_
          refine St.seq ?_
          refine St.region ?_
          refine St.p rfl rfl ?_
          refine St.done ?_
          refine St.thenN ?_
          refine St.seq ?_
          refine St.condF rfl ?_
          refine St.exit ?_
          repeat (first | refine St.thenX ?_ | refine St.blkMiss rfl ?_)
          refine St.blkHit ?_
          refine St.blkN ?_
          refine St.thenN ?_
          refine St.prune (Γ' := [(4, _), (9, _), (10, _), (11, _)]) ⟨rfl, rfl, rfl, rfl, trivial⟩ (.k (.d (.k .z))) ?_
          refine St.region ?_
          refine St.p rfl rfl ?_
          refine St.p rfl rfl ?_
          refine St.done ?_
          injection h1 with h1
          subst h1
          refine St.thenN ?_
          exact St.again _ (A5, c5) hm1 trivial ⟨rfl, rfl, rfl, rfl, trivial⟩ (fun _ w => ((.k (.k .z)) : Keep _ _).sat w)
    · replace h1 := bif_f hb1 h1
      refine St.exit ?_
      repeat (first | refine St.thenX ?_ | refine St.blkMiss rfl ?_)
      refine St.blkHit ?_
      injection h1 with h1
      subst h1
      have ho := hd1 _ rfl
      subst ho
      refine St.thenN ?_
      exact St.hereI s1.1 (A2, c2) rfl ⟨rfl, trivial⟩ (fun _ w => ((.k (.d .z)) : Keep _ _).sat w)
  · rintro o2 ⟨A3, c3⟩ ho
    subst ho
    have h : _ = some _ := h
    refine St.seq ?_
    refine St.region ?_
    refine St.p rfl rfl ?_
    refine St.asrt (fun _ w => (w.front .z).meltL) ?_
    refine St.b2s rfl rfl rfl rfl rfl rfl rfl rfl rfl (srcL (E := eu8) (.head _)) ?_
    refine St.p rfl rfl ?_
    refine St.p rfl rfl ?_
    refine St.done ?_
    refine St.thenN ?_
    refine St.prune (Γ' := [(2, _), (3, _)]) ⟨rfl, rfl, trivial⟩ (.d .z) ?_
    refine St.ret ?_
    repeat (first | refine St.thenR ?_ | refine St.blkR ?_)
    injection h with h
    subst h
    exact St.finR Tryd.results89 (.tmp rfl (.tmp rfl .nil)) rfl [] ⟨rfl, rfl⟩ (fun _ w => (.z : Keep _ _).sat w)

theorem ent90 : Ent Tryd.prog 90 := ⟨_, Tryd.func90, by kernel_rfl, by kernel_rfl⟩

noncomputable def m_fields_unpack (b_p0 : (List Int)) : Option (ByteArray × Bool) :=
  bnd (loopM (τ := List Int × Int) (fun (s1 : List Int × Int × Int × Int) => bif decide (s1.2.2.2 < (b_p0.length : Int)) then (bnd (elt b_p0 s1.2.2.2) fun x1 => bnd (shlM .i64 (IntKind.wrap .i64 x1) s1.2.2.1) fun q1 => bnd (loopM (τ := List Int × Int × Int) (fun (s2 : List Int × Int × Int) => bif decide (s2.2.2 ≥ 6) then (bnd (app 1 s2.1 [IntKind.wrap .u8 (IntKind.wrap .i64 ((iAnd .i64 s2.2.1 63) + 32))]) fun l1 => some (.next (l1, iShr .i64 s2.2.1 6, IntKind.wrap .i64 (s2.2.2 - 6)))) else (some (.done (s2.1, s2.2.1, s2.2.2)))) (s1.1, iOr .i64 s1.2.1 q1, IntKind.wrap .i64 (s1.2.2.1 + 8))) fun o2 => some (.next (o2.1, o2.2.1, o2.2.2, IntKind.wrap .i64 (s1.2.2.2 + 1)))) else (some (.done (s1.1, s1.2.1)))) ([], 0, 0, 0)) fun o1 => some (strOf o1.1, (o1.2 == 0))

theorem c_fields_unpack {b_p0 : (List Int)} {A1 : Option Addr} {c1 : Nat} {r : (ByteArray × Bool)} (h : m_fields_unpack b_p0 = some r) :
    Fun Tryd.prog 90 [.slice A1 b_p0.length c1] [.ro (SlL eu8 A1 c1 b_p0)] (Val (.tuple #[.string r.1, .bool r.2])) := by
  unfold m_fields_unpack at h
  refine Fun.intro Tryd.func90 rfl rfl rfl fun w R => ?_
  refine St.seq ?_
  refine St.region ?_
  refine St.p rfl rfl ?_
  refine St.p rfl rfl ?_
  refine St.done ?_
  refine St.thenN ?_
  refine St.prune (Γ' := [(0, _)]) ⟨rfl, trivial⟩ (.k .z) ?_
  refine St.seq ?_
  refine St.region ?_
  refine St.p rfl rfl ?_
  refine St.done ?_
  refine St.thenN ?_
  refine St.seq ?_
  refine St.region ?_
  refine St.p rfl rfl ?_
  refine St.p rfl rfl ?_
  refine St.done ?_
  refine St.thenN ?_
  refine St.seq ?_
  refine St.seq ?_
  refine St.region ?_
  iterate 3 refine St.p rfl rfl ?_
  refine St.done ?_
  refine St.thenN ?_
  refine St.prune (Γ' := [(4, _), (5, _), (6, _), (9, _), (10, _), (11, _)]) ⟨rfl, rfl, rfl, rfl, rfl, rfl, trivial⟩ (.k .z) ?_
  refine St.asrt (fun _ w => w.nilL eu8 5) ?_
  obtain ⟨o1, hl1, h⟩ := bnd_e h
  refine St.cutE (fun (e2 : Option Addr × Nat) => [(4, .slice e2.1 o1.1.length e2.2), (5, .int .i64 o1.2)]) (fun e2 => .res (OwnL eu8 5 e2.1 e2.2 o1.1) :: R) ?_ ?_
  · refine St.block ?_
    refine St.loop hl1 (fun (s1 : List Int × Int × Int × Int) (e1 : Option Addr × Nat) => [(4, .slice e1.1 s1.1.length e1.2), (5, .int .i64 s1.2.1), (6, .int .i64 s1.2.2.1), (9, .slice A1 b_p0.length c1), (10, .int .i64 (b_p0.length : Int)), (11, .int .i64 s1.2.2.2)]) (fun s1 e1 => .res (OwnL eu8 5 e1.1 e1.2 s1.1) :: .ro (SlL eu8 A1 c1 b_p0) :: R) (fun _ _ => True) (none, 0) trivial ⟨rfl, rfl, rfl, rfl, rfl, rfl, trivial⟩ (fun _ w => ((.k (.k .z)) : Keep _ _).sat w) ?_
    rintro s1 ⟨A2, c2⟩ - hit1
    obtain ⟨st1, hm1, hd1⟩ := iter_e hit1
    have h1 := hm1
    refine St.seq ?_
    refine St.region ?_
    refine St.p rfl rfl ?_
    refine St.done ?_
    refine St.thenN ?_
    refine St.seq ?_
    refine St.cond _ rfl (fun hb1 => ?_) (fun hb1 => ?_)
    · replace h1 := bif_t hb1 h1
      refine St.skip ?_
      refine St.thenN ?_
      refine St.prune (Γ' := [(4, _), (5, _), (6, _), (9, _), (10, _), (11, _)]) ⟨rfl, rfl, rfl, rfl, rfl, rfl, trivial⟩ (.k (.k .z)) ?_
      refine St.seq ?_
      refine St.block ?_
      refine St.seq ?_
      refine St.region ?_
      obtain ⟨x1, hx1, h1⟩ := bnd_e h1
      refine St.ixL hx1 rfl rfl rfl (.tail _ (.head _)) rfl rfl rfl rfl rfl fun b1 ob1 => ?_
      refine St.load ob1 0 rfl rfl (.head _) rfl rfl ?_
      refine St.p rfl rfl ?_
      refine St.done ?_
      refine St.thenN ?_
      refine St.prune (Γ' := [(4, _), (5, _), (6, _), (8, _), (9, _), (10, _), (11, _)]) ⟨rfl, rfl, rfl, rfl, rfl, rfl, rfl, trivial⟩ (.d (.k (.k .z))) ?_
      refine St.seq ?_
      refine St.region ?_
      iterate 4 refine St.p rfl rfl ?_
      obtain ⟨q1, hq1, h1⟩ := bnd_e h1
      refine St.shl rfl rfl rfl hq1 ?_
      iterate 5 refine St.p rfl rfl ?_
      refine St.done ?_
      refine St.thenN ?_
      refine St.prune (Γ' := [(4, _), (5, _), (6, _), (9, _), (10, _), (11, _)]) ⟨rfl, rfl, rfl, rfl, rfl, rfl, trivial⟩ (.k (.k .z)) ?_
      obtain ⟨o2, hl2, h1⟩ := bnd_e h1
      refine St.selfThen ?_
      refine St.cutE (fun (e4 : Option Addr × Nat) => [(4, .slice e4.1 o2.1.length e4.2), (5, .int .i64 o2.2.1), (6, .int .i64 o2.2.2), (9, .slice A1 b_p0.length c1), (10, .int .i64 (b_p0.length : Int)), (11, .int .i64 s1.2.2.2)]) (fun e4 => .res (OwnL eu8 5 e4.1 e4.2 o2.1) :: .ro (SlL eu8 A1 c1 b_p0) :: R) ?_ ?_
      · refine St.block ?_
        refine St.loop hl2 (fun (s2 : List Int × Int × Int) (e3 : Option Addr × Nat) => [(4, .slice e3.1 s2.1.length e3.2), (5, .int .i64 s2.2.1), (6, .int .i64 s2.2.2), (9, .slice A1 b_p0.length c1), (10, .int .i64 (b_p0.length : Int)), (11, .int .i64 s1.2.2.2)]) (fun s2 e3 => .res (OwnL eu8 5 e3.1 e3.2 s2.1) :: .ro (SlL eu8 A1 c1 b_p0) :: R) (fun _ _ => True) (A2, c2) trivial ⟨rfl, rfl, rfl, rfl, rfl, rfl, trivial⟩ (fun _ w => ((.k (.k .z)) : Keep _ _).sat w) ?_
        rintro s2 ⟨A4, c4⟩ - hit2
        obtain ⟨st2, hm2, hd2⟩ := iter_e hit2
        have h2 := hm2
        refine St.seq ?_
        refine St.seq ?_
        refine St.region ?_
        refine St.p rfl rfl ?_
        refine St.p rfl rfl ?_
        refine St.done ?_
        refine St.thenN ?_
        refine St.prune (Γ' := [(4, _), (5, _), (6, _), (9, _), (10, _), (11, _), (24, _)]) ⟨rfl, rfl, rfl, rfl, rfl, rfl, rfl, trivial⟩ (.k (.k .z)) ?_
        refine St.cond _ rfl (fun hb2 => ?_) (fun hb2 => ?_)
        · replace h2 := bif_t hb2 h2
          refine St.skip ?_
          refine St.thenN ?_
          refine St.prune (Γ' := [(4, _), (5, _), (6, _), (9, _), (10, _), (11, _)]) ⟨rfl, rfl, rfl, rfl, rfl, rfl, trivial⟩ (.k (.k .z)) ?_
          refine St.block ?_
          refine St.seq ?_
          refine St.region ?_
          iterate 5 refine St.p rfl rfl ?_
          refine St.buildSlice rfl rfl rfl rfl rfl rfl rfl rfl fun g1 => ?_
          obtain ⟨l1, hl1, h2⟩ := bnd_e h2
          refine St.app (E := eu8) hl1 rfl rfl rfl (.s .z) rfl rfl rfl rfl rfl rfl rfl rfl (srcB (.head _) rfl rfl) rfl rfl fun A6 c6 => ?_
          refine St.p rfl rfl ?_
          refine St.done ?_
          refine St.thenN ?_
          refine St.prune (Γ' := [(4, _), (5, _), (6, _), (9, _), (10, _), (11, _)]) ⟨rfl, rfl, rfl, rfl, rfl, rfl, trivial⟩ (.k (.d (.k .z))) ?_
          refine St.region ?_
          iterate 6 refine St.p rfl rfl ?_
          refine St.done ?_
          refine St.blkN ?_
          injection h2 with h2
          subst h2
          refine St.thenN ?_
          exact St.again _ (A6, c6) hm2 trivial ⟨rfl, rfl, rfl, rfl, rfl, rfl, trivial⟩ (fun _ w => ((.k (.k .z)) : Keep _ _).sat w)
        · replace h2 := bif_f hb2 h2
          refine St.exit ?_
          repeat (first | refine St.thenX ?_ | refine St.blkMiss rfl ?_)
          refine St.blkHit ?_
          injection h2 with h2
          subst h2
          have ho := hd2 _ rfl
          subst ho
          refine St.thenN ?_
          exact St.hereE (A4, c4) ⟨rfl, rfl, rfl, rfl, rfl, rfl, trivial⟩ (fun _ w => ((.k (.k .z)) : Keep _ _).sat w)
      · rintro ⟨A5, c5⟩
        refine St.blkN ?_
        refine St.thenN ?_
        refine St.region ?_
        refine St.p rfl rfl ?_
        refine St.p rfl rfl ?_
        refine St.done ?_
        injection h1 with h1
        subst h1
        refine St.thenN ?_
        exact St.again _ (A5, c5) hm1 trivial ⟨rfl, rfl, rfl, rfl, rfl, rfl, trivial⟩ (fun _ w => ((.k (.k .z)) : Keep _ _).sat w)
    · replace h1 := bif_f hb1 h1
      refine St.exit ?_
      repeat (first | refine St.thenX ?_ | refine St.blkMiss rfl ?_)
      refine St.blkHit ?_
      injection h1 with h1
      subst h1
      have ho := hd1 _ rfl
      subst ho
      refine St.thenN ?_
      exact St.hereE (A2, c2) ⟨rfl, rfl, trivial⟩ (fun _ w => ((.k (.d .z)) : Keep _ _).sat w)
  · rintro ⟨A3, c3⟩
    refine St.seq ?_
    refine St.region ?_
    refine St.p rfl rfl ?_
    refine St.asrt (fun _ w => (w.front .z).meltL) ?_
    refine St.b2s rfl rfl rfl rfl rfl rfl rfl rfl rfl (srcL (E := eu8) (.head _)) ?_
    iterate 4 refine St.p rfl rfl ?_
    refine St.done ?_
    refine St.thenN ?_
    refine St.prune (Γ' := [(2, _), (3, _)]) ⟨rfl, rfl, trivial⟩ (.d .z) ?_
    refine St.ret ?_
    repeat (first | refine St.thenR ?_ | refine St.blkR ?_)
    injection h with h
    subst h
    exact St.finR Tryd.results90 (.tmp rfl (.tmp rfl .nil)) rfl [] ⟨rfl, rfl⟩ (fun _ w => (.z : Keep _ _).sat w)

theorem ent75 : Ent Tryd.prog 75 := ⟨_, Tryd.func75, by kernel_rfl, by kernel_rfl⟩

noncomputable def m_fields_Decode (b_p0 : (List Int)) : Option (T_Field × Int × Bool × Int) :=
  bif ((b_p0.length : Int) == 0) then (some ((⟨0, ⟨#[]⟩⟩ : T_Field), 0, false, 4)) else (bnd (elt b_p0 0) fun x1 => bif (x1 == 193) then (some ((⟨0, ⟨#[]⟩⟩ : T_Field), 1, true, 0)) else (bif decide ((b_p0.length : Int) < (IntKind.wrap .i64 (1 + (IntKind.wrap .i64 (iAnd .u8 x1 63))))) then (some ((⟨0, ⟨#[]⟩⟩ : T_Field), 0, false, 4)) else (bnd (elt b_p0 0) fun x2 => bnd (sub b_p0 1 (IntKind.wrap .i64 (1 + (IntKind.wrap .i64 (iAnd .u8 x1 63))))) fun l1 => bnd ((bif ((IntKind.wrap .i64 (iShr .u8 x2 6)) == 1) then (bnd (sub b_p0 1 (IntKind.wrap .i64 (1 + (IntKind.wrap .i64 (iAnd .u8 x1 63))))) fun l2 => bnd (m_fields_decimal l2) fun r1 => some (r1.2, r1.1)) else (bif ((IntKind.wrap .i64 (iShr .u8 x2 6)) == 2) then (bnd (sub b_p0 1 (IntKind.wrap .i64 (1 + (IntKind.wrap .i64 (iAnd .u8 x1 63))))) fun l3 => bnd (m_fields_unpack l3) fun r2 => some (r2.2, r2.1)) else (some (true, strOf l1))) : Option (Bool × ByteArray))) fun o1 => bif !o1.1 then (some ((⟨0, ⟨#[]⟩⟩ : T_Field), 0, false, 6)) else (some ((⟨IntKind.wrap .i64 (iShr .u8 x2 6), o1.2⟩ : T_Field), IntKind.wrap .i64 (1 + (IntKind.wrap .i64 (iAnd .u8 x1 63))), false, 0)))))

theorem c_fields_Decode {b_p0 : (List Int)} {A1 : Option Addr} {c1 : Nat} {r : (T_Field × Int × Bool × Int)} (h : m_fields_Decode b_p0 = some r) :
    Fun Tryd.prog 75 [.slice A1 b_p0.length c1] [.ro (SlL eu8 A1 c1 b_p0)] (Val (.tuple #[.agg #[.int .i64 r.1.Kind, .string r.1.Value], .int .i64 r.2.1, .bool r.2.2.1, .int .i64 r.2.2.2])) := by
  unfold m_fields_Decode at h
  refine Fun.intro Tryd.func75 rfl rfl rfl fun w R => ?_
  refine St.seq ?_
  refine St.region ?_
  refine St.alloc rfl rfl fun g1 => ?_
  iterate 3 refine St.p rfl rfl ?_
  refine St.done ?_
  refine St.thenN ?_
  refine St.prune (Γ' := [(0, _), (2, _)]) ⟨rfl, rfl, trivial⟩ (.k (.k .z)) ?_
  refine St.seq ?_
  refine St.block ?_
  refine St.seq ?_
  refine St.region ?_
  iterate 4 refine St.p rfl rfl ?_
  refine St.done ?_
  refine St.thenN ?_
  refine St.prune (Γ' := [(0, _), (2, _), (7, _)]) ⟨rfl, rfl, rfl, trivial⟩ (.k (.k .z)) ?_
  refine St.cond _ rfl (fun hb1 => ?_) (fun hb1 => ?_)
  · replace h := bif_t hb1 h
    refine St.seq ?_
    refine St.region ?_
    refine St.p rfl rfl ?_
    refine St.store 0 rfl rfl rfl rfl rfl rfl .z rfl ?_
    iterate 3 refine St.p rfl rfl ?_
    refine St.done ?_
    refine St.thenN ?_
    refine St.prune (Γ' := [(2, _), (3, _), (4, _), (5, _)]) ⟨rfl, rfl, rfl, rfl, trivial⟩ (.k (.d .z)) ?_
    refine St.ret ?_
    repeat (first | refine St.thenR ?_ | refine St.blkR ?_)
    injection h with h
    subst h
    exact St.finR Tryd.results75 (.cell rfl (.head _) rfl (.tmp rfl (.tmp rfl (.tmp rfl .nil)))) rfl [] ⟨rfl, rfl⟩ (fun _ w => ((.d .z) : Keep _ _).sat w)
  · replace h := bif_f hb1 h
    refine St.seq ?_
    refine St.region ?_
    refine St.p rfl rfl ?_
    obtain ⟨x1, hx1, h⟩ := bnd_e h
    refine St.ixL hx1 rfl rfl rfl (.tail _ (.head _)) rfl rfl rfl rfl rfl fun b1 ob1 => ?_
    refine St.load ob1 0 rfl rfl (.head _) rfl rfl ?_
    refine St.p rfl rfl ?_
    refine St.p rfl rfl ?_
    refine St.done ?_
    refine St.thenN ?_
    refine St.prune (Γ' := [(0, _), (2, _), (12, _)]) ⟨rfl, rfl, rfl, trivial⟩ (.d (.k (.k .z))) ?_
    refine St.cond _ rfl (fun hb2 => ?_) (fun hb2 => ?_)
    · replace h := bif_t hb2 h
      refine St.seq ?_
      refine St.region ?_
      refine St.p rfl rfl ?_
      refine St.store 0 rfl rfl rfl rfl rfl rfl .z rfl ?_
      iterate 3 refine St.p rfl rfl ?_
      refine St.done ?_
      refine St.thenN ?_
      refine St.prune (Γ' := [(2, _), (3, _), (4, _), (5, _)]) ⟨rfl, rfl, rfl, rfl, trivial⟩ (.k (.d .z)) ?_
      refine St.ret ?_
      repeat (first | refine St.thenR ?_ | refine St.blkR ?_)
      injection h with h
      subst h
      exact St.finR Tryd.results75 (.cell rfl (.head _) rfl (.tmp rfl (.tmp rfl (.tmp rfl .nil)))) rfl [] ⟨rfl, rfl⟩ (fun _ w => ((.d .z) : Keep _ _).sat w)
    · replace h := bif_f hb2 h
      refine St.skip ?_
      refine St.blkN ?_
      refine St.thenN ?_
      refine St.prune (Γ' := [(0, _), (2, _)]) ⟨rfl, rfl, trivial⟩ (.k (.k .z)) ?_
      refine St.seq ?_
      refine St.region ?_
      refine St.p rfl rfl ?_
      refine St.ixL hx1 rfl rfl rfl (.tail _ (.head _)) rfl rfl rfl rfl rfl fun b2 ob2 => ?_
      refine St.load ob2 0 rfl rfl (.head _) rfl rfl ?_
      iterate 4 refine St.p rfl rfl ?_
      refine St.done ?_
      refine St.thenN ?_
      refine St.prune (Γ' := [(0, _), (2, _), (3, _)]) ⟨rfl, rfl, rfl, trivial⟩ (.d (.k (.k .z))) ?_
      refine St.seq ?_
      refine St.seq ?_
      refine St.region ?_
      iterate 4 refine St.p rfl rfl ?_
      refine St.done ?_
      refine St.thenN ?_
      refine St.prune (Γ' := [(0, _), (2, _), (3, _), (27, _)]) ⟨rfl, rfl, rfl, rfl, trivial⟩ (.k (.k .z)) ?_
      refine St.cond _ rfl (fun hb3 => ?_) (fun hb3 => ?_)
      · replace h := bif_t hb3 h
        refine St.seq ?_
        refine St.region ?_
        refine St.p rfl rfl ?_
        refine St.store 0 rfl rfl rfl rfl rfl rfl .z rfl ?_
        iterate 3 refine St.p rfl rfl ?_
        refine St.done ?_
        refine St.thenN ?_
        refine St.prune (Γ' := [(2, _), (3, _), (4, _), (5, _)]) ⟨rfl, rfl, rfl, rfl, trivial⟩ (.k (.d .z)) ?_
        refine St.ret ?_
        repeat (first | refine St.thenR ?_ | refine St.blkR ?_)
        injection h with h
        subst h
        exact St.finR Tryd.results75 (.cell rfl (.head _) rfl (.tmp rfl (.tmp rfl (.tmp rfl .nil)))) rfl [] ⟨rfl, rfl⟩ (fun _ w => ((.d .z) : Keep _ _).sat w)
      · replace h := bif_f hb3 h
        refine St.skip ?_
        refine St.thenN ?_
        refine St.prune (Γ' := [(0, _), (2, _), (3, _)]) ⟨rfl, rfl, rfl, trivial⟩ (.k (.k .z)) ?_
        refine St.seq ?_
        refine St.regionX (iL [(.fl, 0), (.fx, 1), (.fx, 2), (.fl, 3), (.fl, 4), (.fl, 5), (.fl, 6), (.fx, 7), (.fx, 8), (.fl, 9), (.ef, 10)] .nil) (.ro (SlL eu8 A1 c1 b_p0) :: R) mixed (by kernel_rfl) (fun _ w => ((.d (.k .z)) : Keep _ _).sat w) ?_
        refine St.xfl (fun _ h => h) (Rd.p rfl) rfl ?_
        obtain ⟨x2, hx2, h⟩ := bnd_e h
        refine St.openA (.tail _ (.head _)) hx2 fun b3 ob3 hqb3 => ?_
        refine St.asrt (fun _ w => Sat.addC hqb3 (.tail _ (.head _)) hx2 w) ?_
        have hc1 := fun w h => Sat.addC hqb3 (.head _) hx2 ((fun (w : World) (h : Sat (.ro (SlL eu8 A1 c1 b_p0) :: R) w) => h) w h)
        refine St.xfx (Rd.ixL (E := eu8) hqb3 hx2 rfl rfl rfl rfl rfl rfl rfl) rfl ?_
        refine St.xfx (Rd.load ob3 0 rfl (.head _) rfl rfl) rfl ?_
        refine St.xfl (fun _ h => h) (Rd.p rfl) rfl ?_
        refine St.xfl (fun _ h => h) (Rd.p rfl) rfl ?_
        refine St.xfl (fun _ h => h) (Rd.p rfl) rfl ?_
        refine St.xfl (fun _ h => h) (Rd.p rfl) rfl ?_
        obtain ⟨l1, hl1, h⟩ := bnd_e h
        refine St.openS (.tail _ (.tail _ (.head _))) hl1 fun A2 c2 hS1 => ?_
        have hc2 := fun w h => Sat.addS hS1 (.tail _ (.head _)) hl1 (hc1 w h)
        refine St.xfx (Rd.sub hS1 hl1 (.tail _ (.tail _ (.tail _ (.head _)))) rfl rfl rfl rfl rfl rfl rfl rfl) rfl ?_
        refine St.xfx (Rd.b2s (.head _) rfl rfl rfl rfl rfl rfl rfl rfl) rfl ?_
        refine St.xfl (fun _ h => h) (Rd.p rfl) rfl ?_
        refine St.xef ?_
        refine St.store 0 rfl rfl rfl rfl rfl rfl (.s (.s .z)) rfl ?_
        refine St.xk (fun _ w => ((.d (.d (.d (.k .z)))) : Keep _ _).sat w) ?_
        refine St.xdone ?_
        refine St.thenN ?_
        refine St.prune (Γ' := [(0, _), (2, _), (3, _)]) ⟨rfl, rfl, rfl, trivial⟩ (.k (.d (.d (.k .z)))) ?_
        refine St.seq ?_
        refine St.region ?_
        refine St.p rfl rfl ?_
        refine St.done ?_
        refine St.thenN ?_
        refine St.seq ?_
        obtain ⟨o1, hj1, h⟩ := bnd_e h
        refine St.cutE (fun (e1 : Unit) => [(2, .pointer (some ⟨g1, 0, none⟩)), (3, .int .i64 (IntKind.wrap .i64 (1 + (IntKind.wrap .i64 (iAnd .u8 x1 63))))), (6, .bool o1.1)]) (fun e1 => .res (Box g1 60 [.int .i64 (IntKind.wrap .i64 (iShr .u8 x2 6)), .string o1.2]) :: R) ?_ ?_
        · refine St.seq ?_
          refine St.region ?_
          refine St.p rfl rfl ?_
          refine St.loadB 0 rfl rfl (.head _) rfl rfl ?_
          refine St.done ?_
          refine St.thenN ?_
          refine St.prune (Γ' := [(0, _), (2, _), (3, _), (6, _), (40, _)]) ⟨rfl, rfl, rfl, rfl, rfl, trivial⟩ (.k (.k .z)) ?_
          refine St.block ?_
          refine St.seq ?_
          refine St.region ?_
          refine St.p rfl rfl ?_
          refine St.p rfl rfl ?_
          refine St.done ?_
          refine St.thenN ?_
          refine St.prune (Γ' := [(0, _), (2, _), (3, _), (6, _), (40, _), (41, _)]) ⟨rfl, rfl, rfl, rfl, rfl, rfl, trivial⟩ (.k (.k .z)) ?_
          refine St.cond _ rfl (fun hb4 => ?_) (fun hb4 => ?_)
          · replace hj1 := bif_t hb4 hj1
            refine St.region ?_
            refine St.p rfl rfl ?_
            refine St.p rfl rfl ?_
            obtain ⟨l2, hl2, hj1⟩ := bnd_e hj1
            refine St.sub (E := (cod eu8)) rfl rfl (.tail _ (.head _)) rfl rfl rfl rfl rfl rfl rfl hl2 fun A3 c3 => ?_
            obtain ⟨r1, hr1, hj1⟩ := bnd_e hj1
            refine St.callV (c_fields_decimal hr1) ent89 rfl rfl rfl rfl ⟨(.head _), trivial⟩ ?_
            iterate 4 refine St.p rfl rfl ?_
            refine St.store 1 rfl rfl rfl rfl rfl rfl (.s .z) rfl ?_
            refine St.p rfl rfl ?_
            refine St.done ?_
            refine St.blkN ?_
            injection hj1 with hj1
            subst hj1
            refine St.thenN ?_
            exact St.hereE () ⟨rfl, rfl, rfl, trivial⟩ (fun _ w => ((.k (.d (.d .z))) : Keep _ _).sat w)
          · replace hj1 := bif_f hb4 hj1
            refine St.seq ?_
            refine St.region ?_
            refine St.p rfl rfl ?_
            refine St.p rfl rfl ?_
            refine St.done ?_
            refine St.thenN ?_
            refine St.prune (Γ' := [(0, _), (2, _), (3, _), (6, _), (51, _)]) ⟨rfl, rfl, rfl, rfl, rfl, trivial⟩ (.k (.k .z)) ?_
            refine St.cond _ rfl (fun hb5 => ?_) (fun hb5 => ?_)
            · replace hj1 := bif_t hb5 hj1
              refine St.region ?_
              refine St.p rfl rfl ?_
              refine St.p rfl rfl ?_
              obtain ⟨l3, hl3, hj1⟩ := bnd_e hj1
              refine St.sub (E := (cod eu8)) rfl rfl (.tail _ (.head _)) rfl rfl rfl rfl rfl rfl rfl hl3 fun A4 c4 => ?_
              obtain ⟨r2, hr2, hj1⟩ := bnd_e hj1
              refine St.callV (c_fields_unpack hr2) ent90 rfl rfl rfl rfl ⟨(.head _), trivial⟩ ?_
              iterate 4 refine St.p rfl rfl ?_
              refine St.store 1 rfl rfl rfl rfl rfl rfl (.s .z) rfl ?_
              refine St.p rfl rfl ?_
              refine St.done ?_
              refine St.blkN ?_
              injection hj1 with hj1
              subst hj1
              refine St.thenN ?_
              exact St.hereE () ⟨rfl, rfl, rfl, trivial⟩ (fun _ w => ((.k (.d (.d .z))) : Keep _ _).sat w)
            · replace hj1 := bif_f hb5 hj1
              refine St.skip ?_
              refine St.blkN ?_
              injection hj1 with hj1
              subst hj1
              refine St.thenN ?_
              exact St.hereE () ⟨rfl, rfl, rfl, trivial⟩ (fun _ w => ((.k (.d .z)) : Keep _ _).sat w)
        · rintro e1
          refine St.seq ?_
          refine St.seq ?_
          refine St.region ?_
          refine St.p rfl rfl ?_
          refine St.p rfl rfl ?_
          refine St.done ?_
          refine St.thenN ?_
          refine St.prune (Γ' := [(2, _), (3, _), (62, _)]) ⟨rfl, rfl, rfl, trivial⟩ (.k .z) ?_
          refine St.cond _ rfl (fun hb6 => ?_) (fun hb6 => ?_)
          · replace h := bif_t hb6 h
            refine St.seq ?_
            refine St.region ?_
            refine St.p rfl rfl ?_
            refine St.store 0 rfl rfl rfl rfl rfl rfl .z rfl ?_
            iterate 3 refine St.p rfl rfl ?_
            refine St.done ?_
            refine St.thenN ?_
            refine St.prune (Γ' := [(2, _), (3, _), (4, _), (5, _)]) ⟨rfl, rfl, rfl, rfl, trivial⟩ (.k .z) ?_
            refine St.ret ?_
            repeat (first | refine St.thenR ?_ | refine St.blkR ?_)
            injection h with h
            subst h
            exact St.finR Tryd.results75 (.cell rfl (.head _) rfl (.tmp rfl (.tmp rfl (.tmp rfl .nil)))) rfl [] ⟨rfl, rfl⟩ (fun _ w => ((.d .z) : Keep _ _).sat w)
          · replace h := bif_f hb6 h
            refine St.skip ?_
            refine St.thenN ?_
            refine St.prune (Γ' := [(2, _), (3, _)]) ⟨rfl, rfl, trivial⟩ (.k .z) ?_
            refine St.seq ?_
            refine St.region ?_
            refine St.loadB 0 rfl rfl (.head _) rfl rfl ?_
            refine St.p rfl rfl ?_
            refine St.store 0 rfl rfl rfl rfl rfl rfl .z rfl ?_
            iterate 3 refine St.p rfl rfl ?_
            refine St.done ?_
            refine St.thenN ?_
            refine St.prune (Γ' := [(2, _), (3, _), (4, _), (5, _)]) ⟨rfl, rfl, rfl, rfl, trivial⟩ (.k .z) ?_
            refine St.ret ?_
            repeat (first | refine St.thenR ?_ | refine St.blkR ?_)
            injection h with h
            subst h
            exact St.finR Tryd.results75 (.cell rfl (.head _) rfl (.tmp rfl (.tmp rfl (.tmp rfl .nil)))) rfl [] ⟨rfl, rfl⟩ (fun _ w => ((.d .z) : Keep _ _).sat w)

theorem ent57 : Ent Tryd.prog 57 := ⟨_, Tryd.func57, by kernel_rfl, by kernel_rfl⟩

noncomputable def m_fields_DecodeList (b_p0 : (List Int)) : Option ((List T_Field) × Int × Int) :=
  bnd (loopM (τ := ((List T_Field) × Int × Int) ⊕ Unit) (fun (s1 : List T_Field × Int) => bnd (sub b_p0 s1.2 (b_p0.length : Int)) fun l1 => bnd (m_fields_Decode l1) fun r1 => bif (r1.2.2.2 != 0) then (some (.done (.inl ([], 0, r1.2.2.2)))) else (bif r1.2.2.1 then (some (.done (.inl (s1.1, IntKind.wrap .i64 (s1.2 + r1.2.1), 0)))) else (bif ((s1.1.length : Int) == 16) then (some (.done (.inl ([], 0, 3)))) else (bnd (app 24 s1.1 [r1.1]) fun l2 => some (.next (l2, IntKind.wrap .i64 (s1.2 + r1.2.1))))))) ([], 0)) fun o1 => retOr o1 fun o2 => none

theorem c_fields_DecodeList {b_p0 : (List Int)} {A1 : Option Addr} {c1 : Nat} {r : ((List T_Field) × Int × Int)} (h : m_fields_DecodeList b_p0 = some r) :
    Fun Tryd.prog 57 [.slice A1 b_p0.length c1] [.ro (SlL eu8 A1 c1 b_p0)] (fun v_ F_ => ∃ (A1 : Option Addr) (c1 : Nat), v_ = .tuple #[.slice A1 r.1.length c1, .int .i64 r.2.1, .int .i64 r.2.2] ∧ F_ = [.res (OwnL e_Field 60 A1 c1 r.1)]) := by
  unfold m_fields_DecodeList at h
  refine Fun.intro Tryd.func57 rfl rfl rfl fun w R => ?_
  refine St.seq ?_
  refine St.region ?_
  iterate 3 refine St.p rfl rfl ?_
  refine St.done ?_
  refine St.thenN ?_
  refine St.prune (Γ' := [(0, _), (2, _), (3, _)]) ⟨rfl, rfl, rfl, trivial⟩ (.k .z) ?_
  refine St.asrt (fun _ w => w.nilL e_Field 60) ?_
  obtain ⟨o1, hl1, h⟩ := bnd_e h
  refine St.selfThen ?_
  refine St.cutI (fun (o2 : Unit) (e2 : Unit) => []) (fun o2 e2 => R) (fun o2 => o1 = .inr o2) ?_ ?_
  · refine St.block ?_
    refine St.loop hl1 (fun (s1 : List T_Field × Int) (e1 : Option Addr × Nat) => [(0, .slice A1 b_p0.length c1), (2, .slice e1.1 s1.1.length e1.2), (3, .int .i64 s1.2)]) (fun s1 e1 => .res (OwnL e_Field 60 e1.1 e1.2 s1.1) :: .ro (SlL eu8 A1 c1 b_p0) :: R) (fun _ _ => True) (none, 0) trivial ⟨rfl, rfl, rfl, trivial⟩ (fun _ w => ((.k (.k .z)) : Keep _ _).sat w) ?_
    rintro s1 ⟨A2, c2⟩ - hit1
    obtain ⟨st1, hm1, hd1⟩ := iter_e hit1
    have h1 := hm1
    refine St.block ?_
    refine St.seq ?_
    refine St.region ?_
    refine St.p rfl rfl ?_
    refine St.p rfl rfl ?_
    obtain ⟨l1, hl1, h1⟩ := bnd_e h1
    refine St.sub (E := (cod eu8)) rfl rfl (.tail _ (.head _)) rfl rfl rfl rfl rfl rfl rfl hl1 fun A3 c3 => ?_
    obtain ⟨r1, hr1, h1⟩ := bnd_e h1
    refine St.callV (c_fields_Decode hr1) ent75 rfl rfl rfl rfl ⟨(.head _), trivial⟩ ?_
    iterate 5 refine St.p rfl rfl ?_
    refine St.alloc rfl rfl fun g1 => ?_
    refine St.store 0 rfl rfl rfl rfl rfl rfl .z rfl ?_
    iterate 3 refine St.p rfl rfl ?_
    refine St.done ?_
    refine St.thenN ?_
    refine St.prune (Γ' := [(0, _), (2, _), (3, _), (5, _), (6, _), (7, _), (8, _)]) ⟨rfl, rfl, rfl, rfl, rfl, rfl, rfl, trivial⟩ (.k (.d (.k (.k .z)))) ?_
    refine St.seq ?_
    refine St.block ?_
    refine St.seq ?_
    refine St.region ?_
    iterate 3 refine St.p rfl rfl ?_
    refine St.done ?_
    refine St.thenN ?_
    refine St.prune (Γ' := [(0, _), (2, _), (3, _), (5, _), (6, _), (7, _), (8, _), (18, _)]) ⟨rfl, rfl, rfl, rfl, rfl, rfl, rfl, rfl, trivial⟩ (.k (.k (.k .z))) ?_
    refine St.cond _ rfl (fun hb1 => ?_) (fun hb1 => ?_)
    · replace h1 := bif_t hb1 h1
      refine St.seq ?_
      refine St.region ?_
      iterate 4 refine St.p rfl rfl ?_
      refine St.done ?_
      refine St.thenN ?_
      refine St.prune (Γ' := [(2, _), (3, _), (4, _)]) ⟨rfl, rfl, rfl, trivial⟩ (.d (.d (.d .z))) ?_
      refine St.ret ?_
      repeat (first | refine St.thenR ?_ | refine St.blkR ?_)
      refine St.asrt (fun _ w => w.nilL e_Field 60) ?_
      injection h1 with h1
      subst h1
      have ho := hd1 _ rfl
      subst ho
      have h : some _ = some _ := h
      injection h with h
      subst h
      exact St.finR Tryd.results57 (.tmp rfl (.tmp rfl (.tmp rfl .nil))) rfl [.res (OwnL e_Field 60 none 0 ([] : List T_Field))] ⟨none, 0, rfl, rfl⟩ (fun _ w => ((.k .z) : Keep _ _).sat w)
    · replace h1 := bif_f hb1 h1
      refine St.seq ?_
      refine St.region ?_
      refine St.p rfl rfl ?_
      refine St.p rfl rfl ?_
      refine St.done ?_
      refine St.thenN ?_
      refine St.prune (Γ' := [(0, _), (2, _), (3, _), (5, _), (6, _), (22, _)]) ⟨rfl, rfl, rfl, rfl, rfl, rfl, trivial⟩ (.k (.k (.k .z))) ?_
      refine St.cond _ rfl (fun hb2 => ?_) (fun hb2 => ?_)
      · replace h1 := bif_t hb2 h1
        refine St.seq ?_
        refine St.region ?_
        iterate 7 refine St.p rfl rfl ?_
        refine St.done ?_
        refine St.thenN ?_
        refine St.prune (Γ' := [(2, _), (3, _), (4, _)]) ⟨rfl, rfl, rfl, trivial⟩ (.d (.k (.d .z))) ?_
        refine St.ret ?_
        repeat (first | refine St.thenR ?_ | refine St.blkR ?_)
        injection h1 with h1
        subst h1
        have ho := hd1 _ rfl
        subst ho
        have h : some _ = some _ := h
        injection h with h
        subst h
        exact St.finR Tryd.results57 (.tmp rfl (.tmp rfl (.tmp rfl .nil))) rfl [.res (OwnL e_Field 60 A2 c2 s1.1)] ⟨A2, c2, rfl, rfl⟩ (fun _ w => ((.k .z) : Keep _ _).sat w)
      · replace h1 := bif_f hb2 h1
        refine St.seq ?_
        refine St.region ?_
        iterate 4 refine St.p rfl rfl ?_
        refine St.done ?_
        refine St.thenN ?_
        refine St.prune (Γ' := [(0, _), (2, _), (3, _), (5, _), (6, _), (28, _)]) ⟨rfl, rfl, rfl, rfl, rfl, rfl, trivial⟩ (.k (.k (.k .z))) ?_
        refine St.cond _ rfl (fun hb3 => ?_) (fun hb3 => ?_)
        · replace h1 := bif_t hb3 h1
          refine St.seq ?_
          refine St.region ?_
          iterate 3 refine St.p rfl rfl ?_
          refine St.done ?_
          refine St.thenN ?_
          refine St.prune (Γ' := [(2, _), (3, _), (4, _)]) ⟨rfl, rfl, rfl, trivial⟩ (.d (.d (.d .z))) ?_
          refine St.ret ?_
          repeat (first | refine St.thenR ?_ | refine St.blkR ?_)
          refine St.asrt (fun _ w => w.nilL e_Field 60) ?_
          injection h1 with h1
          subst h1
          have ho := hd1 _ rfl
          subst ho
          have h : some _ = some _ := h
          injection h with h
          subst h
          exact St.finR Tryd.results57 (.tmp rfl (.tmp rfl (.tmp rfl .nil))) rfl [.res (OwnL e_Field 60 none 0 ([] : List T_Field))] ⟨none, 0, rfl, rfl⟩ (fun _ w => ((.k .z) : Keep _ _).sat w)
        · replace h1 := bif_f hb3 h1
          refine St.skip ?_
          refine St.blkN ?_
          refine St.thenN ?_
          refine St.prune (Γ' := [(0, _), (2, _), (3, _), (5, _), (6, _)]) ⟨rfl, rfl, rfl, rfl, rfl, trivial⟩ (.k (.k (.k .z))) ?_
          refine St.region ?_
          refine St.p rfl rfl ?_
          refine St.loadB 0 rfl rfl (.head _) rfl rfl ?_
          refine St.buildSlice rfl rfl rfl rfl rfl rfl rfl rfl fun g2 => ?_
          obtain ⟨l2, hl2, h1⟩ := bnd_e h1
          refine St.app (E := e_Field) hl2 rfl rfl rfl (.s (.s .z)) rfl rfl rfl rfl rfl rfl rfl rfl (srcB (.head _) rfl rfl) rfl rfl fun A4 c4 => ?_
          iterate 5 refine St.p rfl rfl ?_
          refine St.done ?_
          refine St.blkN ?_
          injection h1 with h1
          subst h1
          refine St.thenN ?_
          exact St.again _ (A4, c4) hm1 trivial ⟨rfl, rfl, rfl, trivial⟩ (fun _ w => ((.k (.d (.d (.k .z)))) : Keep _ _).sat w)
  · rintro o2 e2 ho
    subst ho
    have h : _ = some _ := h
    have h : none = some _ := h
    cases h

theorem ent60 : Ent Tryd.prog 60 := ⟨_, Tryd.func60, by kernel_rfl, by kernel_rfl⟩

noncomputable def m_unitinfo_decodeArea_1 (x_p0 : Int) : Option Bool :=
  some (x_p0 != 0)

theorem c_unitinfo_decodeArea_1 {x_p0 : Int} {r : Bool} (h : m_unitinfo_decodeArea_1 x_p0 = some r) :
    Fun Tryd.prog 60 [.int .u8 x_p0] [] (Val (.bool r)) := by
  unfold m_unitinfo_decodeArea_1 at h
  refine Fun.intro Tryd.func60 rfl rfl rfl fun w R => ?_
  refine St.seq ?_
  refine St.region ?_
  refine St.p rfl rfl ?_
  refine St.done ?_
  refine St.thenN ?_
  refine St.prune (Γ' := [(0, _)]) ⟨rfl, trivial⟩ .z ?_
  refine St.seq ?_
  refine St.region ?_
  iterate 3 refine St.p rfl rfl ?_
  refine St.done ?_
  refine St.thenN ?_
  refine St.prune (Γ' := [(2, _)]) ⟨rfl, trivial⟩ .z ?_
  refine St.ret ?_
  repeat (first | refine St.thenR ?_ | refine St.blkR ?_)
  injection h with h
  subst h
  exact St.finR Tryd.results60 (.tmp rfl .nil) rfl [] ⟨rfl, rfl⟩ (fun _ w => (.z : Keep _ _).sat w)

theorem ent76 : Ent Tryd.prog 76 := ⟨_, Tryd.func76, by kernel_rfl, by kernel_rfl⟩

noncomputable def m_slices_IndexFunc__byte_byte_f60 (s_p0 : (List Int)) : Option Int :=
  bnd (loopM (τ := Int ⊕ Unit) (fun (s1 : Int) => bif decide (s1 < (s_p0.length : Int)) then (bnd (elt s_p0 s1) fun x1 => bnd (m_unitinfo_decodeArea_1 x1) fun r1 => bif r1 then (some (.done (.inl s1))) else (some (.next (IntKind.wrap .i64 (s1 + 1))))) else (some (.done (.inr ())))) 0) fun o1 => retOr o1 fun o2 => some (-1)

theorem c_slices_IndexFunc__byte_byte_f60 {s_p0 : (List Int)} {A1 : Option Addr} {c1 : Nat} {r : Int} (h : m_slices_IndexFunc__byte_byte_f60 s_p0 = some r) :
    Fun Tryd.prog 76 [.slice A1 s_p0.length c1, .func (.func 60) #[] #[]] [.ro (SlL eu8 A1 c1 s_p0)] (Val (.int .i64 r)) := by
  unfold m_slices_IndexFunc__byte_byte_f60 at h
  refine Fun.intro Tryd.func76 rfl rfl rfl fun w R => ?_
  refine St.seq ?_
  refine St.region ?_
  refine St.p rfl rfl ?_
  refine St.done ?_
  refine St.thenN ?_
  refine St.prune (Γ' := [(0, _), (1, _)]) ⟨rfl, rfl, trivial⟩ (.k .z) ?_
  refine St.seq ?_
  refine St.seq ?_
  refine St.region ?_
  iterate 3 refine St.p rfl rfl ?_
  refine St.done ?_
  refine St.thenN ?_
  refine St.prune (Γ' := [(0, _), (1, _), (7, _), (8, _)]) ⟨rfl, rfl, rfl, rfl, trivial⟩ (.k .z) ?_
  obtain ⟨o1, hl1, h⟩ := bnd_e h
  refine St.cutI (fun (o2 : Unit) (e2 : Unit) => []) (fun o2 e2 => R) (fun o2 => o1 = .inr o2) ?_ ?_
  · refine St.block ?_
    refine St.loop hl1 (fun (s1 : Int) (e1 : Unit) => [(0, .slice A1 s_p0.length c1), (1, .func (.func 60) #[] #[]), (7, .int .i64 (s_p0.length : Int)), (8, .int .i64 s1)]) (fun s1 e1 => .ro (SlL eu8 A1 c1 s_p0) :: R) (fun _ _ => True) () trivial ⟨rfl, rfl, rfl, rfl, trivial⟩ (fun _ w => ((.k .z) : Keep _ _).sat w) ?_
    rintro s1 e1 - hit1
    obtain ⟨st1, hm1, hd1⟩ := iter_e hit1
    have h1 := hm1
    refine St.seq ?_
    refine St.region ?_
    refine St.p rfl rfl ?_
    refine St.done ?_
    refine St.thenN ?_
    refine St.seq ?_
    refine St.cond _ rfl (fun hb1 => ?_) (fun hb1 => ?_)
    · replace h1 := bif_t hb1 h1
      refine St.skip ?_
      refine St.thenN ?_
      refine St.prune (Γ' := [(0, _), (1, _), (7, _), (8, _)]) ⟨rfl, rfl, rfl, rfl, trivial⟩ (.k .z) ?_
      refine St.seq ?_
      refine St.block ?_
      refine St.seq ?_
      refine St.region ?_
      refine St.p rfl rfl ?_
      refine St.p rfl rfl ?_
      refine St.done ?_
      refine St.thenN ?_
      refine St.prune (Γ' := [(0, _), (1, _), (5, _), (7, _), (8, _)]) ⟨rfl, rfl, rfl, rfl, rfl, trivial⟩ (.k .z) ?_
      refine St.seq ?_
      refine St.region ?_
      iterate 3 refine St.p rfl rfl ?_
      obtain ⟨x1, hx1, h1⟩ := bnd_e h1
      refine St.ixL hx1 rfl rfl rfl (.head _) rfl rfl rfl rfl rfl fun b1 ob1 => ?_
      refine St.load ob1 0 rfl rfl (.head _) rfl rfl ?_
      obtain ⟨r1, hr1, h1⟩ := bnd_e h1
      refine St.callV (c_unitinfo_decodeArea_1 hr1) ent60 rfl rfl rfl rfl trivial ?_
      refine St.done ?_
      refine St.thenN ?_
      refine St.prune (Γ' := [(0, _), (1, _), (5, _), (7, _), (8, _), (16, _)]) ⟨rfl, rfl, rfl, rfl, rfl, rfl, trivial⟩ (.d (.k .z)) ?_
      refine St.cond _ rfl (fun hb2 => ?_) (fun hb2 => ?_)
      · replace h1 := bif_t hb2 h1
        refine St.seq ?_
        refine St.region ?_
        refine St.p rfl rfl ?_
        refine St.p rfl rfl ?_
        refine St.done ?_
        refine St.thenN ?_
        refine St.prune (Γ' := [(4, _)]) ⟨rfl, trivial⟩ (.d .z) ?_
        refine St.ret ?_
        repeat (first | refine St.thenR ?_ | refine St.blkR ?_)
        injection h1 with h1
        subst h1
        have ho := hd1 _ rfl
        subst ho
        have h : some _ = some _ := h
        injection h with h
        subst h
        exact St.finR Tryd.results76 (.tmp rfl .nil) rfl [] ⟨rfl, rfl⟩ (fun _ w => (.z : Keep _ _).sat w)
      · replace h1 := bif_f hb2 h1
        refine St.skip ?_
        refine St.blkN ?_
        refine St.thenN ?_
        refine St.prune (Γ' := [(0, _), (1, _), (7, _), (8, _)]) ⟨rfl, rfl, rfl, rfl, trivial⟩ (.k .z) ?_
        refine St.region ?_
        refine St.p rfl rfl ?_
        refine St.p rfl rfl ?_
        refine St.done ?_
        injection h1 with h1
        subst h1
        refine St.thenN ?_
        exact St.again _ () hm1 trivial ⟨rfl, rfl, rfl, rfl, trivial⟩ (fun _ w => ((.k .z) : Keep _ _).sat w)
    · replace h1 := bif_f hb1 h1
      refine St.exit ?_
      repeat (first | refine St.thenX ?_ | refine St.blkMiss rfl ?_)
      refine St.blkHit ?_
      injection h1 with h1
      subst h1
      have ho := hd1 _ rfl
      subst ho
      refine St.thenN ?_
      exact St.hereI () () rfl trivial (fun _ w => ((.d .z) : Keep _ _).sat w)
  · rintro o2 e2 ho
    subst ho
    have h : _ = some _ := h
    refine St.seq ?_
    refine St.region ?_
    refine St.p rfl rfl ?_
    refine St.done ?_
    refine St.thenN ?_
    refine St.ret ?_
    repeat (first | refine St.thenR ?_ | refine St.blkR ?_)
    injection h with h
    subst h
    exact St.finR Tryd.results76 (.tmp rfl .nil) rfl [] ⟨rfl, rfl⟩ (fun _ w => (.z : Keep _ _).sat w)

theorem ent59 : Ent Tryd.prog 59 := ⟨_, Tryd.func59, by kernel_rfl, by kernel_rfl⟩

noncomputable def m_slices_ContainsFunc__byte_byte_f60 (s_p0 : (List Int)) : Option Bool :=
  bnd (m_slices_IndexFunc__byte_byte_f60 s_p0) fun r1 => some (decide (r1 ≥ 0))

theorem c_slices_ContainsFunc__byte_byte_f60 {s_p0 : (List Int)} {A1 : Option Addr} {c1 : Nat} {r : Bool} (h : m_slices_ContainsFunc__byte_byte_f60 s_p0 = some r) :
    Fun Tryd.prog 59 [.slice A1 s_p0.length c1, .func (.func 60) #[] #[]] [.ro (SlL eu8 A1 c1 s_p0)] (Val (.bool r)) := by
  unfold m_slices_ContainsFunc__byte_byte_f60 at h
  refine Fun.intro Tryd.func59 rfl rfl rfl fun w R => ?_
  refine St.seq ?_
  refine St.region ?_
  refine St.p rfl rfl ?_
  refine St.done ?_
  refine St.thenN ?_
  refine St.prune (Γ' := [(0, _), (1, _)]) ⟨rfl, rfl, trivial⟩ (.k .z) ?_
  refine St.seq ?_
  refine St.region ?_
  refine St.p rfl rfl ?_
  refine St.p rfl rfl ?_
  obtain ⟨r1, hr1, h⟩ := bnd_e h
  refine St.callV (c_slices_IndexFunc__byte_byte_f60 hr1) ent76 rfl rfl rfl rfl ⟨(.head _), trivial⟩ ?_
  refine St.p rfl rfl ?_
  refine St.p rfl rfl ?_
  refine St.done ?_
  refine St.thenN ?_
  refine St.prune (Γ' := [(4, _)]) ⟨rfl, trivial⟩ (.d .z) ?_
  refine St.ret ?_
  repeat (first | refine St.thenR ?_ | refine St.blkR ?_)
  injection h with h
  subst h
  exact St.finR Tryd.results59 (.tmp rfl .nil) rfl [] ⟨rfl, rfl⟩ (fun _ w => (.z : Keep _ _).sat w)

theorem ent40 : Ent Tryd.prog 40 := ⟨_, Tryd.func40, by kernel_rfl, by kernel_rfl⟩

noncomputable def m_unitinfo_decodeArea (b_p0 : (List Int)) (k_p1 : Int) : Option (T_Area × Int) :=
  bnd (elt b_p0 (IntKind.wrap .i64 (2 + k_p1))) fun x1 => bif ((IntKind.wrap .i64 (8 * (IntKind.wrap .i64 x1))) == 0) then (some ((⟨false, 0, 0, []⟩ : T_Area), 0)) else (bif decide ((b_p0.length : Int) < (IntKind.wrap .i64 ((IntKind.wrap .i64 (8 * (IntKind.wrap .i64 x1))) + 2))) then (some ((⟨false, 0, 0, []⟩ : T_Area), 4)) else (bnd ((bnd (elt b_p0 (IntKind.wrap .i64 (8 * (IntKind.wrap .i64 x1)))) fun x2 => bif (x2 != 1) then (some true) else (bnd (elt b_p0 (IntKind.wrap .i64 ((IntKind.wrap .i64 (8 * (IntKind.wrap .i64 x1))) + 1))) fun x3 => some (x3 == 0)) : Option Bool)) fun o1 => bif o1 then (some ((⟨false, 0, 0, []⟩ : T_Area), 6)) else (bnd (elt b_p0 (IntKind.wrap .i64 ((IntKind.wrap .i64 (8 * (IntKind.wrap .i64 x1))) + 1))) fun x4 => bif decide ((b_p0.length : Int) < (IntKind.wrap .i64 ((IntKind.wrap .i64 (8 * (IntKind.wrap .i64 x1))) + (IntKind.wrap .i64 (8 * (IntKind.wrap .i64 x4)))))) then (some ((⟨false, 0, 0, []⟩ : T_Area), 4)) else (bnd (sub b_p0 (IntKind.wrap .i64 (8 * (IntKind.wrap .i64 x1))) (IntKind.wrap .i64 ((IntKind.wrap .i64 (8 * (IntKind.wrap .i64 x1))) + (IntKind.wrap .i64 (8 * (IntKind.wrap .i64 x4)))))) fun l1 => bnd (m_checksum_Open8 l1) fun r1 => bif (r1.2 != 0) then (some ((⟨false, 0, 0, []⟩ : T_Area), r1.2)) else (bnd (m_unitinfo_fieldsAt k_p1) fun r2 => bnd (sub r1.1 r2 (r1.1.length : Int)) fun l2 => bnd (m_fields_DecodeList l2) fun r3 => bif (r3.2.2 != 0) then (some ((⟨false, 0, 0, []⟩ : T_Area), r3.2.2)) else (bnd (m_unitinfo_fieldsAt k_p1) fun r4 => bnd (sub r1.1 (IntKind.wrap .i64 (r4 + r3.2.1)) (r1.1.length : Int)) fun l3 => bnd (m_slices_ContainsFunc__byte_byte_f60 l3) fun r5 => bif r5 then (some ((⟨false, 0, 0, []⟩ : T_Area), 6)) else (bnd (elt r1.1 2) fun x5 => bif (k_p1 == 1) then (bnd (elt r1.1 3) fun x6 => bnd (elt r1.1 4) fun x7 => bnd (elt r1.1 5) fun x8 => some ((⟨true, x5, iOr .u32 (iOr .u32 (IntKind.wrap .u32 x6) (iShl .u32 (IntKind.wrap .u32 x7) 8)) (iShl .u32 (IntKind.wrap .u32 x8) 16), r3.1⟩ : T_Area), 0)) else (some ((⟨true, x5, 0, r3.1⟩ : T_Area), 0)))))))))

set_option maxHeartbeats 4000000 in
theorem c_unitinfo_decodeArea {b_p0 : (List Int)} {k_p1 : Int} {A1 : Option Addr} {c1 : Nat} {r : (T_Area × Int)} (h : m_unitinfo_decodeArea b_p0 k_p1 = some r) :
    Fun Tryd.prog 40 [.slice A1 b_p0.length c1, .int .i64 k_p1] [.ro (SlL eu8 A1 c1 b_p0)] (fun v_ F_ => ∃ (A1 : Option Addr) (c1 : Nat), v_ = .tuple #[.agg (bx_T_Area r.1 A1 c1).toArray, .int .i64 r.2] ∧ F_ = [.ro (SlL e_Field A1 c1 r.1.Fields)]) := by
  unfold m_unitinfo_decodeArea at h
  refine Fun.intro Tryd.func40 rfl rfl rfl fun w R => ?_
  refine St.seq ?_
  refine St.region ?_
  refine St.alloc rfl rfl fun g1 => ?_
  refine St.p rfl rfl ?_
  refine St.done ?_
  refine St.thenN ?_
  refine St.prune (Γ' := [(0, _), (1, _), (4, _)]) ⟨rfl, rfl, rfl, trivial⟩ (.k (.k .z)) ?_
  refine St.seq ?_
  refine St.region ?_
  iterate 3 refine St.p rfl rfl ?_
  obtain ⟨x1, hx1, h⟩ := bnd_e h
  refine St.ixL hx1 rfl rfl rfl (.tail _ (.head _)) rfl rfl rfl rfl rfl fun b1 ob1 => ?_
  refine St.load ob1 0 rfl rfl (.head _) rfl rfl ?_
  iterate 3 refine St.p rfl rfl ?_
  refine St.done ?_
  refine St.thenN ?_
  refine St.prune (Γ' := [(0, _), (1, _), (4, _), (6, _)]) ⟨rfl, rfl, rfl, rfl, trivial⟩ (.d (.k (.k .z))) ?_
  refine St.seq ?_
  refine St.block ?_
  refine St.seq ?_
  refine St.region ?_
  iterate 3 refine St.p rfl rfl ?_
  refine St.done ?_
  refine St.thenN ?_
  refine St.prune (Γ' := [(0, _), (1, _), (4, _), (6, _), (19, _)]) ⟨rfl, rfl, rfl, rfl, rfl, trivial⟩ (.k (.k .z)) ?_
  refine St.cond _ rfl (fun hb1 => ?_) (fun hb1 => ?_)
  · replace h := bif_t hb1 h
    refine St.seq ?_
    refine St.region ?_
    refine St.p rfl rfl ?_
    refine St.store 0 rfl rfl rfl rfl rfl rfl .z rfl ?_
    refine St.p rfl rfl ?_
    refine St.done ?_
    refine St.thenN ?_
    refine St.prune (Γ' := [(4, _), (5, _)]) ⟨rfl, rfl, trivial⟩ (.k (.d .z)) ?_
    refine St.ret ?_
    repeat (first | refine St.thenR ?_ | refine St.blkR ?_)
    refine St.asrt (fun _ w => w.nilSl (cod e_Field)) ?_
    injection h with h
    subst h
    exact St.finR Tryd.results40 (.cell rfl (.tail _ (.head _)) rfl (.tmp rfl .nil)) rfl [.ro (SlL e_Field none 0 ([] : List T_Field))] ⟨none, 0, rfl, rfl⟩ (fun _ w => ((.k (.d (.d .z))) : Keep _ _).sat (Sat.dup (G := [.ro (SlL e_Field none 0 ([] : List T_Field))]) rfl ⟨(.head _), trivial⟩ w))
  · replace h := bif_f hb1 h
    refine St.seq ?_
    refine St.region ?_
    iterate 6 refine St.p rfl rfl ?_
    refine St.done ?_
    refine St.thenN ?_
    refine St.prune (Γ' := [(0, _), (1, _), (4, _), (6, _), (23, _)]) ⟨rfl, rfl, rfl, rfl, rfl, trivial⟩ (.k (.k .z)) ?_
    refine St.cond _ rfl (fun hb2 => ?_) (fun hb2 => ?_)
    · replace h := bif_t hb2 h
      refine St.seq ?_
      refine St.region ?_
      refine St.p rfl rfl ?_
      refine St.store 0 rfl rfl rfl rfl rfl rfl .z rfl ?_
      refine St.p rfl rfl ?_
      refine St.done ?_
      refine St.thenN ?_
      refine St.prune (Γ' := [(4, _), (5, _)]) ⟨rfl, rfl, trivial⟩ (.k (.d .z)) ?_
      refine St.ret ?_
      repeat (first | refine St.thenR ?_ | refine St.blkR ?_)
      refine St.asrt (fun _ w => w.nilSl (cod e_Field)) ?_
      injection h with h
      subst h
      exact St.finR Tryd.results40 (.cell rfl (.tail _ (.head _)) rfl (.tmp rfl .nil)) rfl [.ro (SlL e_Field none 0 ([] : List T_Field))] ⟨none, 0, rfl, rfl⟩ (fun _ w => ((.k (.d (.d .z))) : Keep _ _).sat (Sat.dup (G := [.ro (SlL e_Field none 0 ([] : List T_Field))]) rfl ⟨(.head _), trivial⟩ w))
    · replace h := bif_f hb2 h
      refine St.seq ?_
      obtain ⟨o1, hj1, h⟩ := bnd_e h
      refine St.cutE (fun (e1 : Unit) => [(0, .slice A1 b_p0.length c1), (1, .int .i64 k_p1), (4, .pointer (some ⟨g1, 0, none⟩)), (6, .int .i64 (IntKind.wrap .i64 (8 * (IntKind.wrap .i64 x1)))), (30, .bool o1)]) (fun e1 => .res (Box g1 25 [.bool false, .int .u8 0, .int .u32 0, .slice none 0 0]) :: .ro (SlL eu8 A1 c1 b_p0) :: R) ?_ ?_
      · refine St.region ?_
        refine St.p rfl rfl ?_
        refine St.p rfl rfl ?_
        obtain ⟨x2, hx2, hj1⟩ := bnd_e hj1
        refine St.ixL hx2 rfl rfl rfl (.tail _ (.head _)) rfl rfl rfl rfl rfl fun b2 ob2 => ?_
        refine St.load ob2 0 rfl rfl (.head _) rfl rfl ?_
        refine St.p rfl rfl ?_
        refine St.p rfl rfl ?_
        refine St.gSplit (dj := 36) _ rfl (fun hb3 => ?_) (fun hb3 => ?_)
        · replace hj1 := bif_t hb3 hj1
          refine St.gOff (dj := 36) rfl rfl rfl rfl ?_
          refine St.gOff (dj := 36) rfl rfl rfl rfl ?_
          refine St.gOff (dj := 36) rfl rfl rfl rfl ?_
          refine St.gOff (dj := 36) rfl rfl rfl rfl ?_
          refine St.gOff (dj := 36) rfl rfl rfl rfl ?_
          refine St.gOff (dj := 36) rfl rfl rfl rfl ?_
          refine St.p rfl rfl ?_
          refine St.p rfl rfl ?_
          refine St.done ?_
          injection hj1 with hj1
          subst hj1
          refine St.thenN ?_
          exact St.hereE () ⟨rfl, rfl, rfl, rfl, rfl, trivial⟩ (fun _ w => ((.d (.k (.k .z))) : Keep _ _).sat w)
        · replace hj1 := bif_f hb3 hj1
          refine St.gOn (dj := 36) rfl rfl ?_
          refine St.p rfl rfl ?_
          refine St.gOn (dj := 36) rfl rfl ?_
          refine St.p rfl rfl ?_
          refine St.gOn (dj := 36) rfl rfl ?_
          refine St.p rfl rfl ?_
          refine St.gOn (dj := 36) rfl rfl ?_
          obtain ⟨x3, hx3, hj1⟩ := bnd_e hj1
          refine St.ixL hx3 rfl rfl rfl (.tail _ (.tail _ (.head _))) rfl rfl rfl rfl rfl fun b3 ob3 => ?_
          refine St.gOn (dj := 36) rfl rfl ?_
          refine St.load ob3 0 rfl rfl (.head _) rfl rfl ?_
          refine St.gOn (dj := 36) rfl rfl ?_
          iterate 3 refine St.p rfl rfl ?_
          refine St.done ?_
          injection hj1 with hj1
          subst hj1
          refine St.thenN ?_
          exact St.hereE () ⟨rfl, rfl, rfl, rfl, rfl, trivial⟩ (fun _ w => ((.d (.d (.k (.k .z)))) : Keep _ _).sat w)
      · rintro e1
        refine St.cond _ rfl (fun hb4 => ?_) (fun hb4 => ?_)
        · replace h := bif_t hb4 h
          refine St.seq ?_
          refine St.region ?_
          refine St.p rfl rfl ?_
          refine St.store 0 rfl rfl rfl rfl rfl rfl .z rfl ?_
          refine St.p rfl rfl ?_
          refine St.done ?_
          refine St.thenN ?_
          refine St.prune (Γ' := [(4, _), (5, _)]) ⟨rfl, rfl, trivial⟩ (.k (.d .z)) ?_
          refine St.ret ?_
          repeat (first | refine St.thenR ?_ | refine St.blkR ?_)
          refine St.asrt (fun _ w => w.nilSl (cod e_Field)) ?_
          injection h with h
          subst h
          exact St.finR Tryd.results40 (.cell rfl (.tail _ (.head _)) rfl (.tmp rfl .nil)) rfl [.ro (SlL e_Field none 0 ([] : List T_Field))] ⟨none, 0, rfl, rfl⟩ (fun _ w => ((.k (.d (.d .z))) : Keep _ _).sat (Sat.dup (G := [.ro (SlL e_Field none 0 ([] : List T_Field))]) rfl ⟨(.head _), trivial⟩ w))
        · replace h := bif_f hb4 h
          refine St.skip ?_
          refine St.blkN ?_
          refine St.thenN ?_
          refine St.prune (Γ' := [(0, _), (1, _), (4, _), (6, _)]) ⟨rfl, rfl, rfl, rfl, trivial⟩ (.k (.k .z)) ?_
          refine St.seq ?_
          refine St.region ?_
          iterate 4 refine St.p rfl rfl ?_
          obtain ⟨x4, hx4, h⟩ := bnd_e h
          refine St.ixL hx4 rfl rfl rfl (.tail _ (.head _)) rfl rfl rfl rfl rfl fun b4 ob4 => ?_
          refine St.load ob4 0 rfl rfl (.head _) rfl rfl ?_
          iterate 4 refine St.p rfl rfl ?_
          refine St.done ?_
          refine St.thenN ?_
          refine St.prune (Γ' := [(0, _), (1, _), (4, _), (6, _), (7, _)]) ⟨rfl, rfl, rfl, rfl, rfl, trivial⟩ (.d (.k (.k .z))) ?_
          refine St.seq ?_
          refine St.seq ?_
          refine St.region ?_
          iterate 4 refine St.p rfl rfl ?_
          refine St.done ?_
          refine St.thenN ?_
          refine St.prune (Γ' := [(0, _), (1, _), (4, _), (6, _), (7, _), (57, _)]) ⟨rfl, rfl, rfl, rfl, rfl, rfl, trivial⟩ (.k (.k .z)) ?_
          refine St.cond _ rfl (fun hb5 => ?_) (fun hb5 => ?_)
          · replace h := bif_t hb5 h
            refine St.seq ?_
            refine St.region ?_
            refine St.p rfl rfl ?_
            refine St.store 0 rfl rfl rfl rfl rfl rfl .z rfl ?_
            refine St.p rfl rfl ?_
            refine St.done ?_
            refine St.thenN ?_
            refine St.prune (Γ' := [(4, _), (5, _)]) ⟨rfl, rfl, trivial⟩ (.k (.d .z)) ?_
            refine St.ret ?_
            repeat (first | refine St.thenR ?_ | refine St.blkR ?_)
            refine St.asrt (fun _ w => w.nilSl (cod e_Field)) ?_
            injection h with h
            subst h
            exact St.finR Tryd.results40 (.cell rfl (.tail _ (.head _)) rfl (.tmp rfl .nil)) rfl [.ro (SlL e_Field none 0 ([] : List T_Field))] ⟨none, 0, rfl, rfl⟩ (fun _ w => ((.k (.d (.d .z))) : Keep _ _).sat (Sat.dup (G := [.ro (SlL e_Field none 0 ([] : List T_Field))]) rfl ⟨(.head _), trivial⟩ w))
          · replace h := bif_f hb5 h
            refine St.skip ?_
            refine St.thenN ?_
            refine St.prune (Γ' := [(0, _), (1, _), (4, _), (6, _), (7, _)]) ⟨rfl, rfl, rfl, rfl, rfl, trivial⟩ (.k (.k .z)) ?_
            refine St.seq ?_
            refine St.region ?_
            iterate 3 refine St.p rfl rfl ?_
            obtain ⟨l1, hl1, h⟩ := bnd_e h
            refine St.sub (E := (cod eu8)) rfl rfl (.tail _ (.head _)) rfl rfl rfl rfl rfl rfl rfl hl1 fun A2 c2 => ?_
            obtain ⟨r1, hr1, h⟩ := bnd_e h
            refine St.call (c_checksum_Open8 hr1) ent56 rfl rfl rfl (fun _ w => Sat.dup (G := [.ro (SlL eu8 A2 c2 l1)]) rfl ⟨(.head _), trivial⟩ w) ?_
            rintro _ _ ⟨A3, c3, rfl, rfl⟩
            refine St.asrt (F' := .res (OwnL eu8 5 A3 c3 r1.1) :: .ro (SlL eu8 A2 c2 l1) :: .res (Box g1 25 [.bool false, .int .u8 0, .int .u32 0, .slice none 0 0]) :: .ro (SlL eu8 A1 c1 b_p0) :: R) (fun _ w => w) ?_
            iterate 5 refine St.p rfl rfl ?_
            refine St.done ?_
            refine St.thenN ?_
            refine St.prune (Γ' := [(0, _), (1, _), (4, _), (8, _)]) ⟨rfl, rfl, rfl, rfl, trivial⟩ (.k (.d (.k (.d .z)))) ?_
            refine St.seq ?_
            refine St.seq ?_
            refine St.region ?_
            refine St.p rfl rfl ?_
            refine St.p rfl rfl ?_
            refine St.done ?_
            refine St.thenN ?_
            refine St.prune (Γ' := [(0, _), (1, _), (4, _), (8, _), (68, _)]) ⟨rfl, rfl, rfl, rfl, rfl, trivial⟩ (.k (.k .z)) ?_
            refine St.cond _ rfl (fun hb6 => ?_) (fun hb6 => ?_)
            · replace h := bif_t hb6 h
              refine St.seq ?_
              refine St.region ?_
              refine St.p rfl rfl ?_
              refine St.p rfl rfl ?_
              refine St.store 0 rfl rfl rfl rfl rfl rfl (.s .z) rfl ?_
              refine St.p rfl rfl ?_
              refine St.done ?_
              refine St.thenN ?_
              refine St.prune (Γ' := [(4, _), (5, _)]) ⟨rfl, rfl, trivial⟩ (.k (.d .z)) ?_
              refine St.ret ?_
              repeat (first | refine St.thenR ?_ | refine St.blkR ?_)
              refine St.asrt (fun _ w => w.nilSl (cod e_Field)) ?_
              injection h with h
              subst h
              exact St.finR Tryd.results40 (.cell rfl (.tail _ (.head _)) rfl (.tmp rfl .nil)) rfl [.ro (SlL e_Field none 0 ([] : List T_Field))] ⟨none, 0, rfl, rfl⟩ (fun _ w => ((.k (.d (.d .z))) : Keep _ _).sat (Sat.dup (G := [.ro (SlL e_Field none 0 ([] : List T_Field))]) rfl ⟨(.head _), trivial⟩ w))
            · replace h := bif_f hb6 h
              refine St.skip ?_
              refine St.thenN ?_
              refine St.prune (Γ' := [(0, _), (1, _), (4, _)]) ⟨rfl, rfl, rfl, trivial⟩ (.k (.k .z)) ?_
              refine St.seq ?_
              refine St.region ?_
              refine St.p rfl rfl ?_
              refine St.p rfl rfl ?_
              obtain ⟨r2, hr2, h⟩ := bnd_e h
              refine St.callV (c_unitinfo_fieldsAt hr2) ent58 rfl rfl rfl rfl trivial ?_
              refine St.asrt (fun _ w => (w.front .z).meltL) ?_
              obtain ⟨l2, hl2, h⟩ := bnd_e h
              refine St.sub (E := (cod eu8)) rfl rfl (.head _) rfl rfl rfl rfl rfl rfl rfl hl2 fun A4 c4 => ?_
              obtain ⟨r3, hr3, h⟩ := bnd_e h
              refine St.call (c_fields_DecodeList hr3) ent57 rfl rfl rfl (fun _ w => Sat.dup (G := [.ro (SlL eu8 A4 c4 l2)]) rfl ⟨(.head _), trivial⟩ w) ?_
              rintro _ _ ⟨A5, c5, rfl, rfl⟩
              refine St.asrt (F' := .res (OwnL e_Field 60 A5 c5 r3.1) :: .ro (SlL eu8 A4 c4 l2) :: .ro (SlL eu8 A3 c3 r1.1) :: .res (Box g1 25 [.bool false, .int .u8 0, .int .u32 0, .slice none 0 0]) :: R) (fun _ w => w) ?_
              iterate 7 refine St.p rfl rfl ?_
              refine St.done ?_
              refine St.thenN ?_
              refine St.prune (Γ' := [(0, _), (1, _), (4, _), (8, _), (9, _), (10, _)]) ⟨rfl, rfl, rfl, rfl, rfl, rfl, trivial⟩ (.k (.d (.k (.k .z)))) ?_
              refine St.seq ?_
              refine St.seq ?_
              refine St.region ?_
              refine St.p rfl rfl ?_
              refine St.p rfl rfl ?_
              refine St.done ?_
              refine St.thenN ?_
              refine St.prune (Γ' := [(0, _), (1, _), (4, _), (8, _), (9, _), (10, _), (81, _)]) ⟨rfl, rfl, rfl, rfl, rfl, rfl, rfl, trivial⟩ (.k (.k (.k .z))) ?_
              refine St.cond _ rfl (fun hb7 => ?_) (fun hb7 => ?_)
              · replace h := bif_t hb7 h
                refine St.seq ?_
                refine St.region ?_
                refine St.p rfl rfl ?_
                refine St.p rfl rfl ?_
                refine St.store 0 rfl rfl rfl rfl rfl rfl (.s (.s .z)) rfl ?_
                refine St.p rfl rfl ?_
                refine St.done ?_
                refine St.thenN ?_
                refine St.prune (Γ' := [(4, _), (5, _)]) ⟨rfl, rfl, trivial⟩ (.k (.d (.d .z))) ?_
                refine St.ret ?_
                repeat (first | refine St.thenR ?_ | refine St.blkR ?_)
                refine St.asrt (fun _ w => w.nilSl (cod e_Field)) ?_
                injection h with h
                subst h
                exact St.finR Tryd.results40 (.cell rfl (.tail _ (.head _)) rfl (.tmp rfl .nil)) rfl [.ro (SlL e_Field none 0 ([] : List T_Field))] ⟨none, 0, rfl, rfl⟩ (fun _ w => ((.k (.d (.d .z))) : Keep _ _).sat (Sat.dup (G := [.ro (SlL e_Field none 0 ([] : List T_Field))]) rfl ⟨(.head _), trivial⟩ w))
              · replace h := bif_f hb7 h
                refine St.skip ?_
                refine St.thenN ?_
                refine St.prune (Γ' := [(0, _), (1, _), (4, _), (9, _), (10, _)]) ⟨rfl, rfl, rfl, rfl, rfl, trivial⟩ (.k (.k (.k .z))) ?_
                refine St.seq ?_
                refine St.seq ?_
                refine St.region ?_
                refine St.p rfl rfl ?_
                refine St.p rfl rfl ?_
                obtain ⟨r4, hr4, h⟩ := bnd_e h
                refine St.callV (c_unitinfo_fieldsAt hr4) ent58 rfl rfl rfl rfl trivial ?_
                refine St.p rfl rfl ?_
                refine St.p rfl rfl ?_
                obtain ⟨l3, hl3, h⟩ := bnd_e h
                refine St.sub (E := (cod eu8)) rfl rfl (.tail _ (.head _)) rfl rfl rfl rfl rfl rfl rfl hl3 fun A6 c6 => ?_
                obtain ⟨r5, hr5, h⟩ := bnd_e h
                refine St.callV (c_slices_ContainsFunc__byte_byte_f60 hr5) ent59 rfl rfl rfl rfl ⟨(.head _), trivial⟩ ?_
                refine St.done ?_
                refine St.thenN ?_
                refine St.prune (Γ' := [(0, _), (1, _), (4, _), (9, _), (90, _)]) ⟨rfl, rfl, rfl, rfl, rfl, trivial⟩ (.d (.k (.k (.k .z)))) ?_
                refine St.cond _ rfl (fun hb8 => ?_) (fun hb8 => ?_)
                · replace h := bif_t hb8 h
                  refine St.seq ?_
                  refine St.region ?_
                  refine St.p rfl rfl ?_
                  refine St.store 0 rfl rfl rfl rfl rfl rfl (.s (.s .z)) rfl ?_
                  refine St.p rfl rfl ?_
                  refine St.done ?_
                  refine St.thenN ?_
                  refine St.prune (Γ' := [(4, _), (5, _)]) ⟨rfl, rfl, trivial⟩ (.k (.d (.d .z))) ?_
                  refine St.ret ?_
                  repeat (first | refine St.thenR ?_ | refine St.blkR ?_)
                  refine St.asrt (fun _ w => w.nilSl (cod e_Field)) ?_
                  injection h with h
                  subst h
                  exact St.finR Tryd.results40 (.cell rfl (.tail _ (.head _)) rfl (.tmp rfl .nil)) rfl [.ro (SlL e_Field none 0 ([] : List T_Field))] ⟨none, 0, rfl, rfl⟩ (fun _ w => ((.k (.d (.d .z))) : Keep _ _).sat (Sat.dup (G := [.ro (SlL e_Field none 0 ([] : List T_Field))]) rfl ⟨(.head _), trivial⟩ w))
                · replace h := bif_f hb8 h
                  refine St.skip ?_
                  refine St.thenN ?_
                  refine St.prune (Γ' := [(0, _), (1, _), (4, _), (9, _)]) ⟨rfl, rfl, rfl, rfl, trivial⟩ (.k (.k (.k .z))) ?_
                  refine St.seq ?_
                  refine St.region ?_
                  refine St.p rfl rfl ?_
                  obtain ⟨x5, hx5, h⟩ := bnd_e h
                  refine St.ixL hx5 rfl rfl rfl (.tail _ (.head _)) rfl rfl rfl rfl rfl fun b5 ob5 => ?_
                  refine St.load ob5 0 rfl rfl (.head _) rfl rfl ?_
                  refine St.p rfl rfl ?_
                  refine St.p rfl rfl ?_
                  refine St.alloc rfl rfl fun g2 => ?_
                  refine St.store 0 rfl rfl rfl rfl rfl rfl .z rfl ?_
                  refine St.done ?_
                  refine St.thenN ?_
                  refine St.prune (Γ' := [(0, _), (1, _), (4, _), (11, _)]) ⟨rfl, rfl, rfl, rfl, trivial⟩ (.k (.d (.k (.k (.k .z))))) ?_
                  refine St.seq ?_
                  refine St.seq ?_
                  refine St.region ?_
                  refine St.p rfl rfl ?_
                  refine St.p rfl rfl ?_
                  refine St.done ?_
                  refine St.thenN ?_
                  refine St.prune (Γ' := [(0, _), (4, _), (11, _), (98, _)]) ⟨rfl, rfl, rfl, rfl, trivial⟩ (.k (.k (.k (.k .z)))) ?_
                  refine St.cond _ rfl (fun hb9 => ?_) (fun hb9 => ?_)
                  · replace h := bif_t hb9 h
                    refine St.regionX (iL [(.fl, 0), (.fx, 1), (.fx, 2), (.fl, 3), (.fl, 4), (.fx, 5), (.fx, 6), (.fl, 7), (.fl, 8), (.fl, 9), (.fl, 10), (.fx, 11), (.fx, 12), (.fl, 13), (.fl, 14), (.fl, 15), (.fl, 16), (.ef, 17)] .nil) (.res (OwnL e_Field 60 A5 c5 r3.1) :: .ro (SlL eu8 A3 c3 r1.1) :: .res (Box g1 25 [.bool false, .int .u8 0, .int .u32 0, .slice none 0 0]) :: R) mixed (by kernel_rfl) (fun _ w => ((.d (.k (.k (.k .z)))) : Keep _ _).sat w) ?_
                    refine St.xfl (fun _ h => h) (Rd.p rfl) rfl ?_
                    obtain ⟨x6, hx6, h⟩ := bnd_e h
                    refine St.openA (.tail _ (.tail _ (.head _))) hx6 fun b6 ob6 hqb6 => ?_
                    refine St.asrt (fun _ w => Sat.addC hqb6 (.tail _ (.tail _ (.head _))) hx6 w) ?_
                    have hc1 := fun w h => Sat.addC hqb6 (.tail _ (.head _)) hx6 ((fun (w : World) (h : Sat (.res (OwnL e_Field 60 A5 c5 r3.1) :: .ro (SlL eu8 A3 c3 r1.1) :: .res (Box g1 25 [.bool false, .int .u8 0, .int .u32 0, .slice none 0 0]) :: R) w) => h) w h)
                    refine St.xfx (Rd.ixL (E := eu8) hqb6 hx6 rfl rfl rfl rfl rfl rfl rfl) rfl ?_
                    refine St.xfx (Rd.load ob6 0 rfl (.head _) rfl rfl) rfl ?_
                    refine St.xfl (fun _ h => h) (Rd.p rfl) rfl ?_
                    refine St.xfl (fun _ h => h) (Rd.p rfl) rfl ?_
                    obtain ⟨x7, hx7, h⟩ := bnd_e h
                    refine St.openA (.tail _ (.tail _ (.tail _ (.head _)))) hx7 fun b7 ob7 hqb7 => ?_
                    refine St.asrt (fun _ w => Sat.addC hqb7 (.tail _ (.tail _ (.tail _ (.head _)))) hx7 w) ?_
                    have hc2 := fun w h => Sat.addC hqb7 (.tail _ (.tail _ (.head _))) hx7 (hc1 w h)
                    refine St.xfx (Rd.ixL (E := eu8) hqb7 hx7 rfl rfl rfl rfl rfl rfl rfl) rfl ?_
                    refine St.xfx (Rd.load ob7 0 rfl (.head _) rfl rfl) rfl ?_
                    refine St.xfl (fun _ h => h) (Rd.p rfl) rfl ?_
                    refine St.xfl (fun _ h => h) (Rd.p rfl) rfl ?_
                    refine St.xfl (fun _ h => h) (Rd.p rfl) rfl ?_
                    refine St.xfl (fun _ h => h) (Rd.p rfl) rfl ?_
                    obtain ⟨x8, hx8, h⟩ := bnd_e h
                    refine St.openA (.tail _ (.tail _ (.tail _ (.tail _ (.head _))))) hx8 fun b8 ob8 hqb8 => ?_
                    refine St.asrt (fun _ w => Sat.addC hqb8 (.tail _ (.tail _ (.tail _ (.tail _ (.head _))))) hx8 w) ?_
                    have hc3 := fun w h => Sat.addC hqb8 (.tail _ (.tail _ (.tail _ (.head _)))) hx8 (hc2 w h)
                    refine St.xfx (Rd.ixL (E := eu8) hqb8 hx8 rfl rfl rfl rfl rfl rfl rfl) rfl ?_
                    refine St.xfx (Rd.load ob8 0 rfl (.head _) rfl rfl) rfl ?_
                    refine St.xfl (fun _ h => h) (Rd.p rfl) rfl ?_
                    refine St.xfl (fun _ h => h) (Rd.p rfl) rfl ?_
                    refine St.xfl (fun _ h => h) (Rd.p rfl) rfl ?_
                    refine St.xfl (fun _ h => h) (Rd.p rfl) rfl ?_
                    refine St.xef ?_
                    refine St.store 2 rfl rfl rfl rfl rfl rfl (.s (.s (.s .z))) rfl ?_
                    refine St.xk (fun _ w => ((.d (.d (.d (.d (.k (.k (.k .z))))))) : Keep _ _).sat w) ?_
                    refine St.xdone ?_
                    refine St.thenN ?_
                    refine St.prune (Γ' := [(4, _), (11, _)]) ⟨rfl, rfl, trivial⟩ (.k (.d (.d (.d (.k (.d (.k .z))))))) ?_
                    refine St.seq ?_
                    refine St.region ?_
                    refine St.loadB 0 rfl rfl (.head _) rfl rfl ?_
                    refine St.store 0 rfl rfl rfl rfl rfl rfl (.s (.s .z)) rfl ?_
                    refine St.p rfl rfl ?_
                    refine St.done ?_
                    refine St.thenN ?_
                    refine St.prune (Γ' := [(4, _), (5, _)]) ⟨rfl, rfl, trivial⟩ (.k (.d (.k .z))) ?_
                    refine St.ret ?_
                    repeat (first | refine St.thenR ?_ | refine St.blkR ?_)
                    refine St.asrt (fun _ w => (w.front (.s .z)).meltL) ?_
                    injection h with h
                    subst h
                    exact St.finR Tryd.results40 (.cell rfl (.tail _ (.head _)) rfl (.tmp rfl .nil)) rfl [.ro (SlL e_Field A5 c5 r3.1)] ⟨A5, c5, rfl, rfl⟩ (fun _ w => ((.k (.d (.d .z))) : Keep _ _).sat (Sat.dup (G := [.ro (SlL e_Field A5 c5 r3.1)]) rfl ⟨(.head _), trivial⟩ w))
                  · replace h := bif_f hb9 h
                    refine St.skip ?_
                    refine St.thenN ?_
                    refine St.prune (Γ' := [(4, _), (11, _)]) ⟨rfl, rfl, trivial⟩ (.k (.k (.d (.k .z)))) ?_
                    refine St.seq ?_
                    refine St.region ?_
                    refine St.loadB 0 rfl rfl (.head _) rfl rfl ?_
                    refine St.store 0 rfl rfl rfl rfl rfl rfl (.s (.s .z)) rfl ?_
                    refine St.p rfl rfl ?_
                    refine St.done ?_
                    refine St.thenN ?_
                    refine St.prune (Γ' := [(4, _), (5, _)]) ⟨rfl, rfl, trivial⟩ (.k (.d (.k .z))) ?_
                    refine St.ret ?_
                    repeat (first | refine St.thenR ?_ | refine St.blkR ?_)
                    refine St.asrt (fun _ w => (w.front (.s .z)).meltL) ?_
                    injection h with h
                    subst h
                    exact St.finR Tryd.results40 (.cell rfl (.tail _ (.head _)) rfl (.tmp rfl .nil)) rfl [.ro (SlL e_Field A5 c5 r3.1)] ⟨A5, c5, rfl, rfl⟩ (fun _ w => ((.k (.d (.d .z))) : Keep _ _).sat (Sat.dup (G := [.ro (SlL e_Field A5 c5 r3.1)]) rfl ⟨(.head _), trivial⟩ w))

theorem ent27 : Ent Tryd.prog 27 := ⟨_, Tryd.func27, by kernel_rfl, by kernel_rfl⟩

noncomputable def m_unitinfo_Decode (b_p0 : (List Int)) : Option (T_Info × Int) :=
  bif decide ((b_p0.length : Int) < 8) then (some ((⟨(⟨false, 0, 0, []⟩ : T_Area), (⟨false, 0, 0, []⟩ : T_Area), (⟨false, 0, 0, []⟩ : T_Area), []⟩ : T_Info), 4)) else (bif decide ((b_p0.length : Int) > 2048) then (some ((⟨(⟨false, 0, 0, []⟩ : T_Area), (⟨false, 0, 0, []⟩ : T_Area), (⟨false, 0, 0, []⟩ : T_Area), []⟩ : T_Info), 3)) else (bnd (sub b_p0 0 8) fun l1 => bnd (m_checksum_Sum8 l1) fun r1 => bif (r1 != 0) then (some ((⟨(⟨false, 0, 0, []⟩ : T_Area), (⟨false, 0, 0, []⟩ : T_Area), (⟨false, 0, 0, []⟩ : T_Area), []⟩ : T_Info), 5)) else (bnd ((bnd (elt b_p0 0) fun x1 => bif (x1 != 1) then (some true) else (bnd (elt b_p0 1) fun x2 => bif (x2 != 0) then (some true) else (bnd (elt b_p0 6) fun x3 => some (x3 != 0))) : Option Bool)) fun o1 => bif o1 then (some ((⟨(⟨false, 0, 0, []⟩ : T_Area), (⟨false, 0, 0, []⟩ : T_Area), (⟨false, 0, 0, []⟩ : T_Area), []⟩ : T_Info), 6)) else (bnd (m_unitinfo_decodeArea b_p0 0) fun r2 => bif (r2.2 != 0) then (some ((⟨(⟨false, 0, 0, []⟩ : T_Area), (⟨false, 0, 0, []⟩ : T_Area), (⟨false, 0, 0, []⟩ : T_Area), []⟩ : T_Info), r2.2)) else (bnd (m_unitinfo_decodeArea b_p0 1) fun r3 => bif (r3.2 != 0) then (some ((⟨(⟨false, 0, 0, []⟩ : T_Area), (⟨false, 0, 0, []⟩ : T_Area), (⟨false, 0, 0, []⟩ : T_Area), []⟩ : T_Info), r3.2)) else (bnd (m_unitinfo_decodeArea b_p0 2) fun r4 => bif (r4.2 != 0) then (some ((⟨(⟨false, 0, 0, []⟩ : T_Area), (⟨false, 0, 0, []⟩ : T_Area), (⟨false, 0, 0, []⟩ : T_Area), []⟩ : T_Info), r4.2)) else (bnd ((bnd (elt b_p0 5) fun x4 => bif decide ((IntKind.wrap .i64 (8 * (IntKind.wrap .i64 x4))) > (b_p0.length : Int)) then (some (.inl ((⟨(⟨false, 0, 0, []⟩ : T_Area), (⟨false, 0, 0, []⟩ : T_Area), (⟨false, 0, 0, []⟩ : T_Area), []⟩ : T_Info), 4))) else (bif decide ((IntKind.wrap .i64 (8 * (IntKind.wrap .i64 x4))) > 0) then (bnd (sub b_p0 (IntKind.wrap .i64 (8 * (IntKind.wrap .i64 x4))) (b_p0.length : Int)) fun l2 => bnd (m_slices_Clone__byte_byte l2) fun r5 => some (.inr r5)) else (some (.inr ([])))) : Option ((T_Info × Int) ⊕ List Int))) fun o2 => retOr o2 fun o3 => bnd (m_unitinfo_Valid (⟨r2.1, r3.1, r4.1, o3⟩ : T_Info)) fun r6 => bif !r6 then (some ((⟨(⟨false, 0, 0, []⟩ : T_Area), (⟨false, 0, 0, []⟩ : T_Area), (⟨false, 0, 0, []⟩ : T_Area), []⟩ : T_Info), 1)) else (some ((⟨r2.1, r3.1, r4.1, o3⟩ : T_Info), 0)))))))))

set_option maxHeartbeats 4000000 in
theorem c_unitinfo_Decode {b_p0 : (List Int)} {A1 : Option Addr} {c1 : Nat} {r : (T_Info × Int)} (h : m_unitinfo_Decode b_p0 = some r) :
    Fun Tryd.prog 27 [.slice A1 b_p0.length c1] [.ro (SlL eu8 A1 c1 b_p0), .ro (SlL ei64 (some ⟨0, 0, none⟩) 3 ([2, 5, 7] : List Int))] (fun v_ F_ => ∃ (A1 : Option Addr) (c1 : Nat) (A2 : Option Addr) (c2 : Nat) (A3 : Option Addr) (c3 : Nat) (A4 : Option Addr) (c4 : Nat), v_ = .tuple #[.agg (bx_T_Info r.1 A1 c1 A2 c2 A3 c3 A4 c4).toArray, .int .i64 r.2] ∧ F_ = [.ro (SlL e_Field A1 c1 r.1.Chassis.Fields), .ro (SlL e_Field A2 c2 r.1.Board.Fields), .ro (SlL e_Field A3 c3 r.1.Product.Fields), .ro (SlL eu8 A4 c4 r.1.Multi)]) := by
  unfold m_unitinfo_Decode at h
  refine Fun.intro Tryd.func27 rfl rfl rfl fun w R => ?_
  refine St.seq ?_
  refine St.region ?_
  refine St.alloc rfl rfl fun g1 => ?_
  refine St.p rfl rfl ?_
  refine St.done ?_
  refine St.thenN ?_
  refine St.prune (Γ' := [(0, _), (2, _)]) ⟨rfl, rfl, trivial⟩ (.k (.k (.k .z))) ?_
  refine St.seq ?_
  refine St.block ?_
  refine St.seq ?_
  refine St.region ?_
  iterate 4 refine St.p rfl rfl ?_
  refine St.done ?_
  refine St.thenN ?_
  refine St.prune (Γ' := [(0, _), (2, _), (9, _)]) ⟨rfl, rfl, rfl, trivial⟩ (.k (.k (.k .z))) ?_
  refine St.cond _ rfl (fun hb1 => ?_) (fun hb1 => ?_)
  · replace h := bif_t hb1 h
    refine St.seq ?_
    refine St.region ?_
    refine St.p rfl rfl ?_
    refine St.store 0 rfl rfl rfl rfl rfl rfl .z rfl ?_
    refine St.p rfl rfl ?_
    refine St.done ?_
    refine St.thenN ?_
    refine St.prune (Γ' := [(2, _), (3, _)]) ⟨rfl, rfl, trivial⟩ (.k (.d (.k .z))) ?_
    refine St.ret ?_
    repeat (first | refine St.thenR ?_ | refine St.blkR ?_)
    refine St.asrt (fun _ w => w.nilSl (cod e_Field)) ?_
    refine St.asrt (fun _ w => w.nilSl (cod e_Field)) ?_
    refine St.asrt (fun _ w => w.nilSl (cod e_Field)) ?_
    refine St.asrt (fun _ w => w.nilSl (cod eu8)) ?_
    injection h with h
    subst h
    exact St.finR Tryd.results27 (.cell rfl (.tail _ (.tail _ (.tail _ (.tail _ (.head _))))) rfl (.tmp rfl .nil)) rfl [.ro (SlL e_Field none 0 ([] : List T_Field)), .ro (SlL e_Field none 0 ([] : List T_Field)), .ro (SlL e_Field none 0 ([] : List T_Field)), .ro (SlL eu8 none 0 ([] : List Int))] ⟨none, 0, none, 0, none, 0, none, 0, rfl, rfl⟩ (fun _ w => ((.k (.k (.k (.k (.d (.d (.d (.d (.d (.d .z)))))))))) : Keep _ _).sat (Sat.dup (G := [.ro (SlL e_Field none 0 ([] : List T_Field)), .ro (SlL e_Field none 0 ([] : List T_Field)), .ro (SlL e_Field none 0 ([] : List T_Field)), .ro (SlL eu8 none 0 ([] : List Int))]) rfl ⟨(.tail _ (.head _)), (.tail _ (.head _)), (.tail _ (.head _)), (.head _), trivial⟩ w))
  · replace h := bif_f hb1 h
    refine St.seq ?_
    refine St.region ?_
    iterate 4 refine St.p rfl rfl ?_
    refine St.done ?_
    refine St.thenN ?_
    refine St.prune (Γ' := [(0, _), (2, _), (14, _)]) ⟨rfl, rfl, rfl, trivial⟩ (.k (.k (.k .z))) ?_
    refine St.cond _ rfl (fun hb2 => ?_) (fun hb2 => ?_)
    · replace h := bif_t hb2 h
      refine St.seq ?_
      refine St.region ?_
      refine St.p rfl rfl ?_
      refine St.store 0 rfl rfl rfl rfl rfl rfl .z rfl ?_
      refine St.p rfl rfl ?_
      refine St.done ?_
      refine St.thenN ?_
      refine St.prune (Γ' := [(2, _), (3, _)]) ⟨rfl, rfl, trivial⟩ (.k (.d (.k .z))) ?_
      refine St.ret ?_
      repeat (first | refine St.thenR ?_ | refine St.blkR ?_)
      refine St.asrt (fun _ w => w.nilSl (cod e_Field)) ?_
      refine St.asrt (fun _ w => w.nilSl (cod e_Field)) ?_
      refine St.asrt (fun _ w => w.nilSl (cod e_Field)) ?_
      refine St.asrt (fun _ w => w.nilSl (cod eu8)) ?_
      injection h with h
      subst h
      exact St.finR Tryd.results27 (.cell rfl (.tail _ (.tail _ (.tail _ (.tail _ (.head _))))) rfl (.tmp rfl .nil)) rfl [.ro (SlL e_Field none 0 ([] : List T_Field)), .ro (SlL e_Field none 0 ([] : List T_Field)), .ro (SlL e_Field none 0 ([] : List T_Field)), .ro (SlL eu8 none 0 ([] : List Int))] ⟨none, 0, none, 0, none, 0, none, 0, rfl, rfl⟩ (fun _ w => ((.k (.k (.k (.k (.d (.d (.d (.d (.d (.d .z)))))))))) : Keep _ _).sat (Sat.dup (G := [.ro (SlL e_Field none 0 ([] : List T_Field)), .ro (SlL e_Field none 0 ([] : List T_Field)), .ro (SlL e_Field none 0 ([] : List T_Field)), .ro (SlL eu8 none 0 ([] : List Int))]) rfl ⟨(.tail _ (.head _)), (.tail _ (.head _)), (.tail _ (.head _)), (.head _), trivial⟩ w))
    · replace h := bif_f hb2 h
      refine St.seq ?_
      refine St.region ?_
      refine St.p rfl rfl ?_
      obtain ⟨l1, hl1, h⟩ := bnd_e h
      refine St.sub (E := (cod eu8)) rfl rfl (.tail _ (.head _)) rfl rfl rfl rfl rfl rfl rfl hl1 fun A2 c2 => ?_
      obtain ⟨r1, hr1, h⟩ := bnd_e h
      refine St.callV (c_checksum_Sum8 hr1) ent39 rfl rfl rfl rfl ⟨(.head _), trivial⟩ ?_
      refine St.p rfl rfl ?_
      refine St.p rfl rfl ?_
      refine St.done ?_
      refine St.thenN ?_
      refine St.prune (Γ' := [(0, _), (2, _), (19, _)]) ⟨rfl, rfl, rfl, trivial⟩ (.d (.k (.k (.k .z)))) ?_
      refine St.cond _ rfl (fun hb3 => ?_) (fun hb3 => ?_)
      · replace h := bif_t hb3 h
        refine St.seq ?_
        refine St.region ?_
        refine St.p rfl rfl ?_
        refine St.store 0 rfl rfl rfl rfl rfl rfl .z rfl ?_
        refine St.p rfl rfl ?_
        refine St.done ?_
        refine St.thenN ?_
        refine St.prune (Γ' := [(2, _), (3, _)]) ⟨rfl, rfl, trivial⟩ (.k (.d (.k .z))) ?_
        refine St.ret ?_
        repeat (first | refine St.thenR ?_ | refine St.blkR ?_)
        refine St.asrt (fun _ w => w.nilSl (cod e_Field)) ?_
        refine St.asrt (fun _ w => w.nilSl (cod e_Field)) ?_
        refine St.asrt (fun _ w => w.nilSl (cod e_Field)) ?_
        refine St.asrt (fun _ w => w.nilSl (cod eu8)) ?_
        injection h with h
        subst h
        exact St.finR Tryd.results27 (.cell rfl (.tail _ (.tail _ (.tail _ (.tail _ (.head _))))) rfl (.tmp rfl .nil)) rfl [.ro (SlL e_Field none 0 ([] : List T_Field)), .ro (SlL e_Field none 0 ([] : List T_Field)), .ro (SlL e_Field none 0 ([] : List T_Field)), .ro (SlL eu8 none 0 ([] : List Int))] ⟨none, 0, none, 0, none, 0, none, 0, rfl, rfl⟩ (fun _ w => ((.k (.k (.k (.k (.d (.d (.d (.d (.d (.d .z)))))))))) : Keep _ _).sat (Sat.dup (G := [.ro (SlL e_Field none 0 ([] : List T_Field)), .ro (SlL e_Field none 0 ([] : List T_Field)), .ro (SlL e_Field none 0 ([] : List T_Field)), .ro (SlL eu8 none 0 ([] : List Int))]) rfl ⟨(.tail _ (.head _)), (.tail _ (.head _)), (.tail _ (.head _)), (.head _), trivial⟩ w))
      · replace h := bif_f hb3 h
        refine St.seq ?_
        obtain ⟨o1, hj1, h⟩ := bnd_e h
        refine St.cutE (fun (e1 : Unit) => [(0, .slice A1 b_p0.length c1), (2, .pointer (some ⟨g1, 0, none⟩)), (25, .bool o1)]) (fun e1 => .res (Box g1 28 [.bool false, .int .u8 0, .int .u32 0, .slice none 0 0, .bool false, .int .u8 0, .int .u32 0, .slice none 0 0, .bool false, .int .u8 0, .int .u32 0, .slice none 0 0, .slice none 0 0]) :: .ro (SlL eu8 A1 c1 b_p0) :: .ro (SlL ei64 (some ⟨0, 0, none⟩) 3 ([2, 5, 7] : List Int)) :: R) ?_ ?_
        · refine St.region ?_
          refine St.p rfl rfl ?_
          obtain ⟨x1, hx1, hj1⟩ := bnd_e hj1
          refine St.ixL hx1 rfl rfl rfl (.tail _ (.head _)) rfl rfl rfl rfl rfl fun b1 ob1 => ?_
          refine St.load ob1 0 rfl rfl (.head _) rfl rfl ?_
          refine St.p rfl rfl ?_
          refine St.p rfl rfl ?_
          refine St.gSplit (dj := 30) _ rfl (fun hb4 => ?_) (fun hb4 => ?_)
          · replace hj1 := bif_t hb4 hj1
            refine St.gOff (dj := 30) rfl rfl rfl rfl ?_
            refine St.gOff (dj := 30) rfl rfl rfl rfl ?_
            refine St.gOff (dj := 30) rfl rfl rfl rfl ?_
            refine St.gOff (dj := 30) rfl rfl rfl rfl ?_
            refine St.p rfl rfl ?_
            refine St.p rfl rfl ?_
            refine St.gOff (dj := 36) rfl rfl rfl rfl ?_
            refine St.gOff (dj := 36) rfl rfl rfl rfl ?_
            refine St.gOff (dj := 36) rfl rfl rfl rfl ?_
            refine St.gOff (dj := 36) rfl rfl rfl rfl ?_
            refine St.p rfl rfl ?_
            refine St.p rfl rfl ?_
            refine St.done ?_
            injection hj1 with hj1
            subst hj1
            refine St.thenN ?_
            exact St.hereE () ⟨rfl, rfl, rfl, trivial⟩ (fun _ w => ((.d (.k (.k (.k .z)))) : Keep _ _).sat w)
          · replace hj1 := bif_f hb4 hj1
            refine St.gOn (dj := 30) rfl rfl ?_
            refine St.p rfl rfl ?_
            refine St.gOn (dj := 30) rfl rfl ?_
            obtain ⟨x2, hx2, hj1⟩ := bnd_e hj1
            refine St.ixL hx2 rfl rfl rfl (.tail _ (.tail _ (.head _))) rfl rfl rfl rfl rfl fun b2 ob2 => ?_
            refine St.gOn (dj := 30) rfl rfl ?_
            refine St.load ob2 0 rfl rfl (.head _) rfl rfl ?_
            refine St.gOn (dj := 30) rfl rfl ?_
            iterate 3 refine St.p rfl rfl ?_
            refine St.gSplit (dj := 36) _ rfl (fun hb5 => ?_) (fun hb5 => ?_)
            · replace hj1 := bif_t hb5 hj1
              refine St.gOff (dj := 36) rfl rfl rfl rfl ?_
              refine St.gOff (dj := 36) rfl rfl rfl rfl ?_
              refine St.gOff (dj := 36) rfl rfl rfl rfl ?_
              refine St.gOff (dj := 36) rfl rfl rfl rfl ?_
              refine St.p rfl rfl ?_
              refine St.p rfl rfl ?_
              refine St.done ?_
              injection hj1 with hj1
              subst hj1
              refine St.thenN ?_
              exact St.hereE () ⟨rfl, rfl, rfl, trivial⟩ (fun _ w => ((.d (.d (.k (.k (.k .z))))) : Keep _ _).sat w)
            · replace hj1 := bif_f hb5 hj1
              refine St.gOn (dj := 36) rfl rfl ?_
              refine St.p rfl rfl ?_
              refine St.gOn (dj := 36) rfl rfl ?_
              obtain ⟨x3, hx3, hj1⟩ := bnd_e hj1
              refine St.ixL hx3 rfl rfl rfl (.tail _ (.tail _ (.tail _ (.head _)))) rfl rfl rfl rfl rfl fun b3 ob3 => ?_
              refine St.gOn (dj := 36) rfl rfl ?_
              refine St.load ob3 0 rfl rfl (.head _) rfl rfl ?_
              refine St.gOn (dj := 36) rfl rfl ?_
              iterate 3 refine St.p rfl rfl ?_
              refine St.done ?_
              injection hj1 with hj1
              subst hj1
              refine St.thenN ?_
              exact St.hereE () ⟨rfl, rfl, rfl, trivial⟩ (fun _ w => ((.d (.d (.d (.k (.k (.k .z)))))) : Keep _ _).sat w)
        · rintro e1
          refine St.cond _ rfl (fun hb6 => ?_) (fun hb6 => ?_)
          · replace h := bif_t hb6 h
            refine St.seq ?_
            refine St.region ?_
            refine St.p rfl rfl ?_
            refine St.store 0 rfl rfl rfl rfl rfl rfl .z rfl ?_
            refine St.p rfl rfl ?_
            refine St.done ?_
            refine St.thenN ?_
            refine St.prune (Γ' := [(2, _), (3, _)]) ⟨rfl, rfl, trivial⟩ (.k (.d (.k .z))) ?_
            refine St.ret ?_
            repeat (first | refine St.thenR ?_ | refine St.blkR ?_)
            refine St.asrt (fun _ w => w.nilSl (cod e_Field)) ?_
            refine St.asrt (fun _ w => w.nilSl (cod e_Field)) ?_
            refine St.asrt (fun _ w => w.nilSl (cod e_Field)) ?_
            refine St.asrt (fun _ w => w.nilSl (cod eu8)) ?_
            injection h with h
            subst h
            exact St.finR Tryd.results27 (.cell rfl (.tail _ (.tail _ (.tail _ (.tail _ (.head _))))) rfl (.tmp rfl .nil)) rfl [.ro (SlL e_Field none 0 ([] : List T_Field)), .ro (SlL e_Field none 0 ([] : List T_Field)), .ro (SlL e_Field none 0 ([] : List T_Field)), .ro (SlL eu8 none 0 ([] : List Int))] ⟨none, 0, none, 0, none, 0, none, 0, rfl, rfl⟩ (fun _ w => ((.k (.k (.k (.k (.d (.d (.d (.d (.d (.d .z)))))))))) : Keep _ _).sat (Sat.dup (G := [.ro (SlL e_Field none 0 ([] : List T_Field)), .ro (SlL e_Field none 0 ([] : List T_Field)), .ro (SlL e_Field none 0 ([] : List T_Field)), .ro (SlL eu8 none 0 ([] : List Int))]) rfl ⟨(.tail _ (.head _)), (.tail _ (.head _)), (.tail _ (.head _)), (.head _), trivial⟩ w))
          · replace h := bif_f hb6 h
            refine St.skip ?_
            refine St.blkN ?_
            refine St.thenN ?_
            refine St.prune (Γ' := [(0, _), (2, _)]) ⟨rfl, rfl, trivial⟩ (.k (.k (.k .z))) ?_
            refine St.seq ?_
            refine St.region ?_
            refine St.alloc rfl rfl fun g2 => ?_
            refine St.done ?_
            refine St.thenN ?_
            refine St.seq ?_
            refine St.seq ?_
            refine St.region ?_
            iterate 3 refine St.p rfl rfl ?_
            refine St.buildSlice rfl rfl rfl rfl rfl rfl rfl rfl fun g3 => ?_
            refine St.p rfl rfl ?_
            refine St.p rfl rfl ?_
            refine St.done ?_
            refine St.thenN ?_
            refine St.prune (Γ' := [(0, _), (2, _), (4, _), (46, _), (47, _), (48, _)]) ⟨rfl, rfl, rfl, rfl, rfl, rfl, trivial⟩ (.k (.k (.k (.k (.k .z))))) ?_
            refine St.block ?_
            refine St.rounds 9 ?_
            refine St.round ?_
            refine St.seq ?_
            refine St.region ?_
            refine St.p rfl rfl ?_
            refine St.done ?_
            refine St.thenN ?_
            refine St.seq ?_
            refine St.condT rfl ?_
            refine St.skip ?_
            refine St.thenN ?_
            refine St.prune (Γ' := [(0, _), (2, _), (4, _), (46, _), (47, _), (48, _)]) ⟨rfl, rfl, rfl, rfl, rfl, rfl, trivial⟩ (.k (.k (.k (.k (.k .z))))) ?_
            refine St.seq ?_
            refine St.block ?_
            refine St.seq ?_
            refine St.region ?_
            refine St.p rfl rfl ?_
            refine St.ixB 0 rfl rfl rfl rfl rfl rfl rfl rfl rfl rfl ?_
            refine St.loadB 0 rfl rfl (.head _) rfl rfl ?_
            refine St.p rfl rfl ?_
            refine St.p rfl rfl ?_
            refine St.done ?_
            refine St.thenN ?_
            refine St.prune (Γ' := [(0, _), (2, _), (4, _), (5, _), (6, _), (46, _), (47, _), (48, _)]) ⟨rfl, rfl, rfl, rfl, rfl, rfl, rfl, rfl, trivial⟩ (.k (.k (.k (.k (.k .z))))) ?_
            refine St.seq ?_
            refine St.region ?_
            refine St.p rfl rfl ?_
            refine St.done ?_
            refine St.thenN ?_
            refine St.prune (Γ' := [(0, _), (2, _), (4, _), (5, _), (6, _), (46, _), (47, _), (48, _)]) ⟨rfl, rfl, rfl, rfl, rfl, rfl, rfl, rfl, trivial⟩ (.k (.k (.k (.k (.k .z))))) ?_
            refine St.seq ?_
            refine St.region ?_
            iterate 3 refine St.p rfl rfl ?_
            obtain ⟨r2, hr2, h⟩ := bnd_e h
            refine St.call (c_unitinfo_decodeArea hr2) ent40 rfl rfl rfl (fun _ w => Sat.dup (G := [.ro (SlL eu8 A1 c1 b_p0)]) rfl ⟨(.tail _ (.tail _ (.tail _ (.head _)))), trivial⟩ w) ?_
            rintro _ _ ⟨A3, c3, rfl, rfl⟩
            refine St.asrt (F' := .ro (SlL e_Field A3 c3 r2.1.Fields) :: .res (Box g3 76 [.pointer (some ⟨g2, 0, none⟩), .pointer (some ⟨g2, 4, none⟩), .pointer (some ⟨g2, 8, none⟩)]) :: .res (Box g2 28 [.bool false, .int .u8 0, .int .u32 0, .slice none 0 0, .bool false, .int .u8 0, .int .u32 0, .slice none 0 0, .bool false, .int .u8 0, .int .u32 0, .slice none 0 0, .slice none 0 0]) :: .res (Box g1 28 [.bool false, .int .u8 0, .int .u32 0, .slice none 0 0, .bool false, .int .u8 0, .int .u32 0, .slice none 0 0, .bool false, .int .u8 0, .int .u32 0, .slice none 0 0, .slice none 0 0]) :: .ro (SlL eu8 A1 c1 b_p0) :: .ro (SlL ei64 (some ⟨0, 0, none⟩) 3 ([2, 5, 7] : List Int)) :: R) (fun _ w => w) ?_
            iterate 4 refine St.p rfl rfl ?_
            refine St.store 0 rfl rfl rfl rfl rfl rfl (.s (.s .z)) rfl ?_
            refine St.p rfl rfl ?_
            refine St.done ?_
            refine St.thenN ?_
            refine St.prune (Γ' := [(0, _), (2, _), (4, _), (7, _), (46, _), (47, _), (48, _)]) ⟨rfl, rfl, rfl, rfl, rfl, rfl, rfl, trivial⟩ (.k (.k (.k (.k (.k (.k .z)))))) ?_
            refine St.seq ?_
            refine St.region ?_
            refine St.p rfl rfl ?_
            refine St.p rfl rfl ?_
            refine St.done ?_
            refine St.thenN ?_
            refine St.prune (Γ' := [(0, _), (2, _), (4, _), (7, _), (46, _), (47, _), (48, _), (62, _)]) ⟨rfl, rfl, rfl, rfl, rfl, rfl, rfl, rfl, trivial⟩ (.k (.k (.k (.k (.k (.k .z)))))) ?_
            refine St.cond _ rfl (fun hb7 => ?_) (fun hb7 => ?_)
            · replace h := bif_t hb7 h
              refine St.seq ?_
              refine St.region ?_
              refine St.p rfl rfl ?_
              refine St.p rfl rfl ?_
              refine St.store 0 rfl rfl rfl rfl rfl rfl (.s (.s (.s .z))) rfl ?_
              refine St.p rfl rfl ?_
              refine St.done ?_
              refine St.thenN ?_
              refine St.prune (Γ' := [(2, _), (3, _)]) ⟨rfl, rfl, trivial⟩ (.k (.d (.d (.d (.d (.k .z)))))) ?_
              refine St.ret ?_
              repeat (first | refine St.thenR ?_ | refine St.blkR ?_)
              refine St.asrt (fun _ w => w.nilSl (cod e_Field)) ?_
              refine St.asrt (fun _ w => w.nilSl (cod e_Field)) ?_
              refine St.asrt (fun _ w => w.nilSl (cod e_Field)) ?_
              refine St.asrt (fun _ w => w.nilSl (cod eu8)) ?_
              injection h with h
              subst h
              exact St.finR Tryd.results27 (.cell rfl (.tail _ (.tail _ (.tail _ (.tail _ (.head _))))) rfl (.tmp rfl .nil)) rfl [.ro (SlL e_Field none 0 ([] : List T_Field)), .ro (SlL e_Field none 0 ([] : List T_Field)), .ro (SlL e_Field none 0 ([] : List T_Field)), .ro (SlL eu8 none 0 ([] : List Int))] ⟨none, 0, none, 0, none, 0, none, 0, rfl, rfl⟩ (fun _ w => ((.k (.k (.k (.k (.d (.d (.d (.d (.d (.d .z)))))))))) : Keep _ _).sat (Sat.dup (G := [.ro (SlL e_Field none 0 ([] : List T_Field)), .ro (SlL e_Field none 0 ([] : List T_Field)), .ro (SlL e_Field none 0 ([] : List T_Field)), .ro (SlL eu8 none 0 ([] : List Int))]) rfl ⟨(.tail _ (.head _)), (.tail _ (.head _)), (.tail _ (.head _)), (.head _), trivial⟩ w))
            · replace h := bif_f hb7 h
              refine St.skip ?_
              refine St.blkN ?_
              refine St.thenN ?_
              refine St.prune (Γ' := [(0, _), (2, _), (4, _), (46, _), (47, _), (48, _)]) ⟨rfl, rfl, rfl, rfl, rfl, rfl, trivial⟩ (.k (.k (.k (.k (.k (.k .z)))))) ?_
              refine St.region ?_
              refine St.p rfl rfl ?_
              refine St.p rfl rfl ?_
              refine St.done ?_
              refine St.thenN ?_
              refine St.round ?_
              refine St.prune (Γ' := [(0, _), (2, _), (4, _), (46, _), (47, _), (48, _)]) ⟨rfl, rfl, rfl, rfl, rfl, rfl, trivial⟩ (.k (.k (.k (.k (.k (.k .z)))))) ?_
              refine St.seq ?_
              refine St.region ?_
              refine St.p rfl rfl ?_
              refine St.done ?_
              refine St.thenN ?_
              refine St.seq ?_
              refine St.condT rfl ?_
              refine St.skip ?_
              refine St.thenN ?_
              refine St.prune (Γ' := [(0, _), (2, _), (4, _), (46, _), (47, _), (48, _)]) ⟨rfl, rfl, rfl, rfl, rfl, rfl, trivial⟩ (.k (.k (.k (.k (.k (.k .z)))))) ?_
              refine St.seq ?_
              refine St.block ?_
              refine St.seq ?_
              refine St.region ?_
              refine St.p rfl rfl ?_
              refine St.ixB 1 rfl rfl rfl rfl rfl rfl rfl rfl rfl rfl ?_
              refine St.loadB 1 rfl rfl (.tail _ (.tail _ (.head _))) rfl rfl ?_
              refine St.p rfl rfl ?_
              refine St.p rfl rfl ?_
              refine St.done ?_
              refine St.thenN ?_
              refine St.prune (Γ' := [(0, _), (2, _), (4, _), (5, _), (6, _), (46, _), (47, _), (48, _)]) ⟨rfl, rfl, rfl, rfl, rfl, rfl, rfl, rfl, trivial⟩ (.k (.k (.k (.k (.k (.k .z)))))) ?_
              refine St.seq ?_
              refine St.region ?_
              refine St.p rfl rfl ?_
              refine St.done ?_
              refine St.thenN ?_
              refine St.prune (Γ' := [(0, _), (2, _), (4, _), (5, _), (6, _), (46, _), (47, _), (48, _)]) ⟨rfl, rfl, rfl, rfl, rfl, rfl, rfl, rfl, trivial⟩ (.k (.k (.k (.k (.k (.k .z)))))) ?_
              refine St.seq ?_
              refine St.region ?_
              iterate 3 refine St.p rfl rfl ?_
              obtain ⟨r3, hr3, h⟩ := bnd_e h
              refine St.call (c_unitinfo_decodeArea hr3) ent40 rfl rfl rfl (fun _ w => Sat.dup (G := [.ro (SlL eu8 A1 c1 b_p0)]) rfl ⟨(.tail _ (.tail _ (.tail _ (.tail _ (.head _))))), trivial⟩ w) ?_
              rintro _ _ ⟨A4, c4, rfl, rfl⟩
              refine St.asrt (F' := .ro (SlL e_Field A4 c4 r3.1.Fields) :: .res (Box g2 28 [.bool r2.1.Present, .int .u8 r2.1.Code, .int .u32 r2.1.Minutes, .slice A3 r2.1.Fields.length c3, .bool false, .int .u8 0, .int .u32 0, .slice none 0 0, .bool false, .int .u8 0, .int .u32 0, .slice none 0 0, .slice none 0 0]) :: .ro (SlL e_Field A3 c3 r2.1.Fields) :: .res (Box g3 76 [.pointer (some ⟨g2, 0, none⟩), .pointer (some ⟨g2, 4, none⟩), .pointer (some ⟨g2, 8, none⟩)]) :: .res (Box g1 28 [.bool false, .int .u8 0, .int .u32 0, .slice none 0 0, .bool false, .int .u8 0, .int .u32 0, .slice none 0 0, .bool false, .int .u8 0, .int .u32 0, .slice none 0 0, .slice none 0 0]) :: .ro (SlL eu8 A1 c1 b_p0) :: .ro (SlL ei64 (some ⟨0, 0, none⟩) 3 ([2, 5, 7] : List Int)) :: R) (fun _ w => w) ?_
              iterate 4 refine St.p rfl rfl ?_
              refine St.store 4 rfl rfl rfl rfl rfl rfl (.s .z) rfl ?_
              refine St.p rfl rfl ?_
              refine St.done ?_
              refine St.thenN ?_
              refine St.prune (Γ' := [(0, _), (2, _), (4, _), (7, _), (46, _), (47, _), (48, _)]) ⟨rfl, rfl, rfl, rfl, rfl, rfl, rfl, trivial⟩ (.k (.k (.k (.k (.k (.k (.k .z))))))) ?_
              refine St.seq ?_
              refine St.region ?_
              refine St.p rfl rfl ?_
              refine St.p rfl rfl ?_
              refine St.done ?_
              refine St.thenN ?_
              refine St.prune (Γ' := [(0, _), (2, _), (4, _), (7, _), (46, _), (47, _), (48, _), (62, _)]) ⟨rfl, rfl, rfl, rfl, rfl, rfl, rfl, rfl, trivial⟩ (.k (.k (.k (.k (.k (.k (.k .z))))))) ?_
              refine St.cond _ rfl (fun hb8 => ?_) (fun hb8 => ?_)
              · replace h := bif_t hb8 h
                refine St.seq ?_
                refine St.region ?_
                refine St.p rfl rfl ?_
                refine St.p rfl rfl ?_
                refine St.store 0 rfl rfl rfl rfl rfl rfl (.s (.s (.s (.s .z)))) rfl ?_
                refine St.p rfl rfl ?_
                refine St.done ?_
                refine St.thenN ?_
                refine St.prune (Γ' := [(2, _), (3, _)]) ⟨rfl, rfl, trivial⟩ (.k (.d (.d (.d (.d (.d (.k .z))))))) ?_
                refine St.ret ?_
                repeat (first | refine St.thenR ?_ | refine St.blkR ?_)
                refine St.asrt (fun _ w => w.nilSl (cod e_Field)) ?_
                refine St.asrt (fun _ w => w.nilSl (cod e_Field)) ?_
                refine St.asrt (fun _ w => w.nilSl (cod e_Field)) ?_
                refine St.asrt (fun _ w => w.nilSl (cod eu8)) ?_
                injection h with h
                subst h
                exact St.finR Tryd.results27 (.cell rfl (.tail _ (.tail _ (.tail _ (.tail _ (.head _))))) rfl (.tmp rfl .nil)) rfl [.ro (SlL e_Field none 0 ([] : List T_Field)), .ro (SlL e_Field none 0 ([] : List T_Field)), .ro (SlL e_Field none 0 ([] : List T_Field)), .ro (SlL eu8 none 0 ([] : List Int))] ⟨none, 0, none, 0, none, 0, none, 0, rfl, rfl⟩ (fun _ w => ((.k (.k (.k (.k (.d (.d (.d (.d (.d (.d .z)))))))))) : Keep _ _).sat (Sat.dup (G := [.ro (SlL e_Field none 0 ([] : List T_Field)), .ro (SlL e_Field none 0 ([] : List T_Field)), .ro (SlL e_Field none 0 ([] : List T_Field)), .ro (SlL eu8 none 0 ([] : List Int))]) rfl ⟨(.tail _ (.head _)), (.tail _ (.head _)), (.tail _ (.head _)), (.head _), trivial⟩ w))
              · replace h := bif_f hb8 h
                refine St.skip ?_
                refine St.blkN ?_
                refine St.thenN ?_
                refine St.prune (Γ' := [(0, _), (2, _), (4, _), (46, _), (47, _), (48, _)]) ⟨rfl, rfl, rfl, rfl, rfl, rfl, trivial⟩ (.k (.k (.k (.k (.k (.k (.k .z))))))) ?_
                refine St.region ?_
                refine St.p rfl rfl ?_
                refine St.p rfl rfl ?_
                refine St.done ?_
                refine St.thenN ?_
                refine St.round ?_
                refine St.prune (Γ' := [(0, _), (2, _), (4, _), (46, _), (47, _), (48, _)]) ⟨rfl, rfl, rfl, rfl, rfl, rfl, trivial⟩ (.k (.k (.k (.k (.k (.k (.k .z))))))) ?_
                refine St.seq ?_
                refine St.region ?_
                refine St.p rfl rfl ?_
                refine St.done ?_
                refine St.thenN ?_
                refine St.seq ?_
                refine St.condT rfl ?_
                refine St.skip ?_
                refine St.thenN ?_
                refine St.prune (Γ' := [(0, _), (2, _), (4, _), (46, _), (47, _), (48, _)]) ⟨rfl, rfl, rfl, rfl, rfl, rfl, trivial⟩ (.k (.k (.k (.k (.k (.k (.k .z))))))) ?_
                refine St.seq ?_
                refine St.block ?_
                refine St.seq ?_
                refine St.region ?_
                refine St.p rfl rfl ?_
                refine St.ixB 2 rfl rfl rfl rfl rfl rfl rfl rfl rfl rfl ?_
                refine St.loadB 2 rfl rfl (.tail _ (.tail _ (.tail _ (.head _)))) rfl rfl ?_
                refine St.p rfl rfl ?_
                refine St.p rfl rfl ?_
                refine St.done ?_
                refine St.thenN ?_
                refine St.prune (Γ' := [(0, _), (2, _), (4, _), (5, _), (6, _), (46, _), (47, _), (48, _)]) ⟨rfl, rfl, rfl, rfl, rfl, rfl, rfl, rfl, trivial⟩ (.k (.k (.k (.k (.k (.k (.k .z))))))) ?_
                refine St.seq ?_
                refine St.region ?_
                refine St.p rfl rfl ?_
                refine St.done ?_
                refine St.thenN ?_
                refine St.prune (Γ' := [(0, _), (2, _), (4, _), (5, _), (6, _), (46, _), (47, _), (48, _)]) ⟨rfl, rfl, rfl, rfl, rfl, rfl, rfl, rfl, trivial⟩ (.k (.k (.k (.k (.k (.k (.k .z))))))) ?_
                refine St.seq ?_
                refine St.region ?_
                iterate 3 refine St.p rfl rfl ?_
                obtain ⟨r4, hr4, h⟩ := bnd_e h
                refine St.call (c_unitinfo_decodeArea hr4) ent40 rfl rfl rfl (fun _ w => Sat.dup (G := [.ro (SlL eu8 A1 c1 b_p0)]) rfl ⟨(.tail _ (.tail _ (.tail _ (.tail _ (.tail _ (.head _)))))), trivial⟩ w) ?_
                rintro _ _ ⟨A5, c5, rfl, rfl⟩
                refine St.asrt (F' := .ro (SlL e_Field A5 c5 r4.1.Fields) :: .res (Box g2 28 [.bool r2.1.Present, .int .u8 r2.1.Code, .int .u32 r2.1.Minutes, .slice A3 r2.1.Fields.length c3, .bool r3.1.Present, .int .u8 r3.1.Code, .int .u32 r3.1.Minutes, .slice A4 r3.1.Fields.length c4, .bool false, .int .u8 0, .int .u32 0, .slice none 0 0, .slice none 0 0]) :: .ro (SlL e_Field A4 c4 r3.1.Fields) :: .ro (SlL e_Field A3 c3 r2.1.Fields) :: .res (Box g3 76 [.pointer (some ⟨g2, 0, none⟩), .pointer (some ⟨g2, 4, none⟩), .pointer (some ⟨g2, 8, none⟩)]) :: .res (Box g1 28 [.bool false, .int .u8 0, .int .u32 0, .slice none 0 0, .bool false, .int .u8 0, .int .u32 0, .slice none 0 0, .bool false, .int .u8 0, .int .u32 0, .slice none 0 0, .slice none 0 0]) :: .ro (SlL eu8 A1 c1 b_p0) :: .ro (SlL ei64 (some ⟨0, 0, none⟩) 3 ([2, 5, 7] : List Int)) :: R) (fun _ w => w) ?_
                iterate 4 refine St.p rfl rfl ?_
                refine St.store 8 rfl rfl rfl rfl rfl rfl (.s .z) rfl ?_
                refine St.p rfl rfl ?_
                refine St.done ?_
                refine St.thenN ?_
                refine St.prune (Γ' := [(0, _), (2, _), (4, _), (7, _), (46, _), (47, _), (48, _)]) ⟨rfl, rfl, rfl, rfl, rfl, rfl, rfl, trivial⟩ (.k (.k (.k (.k (.k (.k (.k (.k .z)))))))) ?_
                refine St.seq ?_
                refine St.region ?_
                refine St.p rfl rfl ?_
                refine St.p rfl rfl ?_
                refine St.done ?_
                refine St.thenN ?_
                refine St.prune (Γ' := [(0, _), (2, _), (4, _), (7, _), (46, _), (47, _), (48, _), (62, _)]) ⟨rfl, rfl, rfl, rfl, rfl, rfl, rfl, rfl, trivial⟩ (.k (.k (.k (.k (.k (.k (.k (.k .z)))))))) ?_
                refine St.cond _ rfl (fun hb9 => ?_) (fun hb9 => ?_)
                · replace h := bif_t hb9 h
                  refine St.seq ?_
                  refine St.region ?_
                  refine St.p rfl rfl ?_
                  refine St.p rfl rfl ?_
                  refine St.store 0 rfl rfl rfl rfl rfl rfl (.s (.s (.s (.s (.s .z))))) rfl ?_
                  refine St.p rfl rfl ?_
                  refine St.done ?_
                  refine St.thenN ?_
                  refine St.prune (Γ' := [(2, _), (3, _)]) ⟨rfl, rfl, trivial⟩ (.k (.d (.d (.d (.d (.d (.d (.k .z)))))))) ?_
                  refine St.ret ?_
                  repeat (first | refine St.thenR ?_ | refine St.blkR ?_)
                  refine St.asrt (fun _ w => w.nilSl (cod e_Field)) ?_
                  refine St.asrt (fun _ w => w.nilSl (cod e_Field)) ?_
                  refine St.asrt (fun _ w => w.nilSl (cod e_Field)) ?_
                  refine St.asrt (fun _ w => w.nilSl (cod eu8)) ?_
                  injection h with h
                  subst h
                  exact St.finR Tryd.results27 (.cell rfl (.tail _ (.tail _ (.tail _ (.tail _ (.head _))))) rfl (.tmp rfl .nil)) rfl [.ro (SlL e_Field none 0 ([] : List T_Field)), .ro (SlL e_Field none 0 ([] : List T_Field)), .ro (SlL e_Field none 0 ([] : List T_Field)), .ro (SlL eu8 none 0 ([] : List Int))] ⟨none, 0, none, 0, none, 0, none, 0, rfl, rfl⟩ (fun _ w => ((.k (.k (.k (.k (.d (.d (.d (.d (.d (.d .z)))))))))) : Keep _ _).sat (Sat.dup (G := [.ro (SlL e_Field none 0 ([] : List T_Field)), .ro (SlL e_Field none 0 ([] : List T_Field)), .ro (SlL e_Field none 0 ([] : List T_Field)), .ro (SlL eu8 none 0 ([] : List Int))]) rfl ⟨(.tail _ (.head _)), (.tail _ (.head _)), (.tail _ (.head _)), (.head _), trivial⟩ w))
                · replace h := bif_f hb9 h
                  refine St.skip ?_
                  refine St.blkN ?_
                  refine St.thenN ?_
                  refine St.prune (Γ' := [(0, _), (2, _), (4, _), (46, _), (47, _), (48, _)]) ⟨rfl, rfl, rfl, rfl, rfl, rfl, trivial⟩ (.k (.k (.k (.k (.k (.k (.k (.k .z)))))))) ?_
                  refine St.region ?_
                  refine St.p rfl rfl ?_
                  refine St.p rfl rfl ?_
                  refine St.done ?_
                  refine St.thenN ?_
                  refine St.round ?_
                  refine St.prune (Γ' := [(0, _), (2, _), (4, _), (46, _), (47, _), (48, _)]) ⟨rfl, rfl, rfl, rfl, rfl, rfl, trivial⟩ (.k (.k (.k (.k (.k (.k (.k (.k .z)))))))) ?_
                  refine St.seq ?_
                  refine St.region ?_
                  refine St.p rfl rfl ?_
                  refine St.done ?_
                  refine St.thenN ?_
                  refine St.seq ?_
                  refine St.condF rfl ?_
                  refine St.exit ?_
                  repeat (first | refine St.thenX ?_ | refine St.blkMiss rfl ?_)
                  refine St.blkHit ?_
                  refine St.thenN ?_
                  refine St.prune (Γ' := [(0, _), (2, _), (4, _)]) ⟨rfl, rfl, rfl, trivial⟩ (.k (.k (.k (.k (.d (.k (.k (.k .z)))))))) ?_
                  refine St.seq ?_
                  obtain ⟨o2, hj2, h⟩ := bnd_e h
                  refine St.cutI (fun (o3 : List Int) (e2 : Option Addr × Nat) => [(2, .pointer (some ⟨g1, 0, none⟩)), (4, .pointer (some ⟨g2, 0, none⟩))]) (fun o3 e2 => .res (OwnL eu8 5 e2.1 e2.2 o3) :: .res (Box g2 28 [.bool r2.1.Present, .int .u8 r2.1.Code, .int .u32 r2.1.Minutes, .slice A3 r2.1.Fields.length c3, .bool r3.1.Present, .int .u8 r3.1.Code, .int .u32 r3.1.Minutes, .slice A4 r3.1.Fields.length c4, .bool r4.1.Present, .int .u8 r4.1.Code, .int .u32 r4.1.Minutes, .slice A5 r4.1.Fields.length c5, .slice e2.1 o3.length e2.2]) :: .ro (SlL e_Field A5 c5 r4.1.Fields) :: .ro (SlL e_Field A4 c4 r3.1.Fields) :: .ro (SlL e_Field A3 c3 r2.1.Fields) :: .res (Box g1 28 [.bool false, .int .u8 0, .int .u32 0, .slice none 0 0, .bool false, .int .u8 0, .int .u32 0, .slice none 0 0, .bool false, .int .u8 0, .int .u32 0, .slice none 0 0, .slice none 0 0]) :: .ro (SlL ei64 (some ⟨0, 0, none⟩) 3 ([2, 5, 7] : List Int)) :: R) (fun o3 => o2 = .inr o3) ?_ ?_
                  · refine St.seq ?_
                    refine St.region ?_
                    refine St.p rfl rfl ?_
                    obtain ⟨x4, hx4, hj2⟩ := bnd_e hj2
                    refine St.ixL hx4 rfl rfl rfl (.tail _ (.tail _ (.tail _ (.tail _ (.tail _ (.head _)))))) rfl rfl rfl rfl rfl fun b4 ob4 => ?_
                    refine St.load ob4 0 rfl rfl (.head _) rfl rfl ?_
                    iterate 3 refine St.p rfl rfl ?_
                    refine St.done ?_
                    refine St.thenN ?_
                    refine St.prune (Γ' := [(0, _), (2, _), (4, _), (8, _)]) ⟨rfl, rfl, rfl, rfl, trivial⟩ (.d (.k (.k (.k (.k (.k (.k (.k .z)))))))) ?_
                    refine St.seq ?_
                    refine St.region ?_
                    iterate 4 refine St.p rfl rfl ?_
                    refine St.done ?_
                    refine St.thenN ?_
                    refine St.prune (Γ' := [(0, _), (2, _), (4, _), (8, _), (74, _)]) ⟨rfl, rfl, rfl, rfl, rfl, trivial⟩ (.k (.k (.k (.k (.k (.k (.k .z))))))) ?_
                    refine St.cond _ rfl (fun hb10 => ?_) (fun hb10 => ?_)
                    · replace hj2 := bif_t hb10 hj2
                      refine St.seq ?_
                      refine St.region ?_
                      refine St.p rfl rfl ?_
                      refine St.store 0 rfl rfl rfl rfl rfl rfl (.s (.s (.s (.s .z)))) rfl ?_
                      refine St.p rfl rfl ?_
                      refine St.done ?_
                      refine St.thenN ?_
                      refine St.prune (Γ' := [(2, _), (3, _)]) ⟨rfl, rfl, trivial⟩ (.k (.d (.d (.d (.d (.d (.k .z))))))) ?_
                      refine St.ret ?_
                      repeat (first | refine St.thenR ?_ | refine St.blkR ?_)
                      refine St.asrt (fun _ w => w.nilSl (cod e_Field)) ?_
                      refine St.asrt (fun _ w => w.nilSl (cod e_Field)) ?_
                      refine St.asrt (fun _ w => w.nilSl (cod e_Field)) ?_
                      refine St.asrt (fun _ w => w.nilSl (cod eu8)) ?_
                      injection hj2 with hj2
                      subst hj2
                      have h : some _ = some _ := h
                      injection h with h
                      subst h
                      exact St.finR Tryd.results27 (.cell rfl (.tail _ (.tail _ (.tail _ (.tail _ (.head _))))) rfl (.tmp rfl .nil)) rfl [.ro (SlL e_Field none 0 ([] : List T_Field)), .ro (SlL e_Field none 0 ([] : List T_Field)), .ro (SlL e_Field none 0 ([] : List T_Field)), .ro (SlL eu8 none 0 ([] : List Int))] ⟨none, 0, none, 0, none, 0, none, 0, rfl, rfl⟩ (fun _ w => ((.k (.k (.k (.k (.d (.d (.d (.d (.d (.d .z)))))))))) : Keep _ _).sat (Sat.dup (G := [.ro (SlL e_Field none 0 ([] : List T_Field)), .ro (SlL e_Field none 0 ([] : List T_Field)), .ro (SlL e_Field none 0 ([] : List T_Field)), .ro (SlL eu8 none 0 ([] : List Int))]) rfl ⟨(.tail _ (.head _)), (.tail _ (.head _)), (.tail _ (.head _)), (.head _), trivial⟩ w))
                    · replace hj2 := bif_f hb10 hj2
                      refine St.seq ?_
                      refine St.region ?_
                      refine St.p rfl rfl ?_
                      refine St.p rfl rfl ?_
                      refine St.done ?_
                      refine St.thenN ?_
                      refine St.prune (Γ' := [(0, _), (2, _), (4, _), (8, _), (77, _)]) ⟨rfl, rfl, rfl, rfl, rfl, trivial⟩ (.k (.k (.k (.k (.k (.k (.k .z))))))) ?_
                      refine St.cond _ rfl (fun hb11 => ?_) (fun hb11 => ?_)
                      · replace hj2 := bif_t hb11 hj2
                        refine St.region ?_
                        refine St.p rfl rfl ?_
                        refine St.p rfl rfl ?_
                        obtain ⟨l2, hl2, hj2⟩ := bnd_e hj2
                        refine St.sub (E := (cod eu8)) rfl rfl (.tail _ (.tail _ (.tail _ (.tail _ (.tail _ (.head _)))))) rfl rfl rfl rfl rfl rfl rfl hl2 fun A7 c7 => ?_
                        obtain ⟨r5, hr5, hj2⟩ := bnd_e hj2
                        refine St.call (c_slices_Clone__byte_byte hr5) ent41 rfl rfl rfl (fun _ w => Sat.dup (G := [.ro (SlL eu8 A7 c7 l2)]) rfl ⟨(.head _), trivial⟩ w) ?_
                        rintro _ _ ⟨A8, c8, rfl, rfl⟩
                        refine St.asrt (F' := .res (OwnL eu8 5 A8 c8 r5) :: .ro (SlL eu8 A7 c7 l2) :: .res (Box g2 28 [.bool r2.1.Present, .int .u8 r2.1.Code, .int .u32 r2.1.Minutes, .slice A3 r2.1.Fields.length c3, .bool r3.1.Present, .int .u8 r3.1.Code, .int .u32 r3.1.Minutes, .slice A4 r3.1.Fields.length c4, .bool r4.1.Present, .int .u8 r4.1.Code, .int .u32 r4.1.Minutes, .slice A5 r4.1.Fields.length c5, .slice none 0 0]) :: .ro (SlL e_Field A5 c5 r4.1.Fields) :: .ro (SlL e_Field A4 c4 r3.1.Fields) :: .ro (SlL e_Field A3 c3 r2.1.Fields) :: .res (Box g1 28 [.bool false, .int .u8 0, .int .u32 0, .slice none 0 0, .bool false, .int .u8 0, .int .u32 0, .slice none 0 0, .bool false, .int .u8 0, .int .u32 0, .slice none 0 0, .slice none 0 0]) :: .ro (SlL eu8 A1 c1 b_p0) :: .ro (SlL ei64 (some ⟨0, 0, none⟩) 3 ([2, 5, 7] : List Int)) :: R) (fun _ w => w) ?_
                        refine St.p rfl rfl ?_
                        refine St.store 12 rfl rfl rfl rfl rfl rfl (.s (.s .z)) rfl ?_
                        refine St.done ?_
                        injection hj2 with hj2
                        subst hj2
                        refine St.thenN ?_
                        exact St.hereI r5 (A8, c8) rfl ⟨rfl, rfl, trivial⟩ (fun _ w => ((.k (.k (.k (.k (.k (.k (.k (.d (.d .z))))))))) : Keep _ _).sat (((((((w.front (.s (.s (.s (.s (.s (.s (.s (.s .z))))))))).front (.s (.s (.s (.s (.s (.s (.s .z)))))))).front (.s (.s (.s (.s (.s (.s (.s .z)))))))).front (.s (.s (.s (.s (.s (.s (.s .z)))))))).front (.s (.s (.s (.s (.s (.s (.s .z)))))))).front (.s (.s (.s (.s (.s .z)))))).front (.s (.s (.s (.s (.s (.s .z))))))))
                      · replace hj2 := bif_f hb11 hj2
                        refine St.skip ?_
                        refine St.asrt (fun _ w => w.nilL eu8 5) ?_
                        injection hj2 with hj2
                        subst hj2
                        refine St.thenN ?_
                        exact St.hereI ([]) (none, 0) rfl ⟨rfl, rfl, trivial⟩ (fun _ w => ((.k (.k (.k (.k (.k (.k (.d (.k .z)))))))) : Keep _ _).sat w)
                  · rintro o3 ⟨A6, c6⟩ ho
                    subst ho
                    have h : _ = some _ := h
                    refine St.seq ?_
                    refine St.seq ?_
                    refine St.region ?_
                    refine St.loadB 0 rfl rfl (.tail _ (.head _)) rfl rfl ?_
                    refine St.asrt (fun _ w => (w.front .z).meltL) ?_
                    obtain ⟨r6, hr6, h⟩ := bnd_e h
                    refine St.callV (c_unitinfo_Valid hr6) ent16 rfl rfl rfl rfl ⟨(.tail _ (.tail _ (.tail _ (.tail _ (.head _))))), (.tail _ (.tail _ (.tail _ (.head _)))), (.tail _ (.tail _ (.head _))), (.head _), (.tail _ (.tail _ (.tail _ (.tail _ (.tail _ (.tail _ (.head _))))))), trivial⟩ ?_
                    refine St.p rfl rfl ?_
                    refine St.done ?_
                    refine St.thenN ?_
                    refine St.prune (Γ' := [(2, _), (4, _), (85, _)]) ⟨rfl, rfl, rfl, trivial⟩ (.k (.k (.k (.k (.k (.k (.k .z))))))) ?_
                    refine St.cond _ rfl (fun hb12 => ?_) (fun hb12 => ?_)
                    · replace h := bif_t hb12 h
                      refine St.seq ?_
                      refine St.region ?_
                      refine St.p rfl rfl ?_
                      refine St.store 0 rfl rfl rfl rfl rfl rfl (.s (.s (.s (.s (.s .z))))) rfl ?_
                      refine St.p rfl rfl ?_
                      refine St.done ?_
                      refine St.thenN ?_
                      refine St.prune (Γ' := [(2, _), (3, _)]) ⟨rfl, rfl, trivial⟩ (.k (.d (.d (.d (.d (.d (.k .z))))))) ?_
                      refine St.ret ?_
                      repeat (first | refine St.thenR ?_ | refine St.blkR ?_)
                      refine St.asrt (fun _ w => w.nilSl (cod e_Field)) ?_
                      refine St.asrt (fun _ w => w.nilSl (cod e_Field)) ?_
                      refine St.asrt (fun _ w => w.nilSl (cod e_Field)) ?_
                      refine St.asrt (fun _ w => w.nilSl (cod eu8)) ?_
                      injection h with h
                      subst h
                      exact St.finR Tryd.results27 (.cell rfl (.tail _ (.tail _ (.tail _ (.tail _ (.head _))))) rfl (.tmp rfl .nil)) rfl [.ro (SlL e_Field none 0 ([] : List T_Field)), .ro (SlL e_Field none 0 ([] : List T_Field)), .ro (SlL e_Field none 0 ([] : List T_Field)), .ro (SlL eu8 none 0 ([] : List Int))] ⟨none, 0, none, 0, none, 0, none, 0, rfl, rfl⟩ (fun _ w => ((.k (.k (.k (.k (.d (.d (.d (.d (.d (.d .z)))))))))) : Keep _ _).sat (Sat.dup (G := [.ro (SlL e_Field none 0 ([] : List T_Field)), .ro (SlL e_Field none 0 ([] : List T_Field)), .ro (SlL e_Field none 0 ([] : List T_Field)), .ro (SlL eu8 none 0 ([] : List Int))]) rfl ⟨(.tail _ (.head _)), (.tail _ (.head _)), (.tail _ (.head _)), (.head _), trivial⟩ w))
                    · replace h := bif_f hb12 h
                      refine St.skip ?_
                      refine St.thenN ?_
                      refine St.prune (Γ' := [(2, _), (4, _)]) ⟨rfl, rfl, trivial⟩ (.k (.k (.k (.k (.k (.k (.k .z))))))) ?_
                      refine St.seq ?_
                      refine St.region ?_
                      refine St.loadB 0 rfl rfl (.tail _ (.head _)) rfl rfl ?_
                      refine St.store 0 rfl rfl rfl rfl rfl rfl (.s (.s (.s (.s (.s .z))))) rfl ?_
                      refine St.p rfl rfl ?_
                      refine St.done ?_
                      refine St.thenN ?_
                      refine St.prune (Γ' := [(2, _), (3, _)]) ⟨rfl, rfl, trivial⟩ (.k (.k (.d (.k (.k (.k (.k .z))))))) ?_
                      refine St.ret ?_
                      repeat (first | refine St.thenR ?_ | refine St.blkR ?_)
                      injection h with h
                      subst h
                      exact St.finR Tryd.results27 (.cell rfl (.head _) rfl (.tmp rfl .nil)) rfl [.ro (SlL e_Field A3 c3 r2.1.Fields), .ro (SlL e_Field A4 c4 r3.1.Fields), .ro (SlL e_Field A5 c5 r4.1.Fields), .ro (SlL eu8 A6 c6 o3)] ⟨A3, c3, A4, c4, A5, c5, A6, c6, rfl, rfl⟩ (fun _ w => ((.k (.k (.k (.k (.d (.d (.d (.d (.d (.d .z)))))))))) : Keep _ _).sat (Sat.dup (G := [.ro (SlL e_Field A3 c3 r2.1.Fields), .ro (SlL e_Field A4 c4 r3.1.Fields), .ro (SlL e_Field A5 c5 r4.1.Fields), .ro (SlL eu8 A6 c6 o3)]) rfl ⟨(.tail _ (.tail _ (.tail _ (.tail _ (.head _))))), (.tail _ (.tail _ (.tail _ (.head _)))), (.tail _ (.tail _ (.head _))), (.tail _ (.head _)), trivial⟩ w))

theorem ent78 : Ent Tryd.prog 78 := ⟨_, Tryd.func78, by kernel_rfl, by kernel_rfl⟩

noncomputable def m_ref02_Same (a_p0 : T_Field) (b_p1 : T_Field) : Option Bool :=
  bnd ((bif (a_p0.Kind == b_p1.Kind) then (some (a_p0.Value.toList == b_p1.Value.toList)) else (some false) : Option Bool)) fun o1 => some o1

theorem c_ref02_Same {a_p0 : T_Field} {b_p1 : T_Field} {r : Bool} (h : m_ref02_Same a_p0 b_p1 = some r) :
    Fun Tryd.prog 78 [.agg #[.int .i64 a_p0.Kind, .string a_p0.Value], .agg #[.int .i64 b_p1.Kind, .string b_p1.Value]] [] (Val (.bool r)) := by
  unfold m_ref02_Same at h
  refine Fun.intro Tryd.func78 rfl rfl rfl fun w R => ?_
  refine St.seq ?_
  refine St.region ?_
  refine St.box rfl rfl fun g1 => ?_
  refine St.box rfl rfl fun g2 => ?_
  refine St.p rfl rfl ?_
  refine St.done ?_
  refine St.thenN ?_
  refine St.prune (Γ' := [(2, _), (3, _)]) ⟨rfl, rfl, trivial⟩ (.k (.k .z)) ?_
  refine St.seq ?_
  obtain ⟨o1, hj1, h⟩ := bnd_e h
  refine St.cutE (fun (e1 : Unit) => [(4, .bool o1)]) (fun e1 => R) ?_ ?_
  · refine St.region ?_
    refine St.p rfl rfl ?_
    refine St.loadB 0 rfl rfl (.tail _ (.head _)) rfl rfl ?_
    refine St.p rfl rfl ?_
    refine St.loadB 0 rfl rfl (.head _) rfl rfl ?_
    refine St.p rfl rfl ?_
    refine St.p rfl rfl ?_
    refine St.gSplit (dj := 10) _ rfl (fun hb1 => ?_) (fun hb1 => ?_)
    · replace hj1 := bif_t hb1 hj1
      refine St.gOn (dj := 10) rfl rfl ?_
      refine St.p rfl rfl ?_
      refine St.gOn (dj := 10) rfl rfl ?_
      refine St.loadB 1 rfl rfl (.tail _ (.head _)) rfl rfl ?_
      refine St.gOn (dj := 10) rfl rfl ?_
      refine St.p rfl rfl ?_
      refine St.gOn (dj := 10) rfl rfl ?_
      refine St.loadB 1 rfl rfl (.head _) rfl rfl ?_
      refine St.gOn (dj := 10) rfl rfl ?_
      iterate 3 refine St.p rfl rfl ?_
      refine St.done ?_
      injection hj1 with hj1
      subst hj1
      refine St.thenN ?_
      exact St.hereE () ⟨rfl, trivial⟩ (fun _ w => ((.d (.d .z)) : Keep _ _).sat w)
    · replace hj1 := bif_f hb1 hj1
      refine St.gOff (dj := 10) rfl rfl rfl rfl ?_
      refine St.gOff (dj := 10) rfl rfl rfl rfl ?_
      refine St.gOff (dj := 10) rfl rfl rfl rfl ?_
      refine St.gOff (dj := 10) rfl rfl rfl rfl ?_
      refine St.gOff (dj := 10) rfl rfl rfl rfl ?_
      refine St.p rfl rfl ?_
      refine St.p rfl rfl ?_
      refine St.done ?_
      injection hj1 with hj1
      subst hj1
      refine St.thenN ?_
      exact St.hereE () ⟨rfl, trivial⟩ (fun _ w => ((.d (.d .z)) : Keep _ _).sat w)
  · rintro e1
    refine St.ret ?_
    repeat (first | refine St.thenR ?_ | refine St.blkR ?_)
    injection h with h
    subst h
    exact St.finR Tryd.results78 (.tmp rfl .nil) rfl [] ⟨rfl, rfl⟩ (fun _ w => (.z : Keep _ _).sat w)

theorem ent65 : Ent Tryd.prog 65 := ⟨_, Tryd.func65, by kernel_rfl, by kernel_rfl⟩

noncomputable def m_ref02_SameList (a_p0 : (List T_Field)) (b_p1 : (List T_Field)) : Option Bool :=
  bif ((a_p0.length : Int) != (b_p1.length : Int)) then (some false) else (bnd (loopM (τ := Bool ⊕ Unit) (fun (s1 : Int) => bif decide (s1 < (a_p0.length : Int)) then (bnd (elt a_p0 s1) fun x1 => bnd (elt b_p1 s1) fun x2 => bnd (m_ref02_Same x1 x2) fun r1 => bif !r1 then (some (.done (.inl false))) else (some (.next (IntKind.wrap .i64 (s1 + 1))))) else (some (.done (.inr ())))) 0) fun o1 => retOr o1 fun o2 => some true)

theorem c_ref02_SameList {a_p0 : (List T_Field)} {b_p1 : (List T_Field)} {A1 : Option Addr} {c1 : Nat} {A2 : Option Addr} {c2 : Nat} {r : Bool} (h : m_ref02_SameList a_p0 b_p1 = some r) :
    Fun Tryd.prog 65 [.slice A1 a_p0.length c1, .slice A2 b_p1.length c2] [.ro (SlL e_Field A1 c1 a_p0), .ro (SlL e_Field A2 c2 b_p1)] (Val (.bool r)) := by
  unfold m_ref02_SameList at h
  refine Fun.intro Tryd.func65 rfl rfl rfl fun w R => ?_
  refine St.seq ?_
  refine St.region ?_
  refine St.p rfl rfl ?_
  refine St.done ?_
  refine St.thenN ?_
  refine St.prune (Γ' := [(0, _), (1, _)]) ⟨rfl, rfl, trivial⟩ (.k (.k .z)) ?_
  refine St.seq ?_
  refine St.seq ?_
  refine St.region ?_
  iterate 5 refine St.p rfl rfl ?_
  refine St.done ?_
  refine St.thenN ?_
  refine St.prune (Γ' := [(0, _), (1, _), (10, _)]) ⟨rfl, rfl, rfl, trivial⟩ (.k (.k .z)) ?_
  refine St.cond _ rfl (fun hb1 => ?_) (fun hb1 => ?_)
  · replace h := bif_t hb1 h
    refine St.seq ?_
    refine St.region ?_
    refine St.p rfl rfl ?_
    refine St.done ?_
    refine St.thenN ?_
    refine St.prune (Γ' := [(4, _)]) ⟨rfl, trivial⟩ (.d (.d .z)) ?_
    refine St.ret ?_
    repeat (first | refine St.thenR ?_ | refine St.blkR ?_)
    injection h with h
    subst h
    exact St.finR Tryd.results65 (.tmp rfl .nil) rfl [] ⟨rfl, rfl⟩ (fun _ w => (.z : Keep _ _).sat w)
  · replace h := bif_f hb1 h
    refine St.skip ?_
    refine St.thenN ?_
    refine St.prune (Γ' := [(0, _), (1, _)]) ⟨rfl, rfl, trivial⟩ (.k (.k .z)) ?_
    refine St.seq ?_
    refine St.seq ?_
    refine St.region ?_
    refine St.p rfl rfl ?_
    refine St.done ?_
    refine St.thenN ?_
    obtain ⟨o1, hl1, h⟩ := bnd_e h
    refine St.cutI (fun (o2 : Unit) (e2 : Unit) => []) (fun o2 e2 => R) (fun o2 => o1 = .inr o2) ?_ ?_
    · refine St.block ?_
      refine St.loop hl1 (fun (s1 : Int) (e1 : Unit) => [(0, .slice A1 a_p0.length c1), (1, .slice A2 b_p1.length c2), (5, .int .i64 s1)]) (fun s1 e1 => .ro (SlL e_Field A1 c1 a_p0) :: .ro (SlL e_Field A2 c2 b_p1) :: R) (fun _ _ => True) () trivial ⟨rfl, rfl, rfl, trivial⟩ (fun _ w => ((.k (.k .z)) : Keep _ _).sat w) ?_
      rintro s1 e1 - hit1
      obtain ⟨st1, hm1, hd1⟩ := iter_e hit1
      have h1 := hm1
      refine St.seq ?_
      refine St.seq ?_
      refine St.region ?_
      iterate 4 refine St.p rfl rfl ?_
      refine St.done ?_
      refine St.thenN ?_
      refine St.prune (Γ' := [(0, _), (1, _), (5, _), (14, _)]) ⟨rfl, rfl, rfl, rfl, trivial⟩ (.k (.k .z)) ?_
      refine St.cond _ rfl (fun hb2 => ?_) (fun hb2 => ?_)
      · replace h1 := bif_t hb2 h1
        refine St.skip ?_
        refine St.thenN ?_
        refine St.prune (Γ' := [(0, _), (1, _), (5, _)]) ⟨rfl, rfl, rfl, trivial⟩ (.k (.k .z)) ?_
        refine St.seq ?_
        refine St.block ?_
        refine St.seq ?_
        refine St.regionF mixed (by kernel_rfl) ?_
        refine St.p rfl rfl ?_
        refine St.p rfl rfl ?_
        obtain ⟨x1, hx1, h1⟩ := bnd_e h1
        refine St.ixL hx1 rfl rfl rfl (.head _) rfl rfl rfl rfl rfl fun b1 ob1 => ?_
        refine St.load ob1 0 rfl rfl (.head _) rfl rfl ?_
        refine St.p rfl rfl ?_
        refine St.p rfl rfl ?_
        obtain ⟨x2, hx2, h1⟩ := bnd_e h1
        refine St.ixL hx2 rfl rfl rfl (.tail _ (.tail _ (.head _))) rfl rfl rfl rfl rfl fun b2 ob2 => ?_
        refine St.load ob2 0 rfl rfl (.head _) rfl rfl ?_
        obtain ⟨r1, hr1, h1⟩ := bnd_e h1
        refine St.callV (c_ref02_Same hr1) ent78 rfl rfl rfl rfl trivial ?_
        refine St.p rfl rfl ?_
        refine St.doneQ ?_
        refine St.thenN ?_
        refine St.prune (Γ' := [(0, _), (1, _), (5, _), (26, _)]) ⟨rfl, rfl, rfl, rfl, trivial⟩ (.d (.d (.k (.k .z)))) ?_
        refine St.cond _ rfl (fun hb3 => ?_) (fun hb3 => ?_)
        · replace h1 := bif_t hb3 h1
          refine St.seq ?_
          refine St.region ?_
          refine St.p rfl rfl ?_
          refine St.done ?_
          refine St.thenN ?_
          refine St.prune (Γ' := [(4, _)]) ⟨rfl, trivial⟩ (.d (.d .z)) ?_
          refine St.ret ?_
          repeat (first | refine St.thenR ?_ | refine St.blkR ?_)
          injection h1 with h1
          subst h1
          have ho := hd1 _ rfl
          subst ho
          have h : some _ = some _ := h
          injection h with h
          subst h
          exact St.finR Tryd.results65 (.tmp rfl .nil) rfl [] ⟨rfl, rfl⟩ (fun _ w => (.z : Keep _ _).sat w)
        · replace h1 := bif_f hb3 h1
          refine St.skip ?_
          refine St.blkN ?_
          refine St.thenN ?_
          refine St.prune (Γ' := [(0, _), (1, _), (5, _)]) ⟨rfl, rfl, rfl, trivial⟩ (.k (.k .z)) ?_
          refine St.region ?_
          iterate 3 refine St.p rfl rfl ?_
          refine St.done ?_
          injection h1 with h1
          subst h1
          refine St.thenN ?_
          exact St.again _ () hm1 trivial ⟨rfl, rfl, rfl, trivial⟩ (fun _ w => ((.k (.k .z)) : Keep _ _).sat w)
      · replace h1 := bif_f hb2 h1
        refine St.exit ?_
        repeat (first | refine St.thenX ?_ | refine St.blkMiss rfl ?_)
        refine St.blkHit ?_
        injection h1 with h1
        subst h1
        have ho := hd1 _ rfl
        subst ho
        refine St.thenN ?_
        exact St.hereI () () rfl trivial (fun _ w => ((.d (.d .z)) : Keep _ _).sat w)
    · rintro o2 e2 ho
      subst ho
      have h : _ = some _ := h
      refine St.seq ?_
      refine St.region ?_
      refine St.p rfl rfl ?_
      refine St.done ?_
      refine St.thenN ?_
      refine St.ret ?_
      repeat (first | refine St.thenR ?_ | refine St.blkR ?_)
      injection h with h
      subst h
      exact St.finR Tryd.results65 (.tmp rfl .nil) rfl [] ⟨rfl, rfl⟩ (fun _ w => (.z : Keep _ _).sat w)

theorem ent44 : Ent Tryd.prog 44 := ⟨_, Tryd.func44, by kernel_rfl, by kernel_rfl⟩

noncomputable def m_ref17_sameArea (a_p0 : T_Area) (b_p1 : T_Area) : Option Bool :=
  bnd ((bif (a_p0.Present == b_p1.Present) then (bif (a_p0.Code == b_p1.Code) then (bif (a_p0.Minutes == b_p1.Minutes) then (bnd (m_ref02_SameList a_p0.Fields b_p1.Fields) fun r1 => some r1) else (some false)) else (some false)) else (some false) : Option Bool)) fun o1 => some o1

end Go.Proofs.YtcekbbbjagfacaaDoor
