/-
  Models of functions of the program, and that the functions compute them.
  Conditions: none.
-/
import Derived.Test.YtcekbbbjagfacaaDoorGen2
namespace Go.Proofs.YtcekbbbjagfacaaDoor
open Go
set_option linter.unusedVariables false
set_option maxRecDepth 4000

set_option maxHeartbeats 4000000 in
theorem c_ref17_bytes {i_p0 : T_Info} {A1 : Option Addr} {c1 : Nat} {A2 : Option Addr} {c2 : Nat} {A3 : Option Addr} {c3 : Nat} {A4 : Option Addr} {c4 : Nat} {r : ((List Int) × Bool)} (h : m_ref17_bytes i_p0 = some r) :
    Fun Tryd.prog 36 [.agg (bx_T_Info i_p0 A1 c1 A2 c2 A3 c3 A4 c4).toArray] [.ro (SlL e_Field A1 c1 i_p0.Chassis.Fields), .ro (SlL e_Field A2 c2 i_p0.Board.Fields), .ro (SlL e_Field A3 c3 i_p0.Product.Fields), .ro (SlL eu8 A4 c4 i_p0.Multi)] (fun v_ F_ => ∃ (A1 : Option Addr) (c1 : Nat), v_ = .tuple #[.slice A1 r.1.length c1, .bool r.2] ∧ F_ = [.res (OwnL eu8 5 A1 c1 r.1)]) := by
  unfold m_ref17_bytes at h
  refine Fun.intro Tryd.func36 rfl rfl rfl fun w R => ?_
  refine St.seq ?_
  refine St.region ?_
  refine St.box rfl rfl fun g1 => ?_
  refine St.p rfl rfl ?_
  refine St.p rfl rfl ?_
  refine St.done ?_
  refine St.thenN ?_
  refine St.prune (Γ' := [(1, _)]) ⟨rfl, trivial⟩ (.k (.k (.k (.k (.k .z))))) ?_
  refine St.seq ?_
  refine St.region ?_
  refine St.p rfl rfl ?_
  refine St.loadB 0 rfl rfl (.head _) rfl rfl ?_
  refine St.p rfl rfl ?_
  refine St.loadB 4 rfl rfl (.head _) rfl rfl ?_
  refine St.p rfl rfl ?_
  refine St.loadB 8 rfl rfl (.head _) rfl rfl ?_
  refine St.p rfl rfl ?_
  refine St.alloc rfl rfl fun g2 => ?_
  refine St.store 0 rfl rfl rfl rfl rfl rfl .z rfl ?_
  refine St.done ?_
  refine St.thenN ?_
  refine St.prune (Γ' := [(1, _), (4, _)]) ⟨rfl, rfl, trivial⟩ (.k (.k (.k (.k (.k (.k .z)))))) ?_
  refine St.seq ?_
  refine St.region ?_
  refine St.buildSlice rfl rfl rfl rfl rfl rfl rfl rfl fun g3 => ?_
  refine St.p rfl rfl ?_
  refine St.done ?_
  refine St.thenN ?_
  refine St.prune (Γ' := [(1, _), (4, _), (5, _)]) ⟨rfl, rfl, rfl, trivial⟩ (.k (.k (.k (.k (.k (.k (.k .z))))))) ?_
  refine St.seq ?_
  refine St.region ?_
  refine St.p rfl rfl ?_
  refine St.done ?_
  refine St.thenN ?_
  refine St.seq ?_
  refine St.seq ?_
  refine St.region ?_
  refine St.p rfl rfl ?_
  refine St.done ?_
  refine St.thenN ?_
  refine St.block ?_
  refine St.rounds 9 ?_
  refine St.round ?_
  refine St.seq ?_
  refine St.seq ?_
  refine St.region ?_
  refine St.p rfl rfl ?_
  refine St.p rfl rfl ?_
  refine St.done ?_
  refine St.thenN ?_
  refine St.prune (Γ' := [(1, _), (4, _), (5, _), (6, _), (7, _), (19, _)]) ⟨rfl, rfl, rfl, rfl, rfl, rfl, trivial⟩ (.k (.k (.k (.k (.k (.k (.k .z))))))) ?_
  refine St.condT rfl ?_
  refine St.skip ?_
  refine St.thenN ?_
  refine St.prune (Γ' := [(1, _), (4, _), (5, _), (6, _), (7, _)]) ⟨rfl, rfl, rfl, rfl, rfl, trivial⟩ (.k (.k (.k (.k (.k (.k (.k .z))))))) ?_
  refine St.seq ?_
  obtain ⟨o1, hj1, h⟩ := bnd_e h
  refine St.cutI (fun (o2 : List Int × Int) (e1 : Option Addr × Nat) => [(1, .pointer (some ⟨g1, 0, none⟩)), (4, .pointer (some ⟨g2, 0, none⟩)), (5, .slice (some ⟨g3, 0, none⟩) 7 7), (6, .slice e1.1 o2.1.length e1.2), (7, .int .i64 0)]) (fun o2 e1 => .res (OwnL eu8 5 e1.1 e1.2 o2.1) :: .res (Box g3 5 [.int .u8 1, .int .u8 0, .int .u8 o2.2, .int .u8 0, .int .u8 0, .int .u8 0, .int .u8 0]) :: .res (Box g2 69 [.bool i_p0.Chassis.Present, .int .u8 i_p0.Chassis.Code, .int .u32 i_p0.Chassis.Minutes, .slice A1 i_p0.Chassis.Fields.length c1, .bool i_p0.Board.Present, .int .u8 i_p0.Board.Code, .int .u32 i_p0.Board.Minutes, .slice A2 i_p0.Board.Fields.length c2, .bool i_p0.Product.Present, .int .u8 i_p0.Product.Code, .int .u32 i_p0.Product.Minutes, .slice A3 i_p0.Product.Fields.length c3]) :: .res (Box g1 28 (bx_T_Info i_p0 A1 c1 A2 c2 A3 c3 A4 c4)) :: .ro (SlL e_Field A1 c1 i_p0.Chassis.Fields) :: .ro (SlL e_Field A2 c2 i_p0.Board.Fields) :: .ro (SlL e_Field A3 c3 i_p0.Product.Fields) :: .ro (SlL eu8 A4 c4 i_p0.Multi) :: R) (fun o2 => o1 = .inr o2) ?_ ?_
  · refine St.block ?_
    refine St.seq ?_
    refine St.region ?_
    iterate 3 refine St.p rfl rfl ?_
    refine St.loadB 0 rfl rfl (.tail _ (.head _)) rfl rfl ?_
    obtain ⟨r1, hr1, hj1⟩ := bnd_e hj1
    refine St.call (c_ref17_area hr1) ent51 rfl rfl rfl (fun _ w => Sat.dup (G := [.ro (SlL e_Field A1 c1 i_p0.Chassis.Fields)]) rfl ⟨(.tail _ (.tail _ (.tail _ (.head _)))), trivial⟩ w) ?_
    rintro _ _ ⟨A6, c6, rfl, rfl⟩
    refine St.asrt (F' := .res (OwnL eu8 5 A6 c6 r1.1) :: .res (Box g3 5 [.int .u8 1, .int .u8 0, .int .u8 0, .int .u8 0, .int .u8 0, .int .u8 0, .int .u8 0]) :: .res (Box g2 69 [.bool i_p0.Chassis.Present, .int .u8 i_p0.Chassis.Code, .int .u32 i_p0.Chassis.Minutes, .slice A1 i_p0.Chassis.Fields.length c1, .bool i_p0.Board.Present, .int .u8 i_p0.Board.Code, .int .u32 i_p0.Board.Minutes, .slice A2 i_p0.Board.Fields.length c2, .bool i_p0.Product.Present, .int .u8 i_p0.Product.Code, .int .u32 i_p0.Product.Minutes, .slice A3 i_p0.Product.Fields.length c3]) :: .res (Box g1 28 (bx_T_Info i_p0 A1 c1 A2 c2 A3 c3 A4 c4)) :: .ro (SlL e_Field A1 c1 i_p0.Chassis.Fields) :: .ro (SlL e_Field A2 c2 i_p0.Board.Fields) :: .ro (SlL e_Field A3 c3 i_p0.Product.Fields) :: .ro (SlL eu8 A4 c4 i_p0.Multi) :: R) (fun _ w => w) ?_
    iterate 5 refine St.p rfl rfl ?_
    refine St.done ?_
    refine St.thenN ?_
    refine St.prune (Γ' := [(1, _), (4, _), (5, _), (6, _), (7, _), (8, _), (9, _)]) ⟨rfl, rfl, rfl, rfl, rfl, rfl, rfl, trivial⟩ (.k (.k (.k (.k (.k (.k (.k (.k .z)))))))) ?_
    refine St.seq ?_
    refine St.seq ?_
    refine St.region ?_
    refine St.p rfl rfl ?_
    refine St.p rfl rfl ?_
    refine St.done ?_
    refine St.thenN ?_
    refine St.prune (Γ' := [(1, _), (4, _), (5, _), (6, _), (7, _), (8, _), (31, _)]) ⟨rfl, rfl, rfl, rfl, rfl, rfl, rfl, trivial⟩ (.k (.k (.k (.k (.k (.k (.k (.k .z)))))))) ?_
    refine St.cond _ rfl (fun hb1 => ?_) (fun hb1 => ?_)
    · replace hj1 := bif_t hb1 hj1
      refine St.seq ?_
      refine St.region ?_
      refine St.p rfl rfl ?_
      refine St.p rfl rfl ?_
      refine St.done ?_
      refine St.thenN ?_
      refine St.prune (Γ' := [(2, _), (3, _)]) ⟨rfl, rfl, trivial⟩ (.d (.d (.d (.d (.d (.d (.d (.d .z)))))))) ?_
      refine St.ret ?_
      repeat (first | refine St.thenR ?_ | refine St.blkR ?_)
      refine St.asrt (fun _ w => w.nilL eu8 5) ?_
      injection hj1 with hj1
      subst hj1
      have h : some _ = some _ := h
      injection h with h
      subst h
      exact St.finR Tryd.results36 (.tmp rfl (.tmp rfl .nil)) rfl [.res (OwnL eu8 5 none 0 ([] : List Int))] ⟨none, 0, rfl, rfl⟩ (fun _ w => ((.k .z) : Keep _ _).sat w)
    · replace hj1 := bif_f hb1 hj1
      refine St.skip ?_
      refine St.thenN ?_
      refine St.prune (Γ' := [(1, _), (4, _), (5, _), (6, _), (7, _), (8, _)]) ⟨rfl, rfl, rfl, rfl, rfl, rfl, trivial⟩ (.k (.k (.k (.k (.k (.k (.k (.k .z)))))))) ?_
      refine St.seq ?_
      refine St.seq ?_
      refine St.region ?_
      iterate 3 refine St.p rfl rfl ?_
      refine St.done ?_
      refine St.thenN ?_
      refine St.prune (Γ' := [(1, _), (4, _), (5, _), (6, _), (7, _), (8, _), (34, _)]) ⟨rfl, rfl, rfl, rfl, rfl, rfl, rfl, trivial⟩ (.k (.k (.k (.k (.k (.k (.k (.k .z)))))))) ?_
      refine St.cond _ rfl (fun hb2 => ?_) (fun hb2 => ?_)
      · replace hj1 := bif_t hb2 hj1
        refine St.region ?_
        iterate 8 refine St.p rfl rfl ?_
        refine St.ixB 2 rfl rfl rfl rfl rfl rfl rfl rfl rfl rfl ?_
        refine St.store 2 rfl rfl rfl rfl rfl rfl (.s .z) rfl ?_
        refine St.done ?_
        refine St.thenN ?_
        refine St.prune (Γ' := [(1, _), (4, _), (5, _), (6, _), (7, _), (8, _)]) ⟨rfl, rfl, rfl, rfl, rfl, rfl, trivial⟩ (.k (.k (.k (.k (.k (.k (.k (.k .z)))))))) ?_
        refine St.region ?_
        refine St.p rfl rfl ?_
        refine St.p rfl rfl ?_
        refine St.asrt (fun _ w => (w.front (.s .z)).meltL) ?_
        refine St.asrt (fun _ w => w.nilL eu8 5) ?_
        obtain ⟨l1, hl1, hj1⟩ := bnd_e hj1
        refine St.app (E := eu8) hl1 rfl rfl rfl .z rfl rfl rfl rfl rfl rfl rfl rfl (srcL (.tail _ (.head _))) rfl rfl fun A7 c7 => ?_
        refine St.p rfl rfl ?_
        refine St.done ?_
        refine St.blkN ?_
        injection hj1 with hj1
        subst hj1
        refine St.thenN ?_
        exact St.hereI (l1, IntKind.wrap .u8 (IntKind.wrap .i64 ((8 : Int).tdiv 8))) (A7, c7) rfl ⟨rfl, rfl, rfl, rfl, rfl, trivial⟩ (fun _ w => ((.k (.d (.k (.k (.k (.k (.k (.k (.k .z))))))))) : Keep _ _).sat w)
      · replace hj1 := bif_f hb2 hj1
        refine St.skip ?_
        refine St.thenN ?_
        refine St.prune (Γ' := [(1, _), (4, _), (5, _), (6, _), (7, _), (8, _)]) ⟨rfl, rfl, rfl, rfl, rfl, rfl, trivial⟩ (.k (.k (.k (.k (.k (.k (.k (.k .z)))))))) ?_
        refine St.region ?_
        refine St.p rfl rfl ?_
        refine St.p rfl rfl ?_
        refine St.asrt (fun _ w => (w.front .z).meltL) ?_
        refine St.asrt (fun _ w => w.nilL eu8 5) ?_
        obtain ⟨l2, hl2, hj1⟩ := bnd_e hj1
        refine St.app (E := eu8) hl2 rfl rfl rfl .z rfl rfl rfl rfl rfl rfl rfl rfl (srcL (.tail _ (.head _))) rfl rfl fun A8 c8 => ?_
        refine St.p rfl rfl ?_
        refine St.done ?_
        refine St.blkN ?_
        injection hj1 with hj1
        subst hj1
        refine St.thenN ?_
        exact St.hereI (l2, 0) (A8, c8) rfl ⟨rfl, rfl, rfl, rfl, rfl, trivial⟩ (fun _ w => ((.k (.d (.k (.k (.k (.k (.k (.k (.k .z))))))))) : Keep _ _).sat w)
  · rintro o2 ⟨A5, c5⟩ ho
    subst ho
    have h : _ = some _ := h
    refine St.region ?_
    iterate 3 refine St.p rfl rfl ?_
    refine St.done ?_
    refine St.thenN ?_
    refine St.round ?_
    refine St.prune (Γ' := [(1, _), (4, _), (5, _), (6, _), (7, _)]) ⟨rfl, rfl, rfl, rfl, rfl, trivial⟩ (.k (.k (.k (.k (.k (.k (.k (.k .z)))))))) ?_
    refine St.seq ?_
    refine St.seq ?_
    refine St.region ?_
    refine St.p rfl rfl ?_
    refine St.p rfl rfl ?_
    refine St.done ?_
    refine St.thenN ?_
    refine St.prune (Γ' := [(1, _), (4, _), (5, _), (6, _), (7, _), (19, _)]) ⟨rfl, rfl, rfl, rfl, rfl, rfl, trivial⟩ (.k (.k (.k (.k (.k (.k (.k (.k .z)))))))) ?_
    refine St.condT rfl ?_
    refine St.skip ?_
    refine St.thenN ?_
    refine St.prune (Γ' := [(1, _), (4, _), (5, _), (6, _), (7, _)]) ⟨rfl, rfl, rfl, rfl, rfl, trivial⟩ (.k (.k (.k (.k (.k (.k (.k (.k .z)))))))) ?_
    refine St.seq ?_
    obtain ⟨o3, hj2, h⟩ := bnd_e h
    refine St.cutI (fun (o4 : List Int × Int) (e2 : Option Addr × Nat) => [(1, .pointer (some ⟨g1, 0, none⟩)), (4, .pointer (some ⟨g2, 0, none⟩)), (5, .slice (some ⟨g3, 0, none⟩) 7 7), (6, .slice e2.1 o4.1.length e2.2), (7, .int .i64 1)]) (fun o4 e2 => .res (OwnL eu8 5 e2.1 e2.2 o4.1) :: .res (Box g3 5 [.int .u8 1, .int .u8 0, .int .u8 o2.2, .int .u8 o4.2, .int .u8 0, .int .u8 0, .int .u8 0]) :: .res (Box g2 69 [.bool i_p0.Chassis.Present, .int .u8 i_p0.Chassis.Code, .int .u32 i_p0.Chassis.Minutes, .slice A1 i_p0.Chassis.Fields.length c1, .bool i_p0.Board.Present, .int .u8 i_p0.Board.Code, .int .u32 i_p0.Board.Minutes, .slice A2 i_p0.Board.Fields.length c2, .bool i_p0.Product.Present, .int .u8 i_p0.Product.Code, .int .u32 i_p0.Product.Minutes, .slice A3 i_p0.Product.Fields.length c3]) :: .res (Box g1 28 (bx_T_Info i_p0 A1 c1 A2 c2 A3 c3 A4 c4)) :: .ro (SlL e_Field A1 c1 i_p0.Chassis.Fields) :: .ro (SlL e_Field A2 c2 i_p0.Board.Fields) :: .ro (SlL e_Field A3 c3 i_p0.Product.Fields) :: .ro (SlL eu8 A4 c4 i_p0.Multi) :: R) (fun o4 => o3 = .inr o4) ?_ ?_
    · refine St.block ?_
      refine St.seq ?_
      refine St.region ?_
      iterate 3 refine St.p rfl rfl ?_
      refine St.loadB 4 rfl rfl (.tail _ (.tail _ (.head _))) rfl rfl ?_
      obtain ⟨r2, hr2, hj2⟩ := bnd_e hj2
      refine St.call (c_ref17_area hr2) ent51 rfl rfl rfl (fun _ w => Sat.dup (G := [.ro (SlL e_Field A2 c2 i_p0.Board.Fields)]) rfl ⟨(.tail _ (.tail _ (.tail _ (.tail _ (.tail _ (.head _)))))), trivial⟩ w) ?_
      rintro _ _ ⟨A10, c10, rfl, rfl⟩
      refine St.asrt (F' := .res (OwnL eu8 5 A10 c10 r2.1) :: .res (OwnL eu8 5 A5 c5 o2.1) :: .res (Box g3 5 [.int .u8 1, .int .u8 0, .int .u8 o2.2, .int .u8 0, .int .u8 0, .int .u8 0, .int .u8 0]) :: .res (Box g2 69 [.bool i_p0.Chassis.Present, .int .u8 i_p0.Chassis.Code, .int .u32 i_p0.Chassis.Minutes, .slice A1 i_p0.Chassis.Fields.length c1, .bool i_p0.Board.Present, .int .u8 i_p0.Board.Code, .int .u32 i_p0.Board.Minutes, .slice A2 i_p0.Board.Fields.length c2, .bool i_p0.Product.Present, .int .u8 i_p0.Product.Code, .int .u32 i_p0.Product.Minutes, .slice A3 i_p0.Product.Fields.length c3]) :: .res (Box g1 28 (bx_T_Info i_p0 A1 c1 A2 c2 A3 c3 A4 c4)) :: .ro (SlL e_Field A1 c1 i_p0.Chassis.Fields) :: .ro (SlL e_Field A2 c2 i_p0.Board.Fields) :: .ro (SlL e_Field A3 c3 i_p0.Product.Fields) :: .ro (SlL eu8 A4 c4 i_p0.Multi) :: R) (fun _ w => w) ?_
      iterate 5 refine St.p rfl rfl ?_
      refine St.done ?_
      refine St.thenN ?_
      refine St.prune (Γ' := [(1, _), (4, _), (5, _), (6, _), (7, _), (8, _), (9, _)]) ⟨rfl, rfl, rfl, rfl, rfl, rfl, rfl, trivial⟩ (.k (.k (.k (.k (.k (.k (.k (.k (.k .z))))))))) ?_
      refine St.seq ?_
      refine St.seq ?_
      refine St.region ?_
      refine St.p rfl rfl ?_
      refine St.p rfl rfl ?_
      refine St.done ?_
      refine St.thenN ?_
      refine St.prune (Γ' := [(1, _), (4, _), (5, _), (6, _), (7, _), (8, _), (31, _)]) ⟨rfl, rfl, rfl, rfl, rfl, rfl, rfl, trivial⟩ (.k (.k (.k (.k (.k (.k (.k (.k (.k .z))))))))) ?_
      refine St.cond _ rfl (fun hb3 => ?_) (fun hb3 => ?_)
      · replace hj2 := bif_t hb3 hj2
        refine St.seq ?_
        refine St.region ?_
        refine St.p rfl rfl ?_
        refine St.p rfl rfl ?_
        refine St.done ?_
        refine St.thenN ?_
        refine St.prune (Γ' := [(2, _), (3, _)]) ⟨rfl, rfl, trivial⟩ (.d (.d (.d (.d (.d (.d (.d (.d (.d .z))))))))) ?_
        refine St.ret ?_
        repeat (first | refine St.thenR ?_ | refine St.blkR ?_)
        refine St.asrt (fun _ w => w.nilL eu8 5) ?_
        injection hj2 with hj2
        subst hj2
        have h : some _ = some _ := h
        injection h with h
        subst h
        exact St.finR Tryd.results36 (.tmp rfl (.tmp rfl .nil)) rfl [.res (OwnL eu8 5 none 0 ([] : List Int))] ⟨none, 0, rfl, rfl⟩ (fun _ w => ((.k .z) : Keep _ _).sat w)
      · replace hj2 := bif_f hb3 hj2
        refine St.skip ?_
        refine St.thenN ?_
        refine St.prune (Γ' := [(1, _), (4, _), (5, _), (6, _), (7, _), (8, _)]) ⟨rfl, rfl, rfl, rfl, rfl, rfl, trivial⟩ (.k (.k (.k (.k (.k (.k (.k (.k (.k .z))))))))) ?_
        refine St.seq ?_
        refine St.seq ?_
        refine St.region ?_
        iterate 3 refine St.p rfl rfl ?_
        refine St.done ?_
        refine St.thenN ?_
        refine St.prune (Γ' := [(1, _), (4, _), (5, _), (6, _), (7, _), (8, _), (34, _)]) ⟨rfl, rfl, rfl, rfl, rfl, rfl, rfl, trivial⟩ (.k (.k (.k (.k (.k (.k (.k (.k (.k .z))))))))) ?_
        refine St.cond _ rfl (fun hb4 => ?_) (fun hb4 => ?_)
        · replace hj2 := bif_t hb4 hj2
          refine St.region ?_
          iterate 8 refine St.p rfl rfl ?_
          refine St.ixB 3 rfl rfl rfl rfl rfl rfl rfl rfl rfl rfl ?_
          refine St.store 3 rfl rfl rfl rfl rfl rfl (.s (.s .z)) rfl ?_
          refine St.done ?_
          refine St.thenN ?_
          refine St.prune (Γ' := [(1, _), (4, _), (5, _), (6, _), (7, _), (8, _)]) ⟨rfl, rfl, rfl, rfl, rfl, rfl, trivial⟩ (.k (.k (.k (.k (.k (.k (.k (.k (.k .z))))))))) ?_
          refine St.region ?_
          refine St.p rfl rfl ?_
          refine St.p rfl rfl ?_
          refine St.asrt (fun _ w => (w.front (.s .z)).meltL) ?_
          obtain ⟨l3, hl3, hj2⟩ := bnd_e hj2
          refine St.app (E := eu8) hl3 rfl rfl rfl (.s (.s .z)) rfl rfl rfl rfl rfl rfl rfl rfl (srcL (.head _)) rfl rfl fun A11 c11 => ?_
          refine St.p rfl rfl ?_
          refine St.done ?_
          refine St.blkN ?_
          injection hj2 with hj2
          subst hj2
          refine St.thenN ?_
          exact St.hereI (l3, IntKind.wrap .u8 (IntKind.wrap .i64 ((IntKind.wrap .i64 (8 + (o2.1.length : Int))).tdiv 8))) (A11, c11) rfl ⟨rfl, rfl, rfl, rfl, rfl, trivial⟩ (fun _ w => ((.k (.d (.k (.k (.k (.k (.k (.k (.k .z))))))))) : Keep _ _).sat w)
        · replace hj2 := bif_f hb4 hj2
          refine St.skip ?_
          refine St.thenN ?_
          refine St.prune (Γ' := [(1, _), (4, _), (5, _), (6, _), (7, _), (8, _)]) ⟨rfl, rfl, rfl, rfl, rfl, rfl, trivial⟩ (.k (.k (.k (.k (.k (.k (.k (.k (.k .z))))))))) ?_
          refine St.region ?_
          refine St.p rfl rfl ?_
          refine St.p rfl rfl ?_
          refine St.asrt (fun _ w => (w.front .z).meltL) ?_
          obtain ⟨l4, hl4, hj2⟩ := bnd_e hj2
          refine St.app (E := eu8) hl4 rfl rfl rfl (.s .z) rfl rfl rfl rfl rfl rfl rfl rfl (srcL (.head _)) rfl rfl fun A12 c12 => ?_
          refine St.p rfl rfl ?_
          refine St.done ?_
          refine St.blkN ?_
          injection hj2 with hj2
          subst hj2
          refine St.thenN ?_
          exact St.hereI (l4, 0) (A12, c12) rfl ⟨rfl, rfl, rfl, rfl, rfl, trivial⟩ (fun _ w => ((.k (.d (.k (.k (.k (.k (.k (.k (.k .z))))))))) : Keep _ _).sat w)
    · rintro o4 ⟨A9, c9⟩ ho
      subst ho
      have h : _ = some _ := h
      refine St.region ?_
      iterate 3 refine St.p rfl rfl ?_
      refine St.done ?_
      refine St.thenN ?_
      refine St.round ?_
      refine St.prune (Γ' := [(1, _), (4, _), (5, _), (6, _), (7, _)]) ⟨rfl, rfl, rfl, rfl, rfl, trivial⟩ (.k (.k (.k (.k (.k (.k (.k (.k .z)))))))) ?_
      refine St.seq ?_
      refine St.seq ?_
      refine St.region ?_
      refine St.p rfl rfl ?_
      refine St.p rfl rfl ?_
      refine St.done ?_
      refine St.thenN ?_
      refine St.prune (Γ' := [(1, _), (4, _), (5, _), (6, _), (7, _), (19, _)]) ⟨rfl, rfl, rfl, rfl, rfl, rfl, trivial⟩ (.k (.k (.k (.k (.k (.k (.k (.k .z)))))))) ?_
      refine St.condT rfl ?_
      refine St.skip ?_
      refine St.thenN ?_
      refine St.prune (Γ' := [(1, _), (4, _), (5, _), (6, _), (7, _)]) ⟨rfl, rfl, rfl, rfl, rfl, trivial⟩ (.k (.k (.k (.k (.k (.k (.k (.k .z)))))))) ?_
      refine St.seq ?_
      obtain ⟨o5, hj3, h⟩ := bnd_e h
      refine St.cutI (fun (o6 : List Int × Int) (e3 : Option Addr × Nat) => [(1, .pointer (some ⟨g1, 0, none⟩)), (4, .pointer (some ⟨g2, 0, none⟩)), (5, .slice (some ⟨g3, 0, none⟩) 7 7), (6, .slice e3.1 o6.1.length e3.2), (7, .int .i64 2)]) (fun o6 e3 => .res (OwnL eu8 5 e3.1 e3.2 o6.1) :: .res (Box g3 5 [.int .u8 1, .int .u8 0, .int .u8 o2.2, .int .u8 o4.2, .int .u8 o6.2, .int .u8 0, .int .u8 0]) :: .res (Box g2 69 [.bool i_p0.Chassis.Present, .int .u8 i_p0.Chassis.Code, .int .u32 i_p0.Chassis.Minutes, .slice A1 i_p0.Chassis.Fields.length c1, .bool i_p0.Board.Present, .int .u8 i_p0.Board.Code, .int .u32 i_p0.Board.Minutes, .slice A2 i_p0.Board.Fields.length c2, .bool i_p0.Product.Present, .int .u8 i_p0.Product.Code, .int .u32 i_p0.Product.Minutes, .slice A3 i_p0.Product.Fields.length c3]) :: .res (Box g1 28 (bx_T_Info i_p0 A1 c1 A2 c2 A3 c3 A4 c4)) :: .ro (SlL e_Field A1 c1 i_p0.Chassis.Fields) :: .ro (SlL e_Field A2 c2 i_p0.Board.Fields) :: .ro (SlL e_Field A3 c3 i_p0.Product.Fields) :: .ro (SlL eu8 A4 c4 i_p0.Multi) :: R) (fun o6 => o5 = .inr o6) ?_ ?_
      · refine St.block ?_
        refine St.seq ?_
        refine St.region ?_
        iterate 3 refine St.p rfl rfl ?_
        refine St.loadB 8 rfl rfl (.tail _ (.tail _ (.head _))) rfl rfl ?_
        obtain ⟨r3, hr3, hj3⟩ := bnd_e hj3
        refine St.call (c_ref17_area hr3) ent51 rfl rfl rfl (fun _ w => Sat.dup (G := [.ro (SlL e_Field A3 c3 i_p0.Product.Fields)]) rfl ⟨(.tail _ (.tail _ (.tail _ (.tail _ (.tail _ (.tail _ (.head _))))))), trivial⟩ w) ?_
        rintro _ _ ⟨A14, c14, rfl, rfl⟩
        refine St.asrt (F' := .res (OwnL eu8 5 A14 c14 r3.1) :: .res (OwnL eu8 5 A9 c9 o4.1) :: .res (Box g3 5 [.int .u8 1, .int .u8 0, .int .u8 o2.2, .int .u8 o4.2, .int .u8 0, .int .u8 0, .int .u8 0]) :: .res (Box g2 69 [.bool i_p0.Chassis.Present, .int .u8 i_p0.Chassis.Code, .int .u32 i_p0.Chassis.Minutes, .slice A1 i_p0.Chassis.Fields.length c1, .bool i_p0.Board.Present, .int .u8 i_p0.Board.Code, .int .u32 i_p0.Board.Minutes, .slice A2 i_p0.Board.Fields.length c2, .bool i_p0.Product.Present, .int .u8 i_p0.Product.Code, .int .u32 i_p0.Product.Minutes, .slice A3 i_p0.Product.Fields.length c3]) :: .res (Box g1 28 (bx_T_Info i_p0 A1 c1 A2 c2 A3 c3 A4 c4)) :: .ro (SlL e_Field A1 c1 i_p0.Chassis.Fields) :: .ro (SlL e_Field A2 c2 i_p0.Board.Fields) :: .ro (SlL e_Field A3 c3 i_p0.Product.Fields) :: .ro (SlL eu8 A4 c4 i_p0.Multi) :: R) (fun _ w => w) ?_
        iterate 5 refine St.p rfl rfl ?_
        refine St.done ?_
        refine St.thenN ?_
        refine St.prune (Γ' := [(1, _), (4, _), (5, _), (6, _), (7, _), (8, _), (9, _)]) ⟨rfl, rfl, rfl, rfl, rfl, rfl, rfl, trivial⟩ (.k (.k (.k (.k (.k (.k (.k (.k (.k .z))))))))) ?_
        refine St.seq ?_
        refine St.seq ?_
        refine St.region ?_
        refine St.p rfl rfl ?_
        refine St.p rfl rfl ?_
        refine St.done ?_
        refine St.thenN ?_
        refine St.prune (Γ' := [(1, _), (4, _), (5, _), (6, _), (7, _), (8, _), (31, _)]) ⟨rfl, rfl, rfl, rfl, rfl, rfl, rfl, trivial⟩ (.k (.k (.k (.k (.k (.k (.k (.k (.k .z))))))))) ?_
        refine St.cond _ rfl (fun hb5 => ?_) (fun hb5 => ?_)
        · replace hj3 := bif_t hb5 hj3
          refine St.seq ?_
          refine St.region ?_
          refine St.p rfl rfl ?_
          refine St.p rfl rfl ?_
          refine St.done ?_
          refine St.thenN ?_
          refine St.prune (Γ' := [(2, _), (3, _)]) ⟨rfl, rfl, trivial⟩ (.d (.d (.d (.d (.d (.d (.d (.d (.d .z))))))))) ?_
          refine St.ret ?_
          repeat (first | refine St.thenR ?_ | refine St.blkR ?_)
          refine St.asrt (fun _ w => w.nilL eu8 5) ?_
          injection hj3 with hj3
          subst hj3
          have h : some _ = some _ := h
          injection h with h
          subst h
          exact St.finR Tryd.results36 (.tmp rfl (.tmp rfl .nil)) rfl [.res (OwnL eu8 5 none 0 ([] : List Int))] ⟨none, 0, rfl, rfl⟩ (fun _ w => ((.k .z) : Keep _ _).sat w)
        · replace hj3 := bif_f hb5 hj3
          refine St.skip ?_
          refine St.thenN ?_
          refine St.prune (Γ' := [(1, _), (4, _), (5, _), (6, _), (7, _), (8, _)]) ⟨rfl, rfl, rfl, rfl, rfl, rfl, trivial⟩ (.k (.k (.k (.k (.k (.k (.k (.k (.k .z))))))))) ?_
          refine St.seq ?_
          refine St.seq ?_
          refine St.region ?_
          iterate 3 refine St.p rfl rfl ?_
          refine St.done ?_
          refine St.thenN ?_
          refine St.prune (Γ' := [(1, _), (4, _), (5, _), (6, _), (7, _), (8, _), (34, _)]) ⟨rfl, rfl, rfl, rfl, rfl, rfl, rfl, trivial⟩ (.k (.k (.k (.k (.k (.k (.k (.k (.k .z))))))))) ?_
          refine St.cond _ rfl (fun hb6 => ?_) (fun hb6 => ?_)
          · replace hj3 := bif_t hb6 hj3
            refine St.region ?_
            iterate 8 refine St.p rfl rfl ?_
            refine St.ixB 4 rfl rfl rfl rfl rfl rfl rfl rfl rfl rfl ?_
            refine St.store 4 rfl rfl rfl rfl rfl rfl (.s (.s .z)) rfl ?_
            refine St.done ?_
            refine St.thenN ?_
            refine St.prune (Γ' := [(1, _), (4, _), (5, _), (6, _), (7, _), (8, _)]) ⟨rfl, rfl, rfl, rfl, rfl, rfl, trivial⟩ (.k (.k (.k (.k (.k (.k (.k (.k (.k .z))))))))) ?_
            refine St.region ?_
            refine St.p rfl rfl ?_
            refine St.p rfl rfl ?_
            refine St.asrt (fun _ w => (w.front (.s .z)).meltL) ?_
            obtain ⟨l5, hl5, hj3⟩ := bnd_e hj3
            refine St.app (E := eu8) hl5 rfl rfl rfl (.s (.s .z)) rfl rfl rfl rfl rfl rfl rfl rfl (srcL (.head _)) rfl rfl fun A15 c15 => ?_
            refine St.p rfl rfl ?_
            refine St.done ?_
            refine St.blkN ?_
            injection hj3 with hj3
            subst hj3
            refine St.thenN ?_
            exact St.hereI (l5, IntKind.wrap .u8 (IntKind.wrap .i64 ((IntKind.wrap .i64 (8 + (o4.1.length : Int))).tdiv 8))) (A15, c15) rfl ⟨rfl, rfl, rfl, rfl, rfl, trivial⟩ (fun _ w => ((.k (.d (.k (.k (.k (.k (.k (.k (.k .z))))))))) : Keep _ _).sat w)
          · replace hj3 := bif_f hb6 hj3
            refine St.skip ?_
            refine St.thenN ?_
            refine St.prune (Γ' := [(1, _), (4, _), (5, _), (6, _), (7, _), (8, _)]) ⟨rfl, rfl, rfl, rfl, rfl, rfl, trivial⟩ (.k (.k (.k (.k (.k (.k (.k (.k (.k .z))))))))) ?_
            refine St.region ?_
            refine St.p rfl rfl ?_
            refine St.p rfl rfl ?_
            refine St.asrt (fun _ w => (w.front .z).meltL) ?_
            obtain ⟨l6, hl6, hj3⟩ := bnd_e hj3
            refine St.app (E := eu8) hl6 rfl rfl rfl (.s .z) rfl rfl rfl rfl rfl rfl rfl rfl (srcL (.head _)) rfl rfl fun A16 c16 => ?_
            refine St.p rfl rfl ?_
            refine St.done ?_
            refine St.blkN ?_
            injection hj3 with hj3
            subst hj3
            refine St.thenN ?_
            exact St.hereI (l6, 0) (A16, c16) rfl ⟨rfl, rfl, rfl, rfl, rfl, trivial⟩ (fun _ w => ((.k (.d (.k (.k (.k (.k (.k (.k (.k .z))))))))) : Keep _ _).sat w)
      · rintro o6 ⟨A13, c13⟩ ho
        subst ho
        have h : _ = some _ := h
        refine St.region ?_
        iterate 3 refine St.p rfl rfl ?_
        refine St.done ?_
        refine St.thenN ?_
        refine St.round ?_
        refine St.prune (Γ' := [(1, _), (4, _), (5, _), (6, _), (7, _)]) ⟨rfl, rfl, rfl, rfl, rfl, trivial⟩ (.k (.k (.k (.k (.k (.k (.k (.k .z)))))))) ?_
        refine St.seq ?_
        refine St.seq ?_
        refine St.region ?_
        refine St.p rfl rfl ?_
        refine St.p rfl rfl ?_
        refine St.done ?_
        refine St.thenN ?_
        refine St.prune (Γ' := [(1, _), (4, _), (5, _), (6, _), (7, _), (19, _)]) ⟨rfl, rfl, rfl, rfl, rfl, rfl, trivial⟩ (.k (.k (.k (.k (.k (.k (.k (.k .z)))))))) ?_
        refine St.condF rfl ?_
        refine St.exit ?_
        repeat (first | refine St.thenX ?_ | refine St.blkMiss rfl ?_)
        refine St.blkHit ?_
        refine St.thenN ?_
        refine St.prune (Γ' := [(1, _), (5, _), (6, _)]) ⟨rfl, rfl, rfl, trivial⟩ (.k (.k (.d (.k (.k (.k (.k (.k .z)))))))) ?_
        refine St.seq ?_
        refine St.seq ?_
        obtain ⟨o7, hj4, h⟩ := bnd_e h
        refine St.cutE (fun (e4 : Unit) => [(1, .pointer (some ⟨g1, 0, none⟩)), (5, .slice (some ⟨g3, 0, none⟩) 7 7), (6, .slice A13 o6.1.length c13), (60, .bool o7)]) (fun e4 => .res (OwnL eu8 5 A13 c13 o6.1) :: .res (Box g3 5 [.int .u8 1, .int .u8 0, .int .u8 o2.2, .int .u8 o4.2, .int .u8 o6.2, .int .u8 0, .int .u8 0]) :: .res (Box g1 28 (bx_T_Info i_p0 A1 c1 A2 c2 A3 c3 A4 c4)) :: .ro (SlL e_Field A1 c1 i_p0.Chassis.Fields) :: .ro (SlL e_Field A2 c2 i_p0.Board.Fields) :: .ro (SlL e_Field A3 c3 i_p0.Product.Fields) :: .ro (SlL eu8 A4 c4 i_p0.Multi) :: R) ?_ ?_
        · refine St.region ?_
          refine St.p rfl rfl ?_
          refine St.loadB 12 rfl rfl (.tail _ (.tail _ (.head _))) rfl rfl ?_
          iterate 3 refine St.p rfl rfl ?_
          refine St.gSplit (dj := 51) _ rfl (fun hb7 => ?_) (fun hb7 => ?_)
          · replace hj4 := bif_t hb7 hj4
            refine St.gOff (dj := 51) rfl rfl rfl rfl ?_
            refine St.gOff (dj := 51) rfl rfl rfl rfl ?_
            refine St.gOff (dj := 51) rfl rfl rfl rfl ?_
            refine St.gOff (dj := 51) rfl rfl rfl rfl ?_
            refine St.gOff (dj := 51) rfl rfl rfl rfl ?_
            refine St.gOff (dj := 51) rfl rfl rfl rfl ?_
            refine St.gOff (dj := 51) rfl rfl rfl rfl ?_
            refine St.gOff (dj := 51) rfl rfl rfl rfl ?_
            refine St.p rfl rfl ?_
            refine St.done ?_
            injection hj4 with hj4
            subst hj4
            refine St.thenN ?_
            exact St.hereE () ⟨rfl, rfl, rfl, rfl, trivial⟩ (fun _ w => ((.k (.k (.k (.k (.k (.k (.k .z))))))) : Keep _ _).sat w)
          · replace hj4 := bif_f hb7 hj4
            refine St.gOn (dj := 51) rfl rfl ?_
            refine St.p rfl rfl ?_
            refine St.gOn (dj := 51) rfl rfl ?_
            refine St.p rfl rfl ?_
            refine St.gOn (dj := 51) rfl rfl ?_
            refine St.p rfl rfl ?_
            refine St.gOn (dj := 51) rfl rfl ?_
            refine St.p rfl rfl ?_
            refine St.gOn (dj := 51) rfl rfl ?_
            refine St.loadB 12 rfl rfl (.tail _ (.tail _ (.head _))) rfl rfl ?_
            refine St.gOn (dj := 51) rfl rfl ?_
            refine St.p rfl rfl ?_
            refine St.gOn (dj := 51) rfl rfl ?_
            refine St.p rfl rfl ?_
            refine St.gOn (dj := 51) rfl rfl ?_
            refine St.p rfl rfl ?_
            refine St.p rfl rfl ?_
            refine St.done ?_
            injection hj4 with hj4
            subst hj4
            refine St.thenN ?_
            exact St.hereE () ⟨rfl, rfl, rfl, rfl, trivial⟩ (fun _ w => ((.k (.k (.k (.k (.k (.k (.k .z))))))) : Keep _ _).sat w)
        · rintro e4
          refine St.cond _ rfl (fun hb8 => ?_) (fun hb8 => ?_)
          · replace h := bif_t hb8 h
            refine St.seq ?_
            refine St.region ?_
            refine St.p rfl rfl ?_
            refine St.p rfl rfl ?_
            refine St.done ?_
            refine St.thenN ?_
            refine St.prune (Γ' := [(2, _), (3, _)]) ⟨rfl, rfl, trivial⟩ (.d (.d (.d (.d (.d (.d (.d .z))))))) ?_
            refine St.ret ?_
            repeat (first | refine St.thenR ?_ | refine St.blkR ?_)
            refine St.asrt (fun _ w => w.nilL eu8 5) ?_
            injection h with h
            subst h
            exact St.finR Tryd.results36 (.tmp rfl (.tmp rfl .nil)) rfl [.res (OwnL eu8 5 none 0 ([] : List Int))] ⟨none, 0, rfl, rfl⟩ (fun _ w => ((.k .z) : Keep _ _).sat w)
          · replace h := bif_f hb8 h
            refine St.skip ?_
            refine St.thenN ?_
            refine St.prune (Γ' := [(1, _), (5, _), (6, _)]) ⟨rfl, rfl, rfl, trivial⟩ (.k (.k (.k (.k (.k (.k (.k .z))))))) ?_
            refine St.seq ?_
            refine St.seq ?_
            refine St.region ?_
            refine St.p rfl rfl ?_
            refine St.loadB 12 rfl rfl (.tail _ (.tail _ (.head _))) rfl rfl ?_
            refine St.p rfl rfl ?_
            refine St.p rfl rfl ?_
            refine St.done ?_
            refine St.thenN ?_
            refine St.prune (Γ' := [(1, _), (5, _), (6, _), (64, _)]) ⟨rfl, rfl, rfl, rfl, trivial⟩ (.k (.k (.k (.k (.k (.k (.k .z))))))) ?_
            refine St.cond _ rfl (fun hb9 => ?_) (fun hb9 => ?_)
            · replace h := bif_t hb9 h
              refine St.region ?_
              iterate 6 refine St.p rfl rfl ?_
              refine St.ixB 5 rfl rfl rfl rfl rfl rfl rfl rfl rfl rfl ?_
              refine St.store 5 rfl rfl rfl rfl rfl rfl (.s .z) rfl ?_
              refine St.done ?_
              refine St.thenN ?_
              refine St.prune (Γ' := [(1, _), (5, _), (6, _)]) ⟨rfl, rfl, rfl, trivial⟩ (.k (.k (.k (.k (.k (.k (.k .z))))))) ?_
              refine St.seq ?_
              refine St.regionX (iL [(.fl, 0), (.fl, 2), (.fl, 4), (.fl, 5), (.ef, 1), (.ef, 3), (.ef, 6), (.fl, 7), (.fl, 8)] .nil) (.res (Box g1 28 (bx_T_Info i_p0 A1 c1 A2 c2 A3 c3 A4 c4)) :: .ro (SlL e_Field A1 c1 i_p0.Chassis.Fields) :: .ro (SlL e_Field A2 c2 i_p0.Board.Fields) :: .ro (SlL e_Field A3 c3 i_p0.Product.Fields) :: .ro (SlL eu8 A4 c4 i_p0.Multi) :: R) mixed (by kernel_rfl) (fun _ w => ((.d (.d (.k (.k (.k (.k (.k .z))))))) : Keep _ _).sat w) ?_
              refine St.xfl (fun _ h => h) (Rd.p rfl) rfl ?_
              refine St.xfl (fun _ h => h) (Rd.p rfl) rfl ?_
              refine St.xfl (fun _ h => h) (Rd.p rfl) rfl ?_
              refine St.xfl (fun _ h => h) (Rd.loadB 12 rfl (.head _) rfl rfl) rfl ?_
              refine St.xef ?_
              refine St.asrt (fun _ w => (w.front .z).litL (E := eu8) (e := 5) [1, 0, o2.2, o4.2, o6.2, IntKind.wrap .u8 (IntKind.wrap .i64 ((IntKind.wrap .i64 (8 + (o6.1.length : Int))).tdiv 8)), 0] rfl rfl) ?_
              refine St.asrt (fun _ w => (w.front .z).meltL) ?_
              obtain ⟨r4, hr4, h⟩ := bnd_e h
              refine St.call (c_ref01_Seal8 hr4) ent52 rfl rfl rfl (fun _ w => Sat.dup (G := [.ro (SlL eu8 (some ⟨g3, 0, none⟩) ([1, 0, o2.2, o4.2, o6.2, IntKind.wrap .u8 (IntKind.wrap .i64 ((IntKind.wrap .i64 (8 + (o6.1.length : Int))).tdiv 8)), 0] : List Int).length ([1, 0, o2.2, o4.2, o6.2, IntKind.wrap .u8 (IntKind.wrap .i64 ((IntKind.wrap .i64 (8 + (o6.1.length : Int))).tdiv 8)), 0]))]) rfl ⟨(.head _), trivial⟩ w) ?_
              rintro _ _ ⟨A17, c17, rfl, rfl⟩
              refine St.asrt (F' := .res (OwnL eu8 5 A17 c17 r4) :: .ro (SlL eu8 (some ⟨g3, 0, none⟩) ([1, 0, o2.2, o4.2, o6.2, IntKind.wrap .u8 (IntKind.wrap .i64 ((IntKind.wrap .i64 (8 + (o6.1.length : Int))).tdiv 8)), 0] : List Int).length ([1, 0, o2.2, o4.2, o6.2, IntKind.wrap .u8 (IntKind.wrap .i64 ((IntKind.wrap .i64 (8 + (o6.1.length : Int))).tdiv 8)), 0])) :: .res (OwnL eu8 5 A13 c13 o6.1) :: .res (Box g1 28 (bx_T_Info i_p0 A1 c1 A2 c2 A3 c3 A4 c4)) :: .ro (SlL e_Field A1 c1 i_p0.Chassis.Fields) :: .ro (SlL e_Field A2 c2 i_p0.Board.Fields) :: .ro (SlL e_Field A3 c3 i_p0.Product.Fields) :: .ro (SlL eu8 A4 c4 i_p0.Multi) :: R) (fun _ w => w) ?_
              refine St.xk (fun _ w => ((.d (.d (.d (.k (.k (.k (.k (.k .z)))))))) : Keep _ _).sat w) ?_
              refine St.xef ?_
              refine St.asrt (fun _ w => (w.front (.s (.s .z))).meltL) ?_
              obtain ⟨l7, hl7, h⟩ := bnd_e h
              refine St.app (E := eu8) hl7 rfl rfl rfl (.s .z) rfl rfl rfl rfl rfl rfl rfl rfl (srcL (.head _)) rfl rfl fun A18 c18 => ?_
              refine St.xk (fun _ w => ((.d (.d (.d (.k (.k (.k (.k (.k .z)))))))) : Keep _ _).sat w) ?_
              refine St.xef ?_
              obtain ⟨l8, hl8, h⟩ := bnd_e h
              refine St.app (E := eu8) hl8 rfl rfl rfl .z rfl rfl rfl rfl rfl rfl rfl rfl (srcL (.tail _ (.tail _ (.tail _ (.tail _ (.tail _ (.tail _ (.tail _ (.head _))))))))) rfl rfl fun A19 c19 => ?_
              refine St.xk (fun _ w => ((.d (.d (.d (.k (.k (.k (.k (.k .z)))))))) : Keep _ _).sat w) ?_
              refine St.xfl (fun _ h => h) (Rd.p rfl) rfl ?_
              refine St.xfl (fun _ h => h) (Rd.p rfl) rfl ?_
              refine St.xdone ?_
              refine St.thenN ?_
              refine St.prune (Γ' := [(2, _), (3, _)]) ⟨rfl, rfl, trivial⟩ (.k (.d (.d (.d (.d (.d (.d (.d .z)))))))) ?_
              refine St.ret ?_
              repeat (first | refine St.thenR ?_ | refine St.blkR ?_)
              injection h with h
              subst h
              exact St.finR Tryd.results36 (.tmp rfl (.tmp rfl .nil)) rfl [.res (OwnL eu8 5 A19 c19 l8)] ⟨A19, c19, rfl, rfl⟩ (fun _ w => ((.k .z) : Keep _ _).sat w)
            · replace h := bif_f hb9 h
              refine St.skip ?_
              refine St.thenN ?_
              refine St.prune (Γ' := [(1, _), (5, _), (6, _)]) ⟨rfl, rfl, rfl, trivial⟩ (.k (.k (.k (.k (.k (.k (.k .z))))))) ?_
              refine St.seq ?_
              refine St.regionX (iL [(.fl, 0), (.fl, 2), (.fl, 4), (.fl, 5), (.ef, 1), (.ef, 3), (.ef, 6), (.fl, 7), (.fl, 8)] .nil) (.res (Box g1 28 (bx_T_Info i_p0 A1 c1 A2 c2 A3 c3 A4 c4)) :: .ro (SlL e_Field A1 c1 i_p0.Chassis.Fields) :: .ro (SlL e_Field A2 c2 i_p0.Board.Fields) :: .ro (SlL e_Field A3 c3 i_p0.Product.Fields) :: .ro (SlL eu8 A4 c4 i_p0.Multi) :: R) mixed (by kernel_rfl) (fun _ w => ((.d (.d (.k (.k (.k (.k (.k .z))))))) : Keep _ _).sat w) ?_
              refine St.xfl (fun _ h => h) (Rd.p rfl) rfl ?_
              refine St.xfl (fun _ h => h) (Rd.p rfl) rfl ?_
              refine St.xfl (fun _ h => h) (Rd.p rfl) rfl ?_
              refine St.xfl (fun _ h => h) (Rd.loadB 12 rfl (.head _) rfl rfl) rfl ?_
              refine St.xef ?_
              refine St.asrt (fun _ w => (w.front (.s .z)).litL (E := eu8) (e := 5) [1, 0, o2.2, o4.2, o6.2, 0, 0] rfl rfl) ?_
              refine St.asrt (fun _ w => (w.front .z).meltL) ?_
              obtain ⟨r5, hr5, h⟩ := bnd_e h
              refine St.call (c_ref01_Seal8 hr5) ent52 rfl rfl rfl (fun _ w => Sat.dup (G := [.ro (SlL eu8 (some ⟨g3, 0, none⟩) ([1, 0, o2.2, o4.2, o6.2, 0, 0] : List Int).length ([1, 0, o2.2, o4.2, o6.2, 0, 0]))]) rfl ⟨(.head _), trivial⟩ w) ?_
              rintro _ _ ⟨A20, c20, rfl, rfl⟩
              refine St.asrt (F' := .res (OwnL eu8 5 A20 c20 r5) :: .ro (SlL eu8 (some ⟨g3, 0, none⟩) ([1, 0, o2.2, o4.2, o6.2, 0, 0] : List Int).length ([1, 0, o2.2, o4.2, o6.2, 0, 0])) :: .res (OwnL eu8 5 A13 c13 o6.1) :: .res (Box g1 28 (bx_T_Info i_p0 A1 c1 A2 c2 A3 c3 A4 c4)) :: .ro (SlL e_Field A1 c1 i_p0.Chassis.Fields) :: .ro (SlL e_Field A2 c2 i_p0.Board.Fields) :: .ro (SlL e_Field A3 c3 i_p0.Product.Fields) :: .ro (SlL eu8 A4 c4 i_p0.Multi) :: R) (fun _ w => w) ?_
              refine St.xk (fun _ w => ((.d (.d (.d (.k (.k (.k (.k (.k .z)))))))) : Keep _ _).sat w) ?_
              refine St.xef ?_
              refine St.asrt (fun _ w => (w.front (.s (.s .z))).meltL) ?_
              obtain ⟨l9, hl9, h⟩ := bnd_e h
              refine St.app (E := eu8) hl9 rfl rfl rfl (.s .z) rfl rfl rfl rfl rfl rfl rfl rfl (srcL (.head _)) rfl rfl fun A21 c21 => ?_
              refine St.xk (fun _ w => ((.d (.d (.d (.k (.k (.k (.k (.k .z)))))))) : Keep _ _).sat w) ?_
              refine St.xef ?_
              obtain ⟨l10, hl10, h⟩ := bnd_e h
              refine St.app (E := eu8) hl10 rfl rfl rfl .z rfl rfl rfl rfl rfl rfl rfl rfl (srcL (.tail _ (.tail _ (.tail _ (.tail _ (.tail _ (.tail _ (.tail _ (.head _))))))))) rfl rfl fun A22 c22 => ?_
              refine St.xk (fun _ w => ((.d (.d (.d (.k (.k (.k (.k (.k .z)))))))) : Keep _ _).sat w) ?_
              refine St.xfl (fun _ h => h) (Rd.p rfl) rfl ?_
              refine St.xfl (fun _ h => h) (Rd.p rfl) rfl ?_
              refine St.xdone ?_
              refine St.thenN ?_
              refine St.prune (Γ' := [(2, _), (3, _)]) ⟨rfl, rfl, trivial⟩ (.k (.d (.d (.d (.d (.d (.d (.d .z)))))))) ?_
              refine St.ret ?_
              repeat (first | refine St.thenR ?_ | refine St.blkR ?_)
              injection h with h
              subst h
              exact St.finR Tryd.results36 (.tmp rfl (.tmp rfl .nil)) rfl [.res (OwnL eu8 5 A22 c22 l10)] ⟨A22, c22, rfl, rfl⟩ (fun _ w => ((.k .z) : Keep _ _).sat w)

theorem ent17 : Ent Tryd.prog 17 := ⟨_, Tryd.func17, by kernel_rfl, by kernel_rfl⟩

noncomputable def m_ref17_Valid (i_p0 : T_Info) : Option Bool :=
  bnd (m_ref17_bytes i_p0) fun r1 => some r1.2

theorem c_ref17_Valid {i_p0 : T_Info} {A1 : Option Addr} {c1 : Nat} {A2 : Option Addr} {c2 : Nat} {A3 : Option Addr} {c3 : Nat} {A4 : Option Addr} {c4 : Nat} {r : Bool} (h : m_ref17_Valid i_p0 = some r) :
    Fun Tryd.prog 17 [.agg (bx_T_Info i_p0 A1 c1 A2 c2 A3 c3 A4 c4).toArray] [.ro (SlL e_Field A1 c1 i_p0.Chassis.Fields), .ro (SlL e_Field A2 c2 i_p0.Board.Fields), .ro (SlL e_Field A3 c3 i_p0.Product.Fields), .ro (SlL eu8 A4 c4 i_p0.Multi)] (Val (.bool r)) := by
  unfold m_ref17_Valid at h
  refine Fun.intro Tryd.func17 rfl rfl rfl fun w R => ?_
  refine St.seq ?_
  refine St.region ?_
  refine St.box rfl rfl fun g1 => ?_
  refine St.p rfl rfl ?_
  refine St.done ?_
  refine St.thenN ?_
  refine St.prune (Γ' := [(1, _)]) ⟨rfl, trivial⟩ (.k (.k (.k (.k (.k .z))))) ?_
  refine St.seq ?_
  refine St.region ?_
  refine St.loadB 0 rfl rfl (.head _) rfl rfl ?_
  obtain ⟨r1, hr1, h⟩ := bnd_e h
  refine St.call (c_ref17_bytes hr1) ent36 rfl rfl rfl (fun _ w => Sat.dup (G := [.ro (SlL e_Field A1 c1 i_p0.Chassis.Fields), .ro (SlL e_Field A2 c2 i_p0.Board.Fields), .ro (SlL e_Field A3 c3 i_p0.Product.Fields), .ro (SlL eu8 A4 c4 i_p0.Multi)]) rfl ⟨(.tail _ (.head _)), (.tail _ (.tail _ (.head _))), (.tail _ (.tail _ (.tail _ (.head _)))), (.tail _ (.tail _ (.tail _ (.tail _ (.head _))))), trivial⟩ w) ?_
  rintro _ _ ⟨A5, c5, rfl, rfl⟩
  refine St.asrt (F' := .res (OwnL eu8 5 A5 c5 r1.1) :: .res (Box g1 28 (bx_T_Info i_p0 A1 c1 A2 c2 A3 c3 A4 c4)) :: .ro (SlL e_Field A1 c1 i_p0.Chassis.Fields) :: .ro (SlL e_Field A2 c2 i_p0.Board.Fields) :: .ro (SlL e_Field A3 c3 i_p0.Product.Fields) :: .ro (SlL eu8 A4 c4 i_p0.Multi) :: R) (fun _ w => w) ?_
  iterate 5 refine St.p rfl rfl ?_
  refine St.done ?_
  refine St.thenN ?_
  refine St.prune (Γ' := [(4, _)]) ⟨rfl, trivial⟩ (.d (.d (.d (.d (.d (.d .z)))))) ?_
  refine St.seq ?_
  refine St.region ?_
  refine St.p rfl rfl ?_
  refine St.p rfl rfl ?_
  refine St.done ?_
  refine St.thenN ?_
  refine St.prune (Γ' := [(2, _)]) ⟨rfl, trivial⟩ .z ?_
  refine St.ret ?_
  repeat (first | refine St.thenR ?_ | refine St.blkR ?_)
  injection h with h
  subst h
  exact St.finR Tryd.results17 (.tmp rfl .nil) rfl [] ⟨rfl, rfl⟩ (fun _ w => (.z : Keep _ _).sat w)

theorem ent12 : Ent Tryd.prog 12 := ⟨_, Tryd.func12, by kernel_rfl, by kernel_rfl⟩

noncomputable def m_made_Dice_Info (d_p0 : T_Dice) : Option (T_Dice × T_Info) :=
  bnd (m_made_Dice_Area d_p0 2 false) fun r1 => bnd (m_made_Dice_Area r1.1 5 true) fun r2 => bnd (m_made_Dice_Area r2.1 7 false) fun r3 => bnd (m_made_Dice_Bytes r3.1 20) fun r4 => bnd (m_ref17_Valid (⟨r1.2, r2.2, r3.2, r4.2⟩ : T_Info)) fun r5 => bif !r5 then (some (r4.1, (⟨r1.2, (⟨false, 0, 0, []⟩ : T_Area), (⟨false, 0, 0, []⟩ : T_Area), r4.2⟩ : T_Info))) else (some (r4.1, (⟨r1.2, r2.2, r3.2, r4.2⟩ : T_Info)))

theorem c_made_Dice_Info {d_p0 : T_Dice} {A1 : Option Addr} {c1 : Nat} {gb1 : Nat} {r : (T_Dice × T_Info)} (h : m_made_Dice_Info d_p0 = some r) :
    Fun Tryd.prog 12 [.pointer (some ⟨gb1, 0, none⟩)] [.ro (SlL ei64 A1 c1 d_p0.L), .res (Box gb1 62 [.slice A1 d_p0.L.length c1, .int .i64 d_p0.At])] (fun v_ F_ => ∃ (A1 : Option Addr) (c1 : Nat) (A2 : Option Addr) (c2 : Nat) (A3 : Option Addr) (c3 : Nat) (A4 : Option Addr) (c4 : Nat) (A5 : Option Addr) (c5 : Nat), v_ = .agg (bx_T_Info r.2 A2 c2 A3 c3 A4 c4 A5 c5).toArray ∧ F_ = [.ro (SlL ei64 A1 c1 r.1.L), .ro (SlL e_Field A2 c2 r.2.Chassis.Fields), .ro (SlL e_Field A3 c3 r.2.Board.Fields), .ro (SlL e_Field A4 c4 r.2.Product.Fields), .ro (SlL eu8 A5 c5 r.2.Multi), .res (Box gb1 62 [.slice A1 r.1.L.length c1, .int .i64 r.1.At])]) := by
  unfold m_made_Dice_Info at h
  refine Fun.intro Tryd.func12 rfl rfl rfl fun w R => ?_
  refine St.seq ?_
  refine St.region ?_
  refine St.alloc rfl rfl fun g1 => ?_
  refine St.done ?_
  refine St.thenN ?_
  refine St.seq ?_
  refine St.region ?_
  refine St.p rfl rfl ?_
  obtain ⟨r1, hr1, h⟩ := bnd_e h
  refine St.call (c_made_Dice_Area hr1) ent32 rfl rfl rfl (fun _ w => Sat.dup (G := [.ro (SlL ei64 A1 c1 d_p0.L)]) rfl ⟨(.tail _ (.tail _ (.head _))), trivial⟩ (w.front (.s (.s .z)))) ?_
  rintro _ _ ⟨A2, c2, A3, c3, rfl, rfl⟩
  refine St.asrt (F' := .ro (SlL ei64 A2 c2 r1.1.L) :: .ro (SlL e_Field A3 c3 r1.2.Fields) :: .res (Box gb1 62 [.slice A2 r1.1.L.length c2, .int .i64 r1.1.At]) :: .res (Box g1 28 [.bool false, .int .u8 0, .int .u32 0, .slice none 0 0, .bool false, .int .u8 0, .int .u32 0, .slice none 0 0, .bool false, .int .u8 0, .int .u32 0, .slice none 0 0, .slice none 0 0]) :: .ro (SlL ei64 A1 c1 d_p0.L) :: R) (fun _ w => w) ?_
  refine St.p rfl rfl ?_
  obtain ⟨r2, hr2, h⟩ := bnd_e h
  refine St.call (c_made_Dice_Area hr2) ent32 rfl rfl rfl (fun _ w => Sat.dup (G := [.ro (SlL ei64 A2 c2 r1.1.L)]) rfl ⟨(.tail _ (.head _)), trivial⟩ (w.front (.s (.s .z)))) ?_
  rintro _ _ ⟨A4, c4, A5, c5, rfl, rfl⟩
  refine St.asrt (F' := .ro (SlL ei64 A4 c4 r2.1.L) :: .ro (SlL e_Field A5 c5 r2.2.Fields) :: .res (Box gb1 62 [.slice A4 r2.1.L.length c4, .int .i64 r2.1.At]) :: .ro (SlL ei64 A2 c2 r1.1.L) :: .ro (SlL e_Field A3 c3 r1.2.Fields) :: .res (Box g1 28 [.bool false, .int .u8 0, .int .u32 0, .slice none 0 0, .bool false, .int .u8 0, .int .u32 0, .slice none 0 0, .bool false, .int .u8 0, .int .u32 0, .slice none 0 0, .slice none 0 0]) :: .ro (SlL ei64 A1 c1 d_p0.L) :: R) (fun _ w => w) ?_
  refine St.p rfl rfl ?_
  obtain ⟨r3, hr3, h⟩ := bnd_e h
  refine St.call (c_made_Dice_Area hr3) ent32 rfl rfl rfl (fun _ w => Sat.dup (G := [.ro (SlL ei64 A4 c4 r2.1.L)]) rfl ⟨(.tail _ (.head _)), trivial⟩ (w.front (.s (.s .z)))) ?_
  rintro _ _ ⟨A6, c6, A7, c7, rfl, rfl⟩
  refine St.asrt (F' := .ro (SlL ei64 A6 c6 r3.1.L) :: .ro (SlL e_Field A7 c7 r3.2.Fields) :: .res (Box gb1 62 [.slice A6 r3.1.L.length c6, .int .i64 r3.1.At]) :: .ro (SlL ei64 A4 c4 r2.1.L) :: .ro (SlL e_Field A5 c5 r2.2.Fields) :: .ro (SlL ei64 A2 c2 r1.1.L) :: .ro (SlL e_Field A3 c3 r1.2.Fields) :: .res (Box g1 28 [.bool false, .int .u8 0, .int .u32 0, .slice none 0 0, .bool false, .int .u8 0, .int .u32 0, .slice none 0 0, .bool false, .int .u8 0, .int .u32 0, .slice none 0 0, .slice none 0 0]) :: .ro (SlL ei64 A1 c1 d_p0.L) :: R) (fun _ w => w) ?_
  refine St.p rfl rfl ?_
  obtain ⟨r4, hr4, h⟩ := bnd_e h
  refine St.call (c_made_Dice_Bytes hr4) ent33 rfl rfl rfl (fun _ w => Sat.dup (G := [.ro (SlL ei64 A6 c6 r3.1.L)]) rfl ⟨(.tail _ (.head _)), trivial⟩ (w.front (.s (.s .z)))) ?_
  rintro _ _ ⟨A8, c8, A9, c9, rfl, rfl⟩
  refine St.asrt (F' := .ro (SlL ei64 A8 c8 r4.1.L) :: .res (Box gb1 62 [.slice A8 r4.1.L.length c8, .int .i64 r4.1.At]) :: .res (OwnL eu8 5 A9 c9 r4.2) :: .ro (SlL ei64 A6 c6 r3.1.L) :: .ro (SlL e_Field A7 c7 r3.2.Fields) :: .ro (SlL ei64 A4 c4 r2.1.L) :: .ro (SlL e_Field A5 c5 r2.2.Fields) :: .ro (SlL ei64 A2 c2 r1.1.L) :: .ro (SlL e_Field A3 c3 r1.2.Fields) :: .res (Box g1 28 [.bool false, .int .u8 0, .int .u32 0, .slice none 0 0, .bool false, .int .u8 0, .int .u32 0, .slice none 0 0, .bool false, .int .u8 0, .int .u32 0, .slice none 0 0, .slice none 0 0]) :: .ro (SlL ei64 A1 c1 d_p0.L) :: R) (fun _ w => w) ?_
  refine St.p rfl rfl ?_
  refine St.alloc rfl rfl fun g2 => ?_
  refine St.store 0 rfl rfl rfl rfl rfl rfl .z rfl ?_
  refine St.done ?_
  refine St.thenN ?_
  refine St.prune (Γ' := [(2, _), (3, _)]) ⟨rfl, rfl, trivial⟩ (.k (.k (.k (.k (.d (.k (.d (.k (.d (.k (.k (.d .z)))))))))))) ?_
  refine St.seq ?_
  refine St.seq ?_
  refine St.region ?_
  refine St.loadB 0 rfl rfl (.head _) rfl rfl ?_
  refine St.asrt (fun _ w => (w.front (.s (.s (.s .z)))).meltL) ?_
  obtain ⟨r5, hr5, h⟩ := bnd_e h
  refine St.callV (c_ref17_Valid hr5) ent17 rfl rfl rfl rfl ⟨(.tail _ (.tail _ (.tail _ (.tail _ (.tail _ (.tail _ (.head _))))))), (.tail _ (.tail _ (.tail _ (.tail _ (.tail _ (.head _)))))), (.tail _ (.tail _ (.tail _ (.tail _ (.head _))))), (.head _), trivial⟩ ?_
  refine St.p rfl rfl ?_
  refine St.done ?_
  refine St.thenN ?_
  refine St.prune (Γ' := [(2, _), (3, _), (15, _)]) ⟨rfl, rfl, rfl, trivial⟩ (.k (.k (.k (.k (.k (.k (.k (.k .z)))))))) ?_
  refine St.cond _ rfl (fun hb1 => ?_) (fun hb1 => ?_)
  · replace h := bif_t hb1 h
    refine St.region ?_
    iterate 3 refine St.p rfl rfl ?_
    refine St.store 4 rfl rfl rfl rfl rfl rfl (.s .z) rfl ?_
    refine St.p rfl rfl ?_
    refine St.store 8 rfl rfl rfl rfl rfl rfl .z rfl ?_
    refine St.done ?_
    refine St.thenN ?_
    refine St.prune (Γ' := [(2, _), (3, _)]) ⟨rfl, rfl, trivial⟩ (.k (.k (.k (.k (.d (.d (.k (.k .z)))))))) ?_
    refine St.seq ?_
    refine St.region ?_
    refine St.loadB 0 rfl rfl (.head _) rfl rfl ?_
    refine St.store 0 rfl rfl rfl rfl rfl rfl (.s (.s (.s (.s (.s .z))))) rfl ?_
    refine St.done ?_
    refine St.thenN ?_
    refine St.prune (Γ' := [(2, _)]) ⟨rfl, trivial⟩ (.k (.d (.k (.k (.k (.k .z)))))) ?_
    refine St.ret ?_
    repeat (first | refine St.thenR ?_ | refine St.blkR ?_)
    refine St.asrt (fun _ w => w.nilSl (cod e_Field)) ?_
    refine St.asrt (fun _ w => w.nilSl (cod e_Field)) ?_
    injection h with h
    subst h
    exact St.finR Tryd.results12 (.cell rfl (.tail _ (.tail _ (.head _))) rfl .nil) rfl [.ro (SlL ei64 A8 c8 r4.1.L), .ro (SlL e_Field A3 c3 r1.2.Fields), .ro (SlL e_Field none 0 ([] : List T_Field)), .ro (SlL e_Field none 0 ([] : List T_Field)), .ro (SlL eu8 A9 c9 r4.2), .res (Box gb1 62 [.slice A8 r4.1.L.length c8, .int .i64 r4.1.At])] ⟨A8, c8, A3, c3, none, 0, none, 0, A9, c9, rfl, rfl⟩ (fun _ w => ((.k (.k (.k (.k (.k (.k (.d (.d (.d (.d (.d (.d .z)))))))))))) : Keep _ _).sat (Sat.dup (G := [.ro (SlL ei64 A8 c8 r4.1.L), .ro (SlL e_Field A3 c3 r1.2.Fields), .ro (SlL e_Field none 0 ([] : List T_Field)), .ro (SlL e_Field none 0 ([] : List T_Field)), .ro (SlL eu8 A9 c9 r4.2)]) rfl ⟨(.tail _ (.tail _ (.tail _ (.tail _ (.tail _ (.head _)))))), (.tail _ (.tail _ (.tail _ (.tail _ (.tail _ (.tail _ (.head _))))))), (.tail _ (.head _)), (.tail _ (.head _)), (.tail _ (.tail _ (.tail _ (.tail _ (.head _))))), trivial⟩ (w.front (.s (.s (.s (.s (.s .z))))))))
  · replace h := bif_f hb1 h
    refine St.skip ?_
    refine St.thenN ?_
    refine St.prune (Γ' := [(2, _), (3, _)]) ⟨rfl, rfl, trivial⟩ (.k (.k (.k (.k (.k (.k (.k (.k .z)))))))) ?_
    refine St.seq ?_
    refine St.region ?_
    refine St.loadB 0 rfl rfl (.tail _ (.head _)) rfl rfl ?_
    refine St.store 0 rfl rfl rfl rfl rfl rfl (.s (.s (.s (.s (.s (.s (.s .z))))))) rfl ?_
    refine St.done ?_
    refine St.thenN ?_
    refine St.prune (Γ' := [(2, _)]) ⟨rfl, trivial⟩ (.k (.k (.d (.k (.k (.k (.k (.k .z)))))))) ?_
    refine St.ret ?_
    repeat (first | refine St.thenR ?_ | refine St.blkR ?_)
    injection h with h
    subst h
    exact St.finR Tryd.results12 (.cell rfl (.head _) rfl .nil) rfl [.ro (SlL ei64 A8 c8 r4.1.L), .ro (SlL e_Field A3 c3 r1.2.Fields), .ro (SlL e_Field A5 c5 r2.2.Fields), .ro (SlL e_Field A7 c7 r3.2.Fields), .ro (SlL eu8 A9 c9 r4.2), .res (Box gb1 62 [.slice A8 r4.1.L.length c8, .int .i64 r4.1.At])] ⟨A8, c8, A3, c3, A5, c5, A7, c7, A9, c9, rfl, rfl⟩ (fun _ w => ((.k (.k (.k (.k (.k (.k (.d (.d (.d (.d (.d (.d .z)))))))))))) : Keep _ _).sat (Sat.dup (G := [.ro (SlL ei64 A8 c8 r4.1.L), .ro (SlL e_Field A3 c3 r1.2.Fields), .ro (SlL e_Field A5 c5 r2.2.Fields), .ro (SlL e_Field A7 c7 r3.2.Fields), .ro (SlL eu8 A9 c9 r4.2)]) rfl ⟨(.tail _ (.tail _ (.tail _ (.head _)))), (.tail _ (.tail _ (.tail _ (.tail _ (.tail _ (.tail _ (.head _))))))), (.tail _ (.tail _ (.tail _ (.tail _ (.tail _ (.head _)))))), (.tail _ (.tail _ (.tail _ (.tail _ (.head _))))), (.tail _ (.tail _ (.head _))), trivial⟩ (w.front (.s (.s (.s .z))))))

theorem ent19 : Ent Tryd.prog 19 := ⟨_, Tryd.func19, by kernel_rfl, by kernel_rfl⟩

noncomputable def m_unitinfo_Serial (i_p0 : T_Info) : Option ByteArray :=
  bnd ((bif i_p0.Product.Present then (bif decide (4 < (i_p0.Product.Fields.length : Int)) then (bnd (elt i_p0.Product.Fields 4) fun x1 => some (!(x1.Value.toList == ((⟨#[]⟩) : ByteArray).toList))) else (some false)) else (some false) : Option Bool)) fun o1 => bif o1 then (bnd (elt i_p0.Product.Fields 4) fun x2 => some x2.Value) else (bnd ((bif i_p0.Board.Present then (bif decide (2 < (i_p0.Board.Fields.length : Int)) then (bnd (elt i_p0.Board.Fields 2) fun x3 => some (!(x3.Value.toList == ((⟨#[]⟩) : ByteArray).toList))) else (some false)) else (some false) : Option Bool)) fun o2 => bif o2 then (bnd (elt i_p0.Board.Fields 2) fun x4 => some x4.Value) else (bnd ((bif i_p0.Chassis.Present then (bif decide (1 < (i_p0.Chassis.Fields.length : Int)) then (bnd (elt i_p0.Chassis.Fields 1) fun x5 => some (!(x5.Value.toList == ((⟨#[]⟩) : ByteArray).toList))) else (some false)) else (some false) : Option Bool)) fun o3 => bif o3 then (bnd (elt i_p0.Chassis.Fields 1) fun x6 => some x6.Value) else (some (⟨#[]⟩))))

set_option maxHeartbeats 4000000 in
theorem c_unitinfo_Serial {i_p0 : T_Info} {A1 : Option Addr} {c1 : Nat} {A2 : Option Addr} {c2 : Nat} {A3 : Option Addr} {c3 : Nat} {A4 : Option Addr} {c4 : Nat} {r : ByteArray} (h : m_unitinfo_Serial i_p0 = some r) :
    Fun Tryd.prog 19 [.agg (bx_T_Info i_p0 A1 c1 A2 c2 A3 c3 A4 c4).toArray] [.ro (SlL e_Field A1 c1 i_p0.Chassis.Fields), .ro (SlL e_Field A2 c2 i_p0.Board.Fields), .ro (SlL e_Field A3 c3 i_p0.Product.Fields), .ro (SlL eu8 A4 c4 i_p0.Multi)] (Val (.string r)) := by
  unfold m_unitinfo_Serial at h
  refine Fun.intro Tryd.func19 rfl rfl rfl fun w R => ?_
  refine St.seq ?_
  refine St.region ?_
  refine St.box rfl rfl fun g1 => ?_
  refine St.p rfl rfl ?_
  refine St.done ?_
  refine St.thenN ?_
  refine St.prune (Γ' := [(1, _)]) ⟨rfl, trivial⟩ (.k (.k (.k (.k (.k .z))))) ?_
  refine St.seq ?_
  refine St.seq ?_
  refine St.region ?_
  refine St.p rfl rfl ?_
  refine St.loadB 8 rfl rfl (.head _) rfl rfl ?_
  refine St.p rfl rfl ?_
  refine St.p rfl rfl ?_
  refine St.loadB 4 rfl rfl (.head _) rfl rfl ?_
  refine St.p rfl rfl ?_
  refine St.p rfl rfl ?_
  refine St.loadB 0 rfl rfl (.head _) rfl rfl ?_
  refine St.p rfl rfl ?_
  refine St.buildSlice rfl rfl rfl rfl rfl rfl rfl rfl fun g2 => ?_
  refine St.p rfl rfl ?_
  refine St.p rfl rfl ?_
  refine St.done ?_
  refine St.thenN ?_
  refine St.prune (Γ' := [(14, _), (15, _), (16, _)]) ⟨rfl, rfl, rfl, trivial⟩ (.k (.d (.k (.k (.k (.d .z)))))) ?_
  refine St.block ?_
  refine St.rounds 9 ?_
  refine St.round ?_
  refine St.seq ?_
  refine St.region ?_
  refine St.p rfl rfl ?_
  refine St.done ?_
  refine St.thenN ?_
  refine St.seq ?_
  refine St.condT rfl ?_
  refine St.skip ?_
  refine St.thenN ?_
  refine St.prune (Γ' := [(14, _), (15, _), (16, _)]) ⟨rfl, rfl, rfl, trivial⟩ (.k (.k (.k (.k .z)))) ?_
  refine St.seq ?_
  refine St.block ?_
  refine St.seq ?_
  refine St.region ?_
  refine St.ixB 0 rfl rfl rfl rfl rfl rfl rfl rfl rfl rfl ?_
  refine St.loadB 0 rfl rfl (.head _) rfl rfl ?_
  refine St.alloc rfl rfl fun g3 => ?_
  refine St.store 0 rfl rfl rfl rfl rfl rfl .z rfl ?_
  refine St.done ?_
  refine St.thenN ?_
  refine St.prune (Γ' := [(4, _), (14, _), (15, _), (16, _)]) ⟨rfl, rfl, rfl, rfl, trivial⟩ (.k (.k (.k (.k (.k .z))))) ?_
  refine St.seq ?_
  obtain ⟨o1, hj1, h⟩ := bnd_e h
  refine St.cutE (fun (e1 : Unit) => [(4, .pointer (some ⟨g3, 0, none⟩)), (14, .slice (some ⟨g2, 0, none⟩) 3 3), (15, .int .i64 ((3 : Nat) : Int)), (16, .int .i64 0), (42, .bool o1)]) (fun e1 => .res (Box g3 72 [.bool i_p0.Product.Present, .int .u8 i_p0.Product.Code, .int .u32 i_p0.Product.Minutes, .slice A3 i_p0.Product.Fields.length c3, .int .i64 4]) :: .res (Box g2 72 [.bool i_p0.Product.Present, .int .u8 i_p0.Product.Code, .int .u32 i_p0.Product.Minutes, .slice A3 i_p0.Product.Fields.length c3, .int .i64 4, .bool i_p0.Board.Present, .int .u8 i_p0.Board.Code, .int .u32 i_p0.Board.Minutes, .slice A2 i_p0.Board.Fields.length c2, .int .i64 2, .bool i_p0.Chassis.Present, .int .u8 i_p0.Chassis.Code, .int .u32 i_p0.Chassis.Minutes, .slice A1 i_p0.Chassis.Fields.length c1, .int .i64 1]) :: .ro (SlL e_Field A1 c1 i_p0.Chassis.Fields) :: .ro (SlL e_Field A2 c2 i_p0.Board.Fields) :: .ro (SlL e_Field A3 c3 i_p0.Product.Fields) :: R) ?_ ?_
  · refine St.region ?_
    refine St.p rfl rfl ?_
    refine St.p rfl rfl ?_
    refine St.loadB 0 rfl rfl (.head _) rfl rfl ?_
    refine St.p rfl rfl ?_
    refine St.gSplit (dj := 23) _ rfl (fun hb1 => ?_) (fun hb1 => ?_)
    · replace hj1 := bif_t hb1 hj1
      refine St.gOn (dj := 23) rfl rfl ?_
      refine St.p rfl rfl ?_
      refine St.gOn (dj := 23) rfl rfl ?_
      refine St.loadB 4 rfl rfl (.head _) rfl rfl ?_
      refine St.gOn (dj := 23) rfl rfl ?_
      refine St.p rfl rfl ?_
      refine St.gOn (dj := 23) rfl rfl ?_
      refine St.p rfl rfl ?_
      refine St.gOn (dj := 23) rfl rfl ?_
      refine St.loadB 3 rfl rfl (.head _) rfl rfl ?_
      refine St.gOn (dj := 23) rfl rfl ?_
      refine St.p rfl rfl ?_
      refine St.gOn (dj := 23) rfl rfl ?_
      iterate 3 refine St.p rfl rfl ?_
      refine St.gSplit (dj := 32) _ rfl (fun hb2 => ?_) (fun hb2 => ?_)
      · replace hj1 := bif_t hb2 hj1
        refine St.gOn (dj := 32) rfl rfl ?_
        refine St.p rfl rfl ?_
        refine St.gOn (dj := 32) rfl rfl ?_
        refine St.p rfl rfl ?_
        refine St.gOn (dj := 32) rfl rfl ?_
        refine St.loadB 3 rfl rfl (.head _) rfl rfl ?_
        refine St.gOn (dj := 32) rfl rfl ?_
        refine St.p rfl rfl ?_
        refine St.gOn (dj := 32) rfl rfl ?_
        refine St.loadB 4 rfl rfl (.head _) rfl rfl ?_
        refine St.gOn (dj := 32) rfl rfl ?_
        obtain ⟨x1, hx1, hj1⟩ := bnd_e hj1
        refine St.ixL hx1 rfl rfl rfl (.tail _ (.tail _ (.tail _ (.tail _ (.head _))))) rfl rfl rfl rfl rfl fun b1 ob1 => ?_
        refine St.gOn (dj := 32) rfl rfl ?_
        refine St.p rfl rfl ?_
        refine St.gOn (dj := 32) rfl rfl ?_
        refine St.load ob1 1 rfl rfl (.head _) rfl rfl ?_
        refine St.gOn (dj := 32) rfl rfl ?_
        refine St.p rfl rfl ?_
        refine St.p rfl rfl ?_
        refine St.done ?_
        injection hj1 with hj1
        subst hj1
        refine St.thenN ?_
        exact St.hereE () ⟨rfl, rfl, rfl, rfl, rfl, trivial⟩ (fun _ w => ((.d (.k (.k (.k (.k (.k .z)))))) : Keep _ _).sat w)
      · replace hj1 := bif_f hb2 hj1
        refine St.gOff (dj := 32) rfl rfl rfl rfl ?_
        refine St.gOff (dj := 32) rfl rfl rfl rfl ?_
        refine St.gOff (dj := 32) rfl rfl rfl rfl ?_
        refine St.gOff (dj := 32) rfl rfl rfl rfl ?_
        refine St.gOff (dj := 32) rfl rfl rfl rfl ?_
        refine St.gOff (dj := 32) rfl rfl rfl rfl ?_
        refine St.gOff (dj := 32) rfl rfl rfl rfl ?_
        refine St.gOff (dj := 32) rfl rfl rfl rfl ?_
        refine St.gOff (dj := 32) rfl rfl rfl rfl ?_
        refine St.p rfl rfl ?_
        refine St.done ?_
        injection hj1 with hj1
        subst hj1
        refine St.thenN ?_
        exact St.hereE () ⟨rfl, rfl, rfl, rfl, rfl, trivial⟩ (fun _ w => ((.k (.k (.k (.k (.k .z))))) : Keep _ _).sat w)
    · replace hj1 := bif_f hb1 hj1
      refine St.gOff (dj := 23) rfl rfl rfl rfl ?_
      refine St.gOff (dj := 23) rfl rfl rfl rfl ?_
      refine St.gOff (dj := 23) rfl rfl rfl rfl ?_
      refine St.gOff (dj := 23) rfl rfl rfl rfl ?_
      refine St.gOff (dj := 23) rfl rfl rfl rfl ?_
      refine St.gOff (dj := 23) rfl rfl rfl rfl ?_
      refine St.gOff (dj := 23) rfl rfl rfl rfl ?_
      refine St.p rfl rfl ?_
      refine St.p rfl rfl ?_
      refine St.gOff (dj := 32) rfl rfl rfl rfl ?_
      refine St.gOff (dj := 32) rfl rfl rfl rfl ?_
      refine St.gOff (dj := 32) rfl rfl rfl rfl ?_
      refine St.gOff (dj := 32) rfl rfl rfl rfl ?_
      refine St.gOff (dj := 32) rfl rfl rfl rfl ?_
      refine St.gOff (dj := 32) rfl rfl rfl rfl ?_
      refine St.gOff (dj := 32) rfl rfl rfl rfl ?_
      refine St.gOff (dj := 32) rfl rfl rfl rfl ?_
      refine St.gOff (dj := 32) rfl rfl rfl rfl ?_
      refine St.p rfl rfl ?_
      refine St.done ?_
      injection hj1 with hj1
      subst hj1
      refine St.thenN ?_
      exact St.hereE () ⟨rfl, rfl, rfl, rfl, rfl, trivial⟩ (fun _ w => ((.k (.k (.k (.k (.k .z))))) : Keep _ _).sat w)
  · rintro e1
    refine St.cond _ rfl (fun hb3 => ?_) (fun hb3 => ?_)
    · replace h := bif_t hb3 h
      refine St.seq ?_
      refine St.region ?_
      refine St.p rfl rfl ?_
      refine St.p rfl rfl ?_
      refine St.loadB 3 rfl rfl (.head _) rfl rfl ?_
      refine St.p rfl rfl ?_
      refine St.loadB 4 rfl rfl (.head _) rfl rfl ?_
      obtain ⟨x2, hx2, h⟩ := bnd_e h
      refine St.ixL hx2 rfl rfl rfl (.tail _ (.tail _ (.tail _ (.tail _ (.head _))))) rfl rfl rfl rfl rfl fun b2 ob2 => ?_
      refine St.p rfl rfl ?_
      refine St.load ob2 1 rfl rfl (.head _) rfl rfl ?_
      refine St.p rfl rfl ?_
      refine St.done ?_
      refine St.thenN ?_
      refine St.prune (Γ' := [(2, _)]) ⟨rfl, trivial⟩ (.d (.d (.d (.d (.d (.d .z)))))) ?_
      refine St.ret ?_
      repeat (first | refine St.thenR ?_ | refine St.blkR ?_)
      injection h with h
      subst h
      exact St.finR Tryd.results19 (.tmp rfl .nil) rfl [] ⟨rfl, rfl⟩ (fun _ w => (.z : Keep _ _).sat w)
    · replace h := bif_f hb3 h
      refine St.skip ?_
      refine St.blkN ?_
      refine St.thenN ?_
      refine St.prune (Γ' := [(14, _), (15, _), (16, _)]) ⟨rfl, rfl, rfl, trivial⟩ (.d (.k (.k (.k (.k .z))))) ?_
      refine St.region ?_
      refine St.p rfl rfl ?_
      refine St.p rfl rfl ?_
      refine St.done ?_
      refine St.thenN ?_
      refine St.round ?_
      refine St.prune (Γ' := [(14, _), (15, _), (16, _)]) ⟨rfl, rfl, rfl, trivial⟩ (.k (.k (.k (.k .z)))) ?_
      refine St.seq ?_
      refine St.region ?_
      refine St.p rfl rfl ?_
      refine St.done ?_
      refine St.thenN ?_
      refine St.seq ?_
      refine St.condT rfl ?_
      refine St.skip ?_
      refine St.thenN ?_
      refine St.prune (Γ' := [(14, _), (15, _), (16, _)]) ⟨rfl, rfl, rfl, trivial⟩ (.k (.k (.k (.k .z)))) ?_
      refine St.seq ?_
      refine St.block ?_
      refine St.seq ?_
      refine St.region ?_
      refine St.ixB 5 rfl rfl rfl rfl rfl rfl rfl rfl rfl rfl ?_
      refine St.loadB 5 rfl rfl (.head _) rfl rfl ?_
      refine St.alloc rfl rfl fun g4 => ?_
      refine St.store 0 rfl rfl rfl rfl rfl rfl .z rfl ?_
      refine St.done ?_
      refine St.thenN ?_
      refine St.prune (Γ' := [(4, _), (14, _), (15, _), (16, _)]) ⟨rfl, rfl, rfl, rfl, trivial⟩ (.k (.k (.k (.k (.k .z))))) ?_
      refine St.seq ?_
      obtain ⟨o2, hj2, h⟩ := bnd_e h
      refine St.cutE (fun (e2 : Unit) => [(4, .pointer (some ⟨g4, 0, none⟩)), (14, .slice (some ⟨g2, 0, none⟩) 3 3), (15, .int .i64 ((3 : Nat) : Int)), (16, .int .i64 1), (42, .bool o2)]) (fun e2 => .res (Box g4 72 [.bool i_p0.Board.Present, .int .u8 i_p0.Board.Code, .int .u32 i_p0.Board.Minutes, .slice A2 i_p0.Board.Fields.length c2, .int .i64 2]) :: .res (Box g2 72 [.bool i_p0.Product.Present, .int .u8 i_p0.Product.Code, .int .u32 i_p0.Product.Minutes, .slice A3 i_p0.Product.Fields.length c3, .int .i64 4, .bool i_p0.Board.Present, .int .u8 i_p0.Board.Code, .int .u32 i_p0.Board.Minutes, .slice A2 i_p0.Board.Fields.length c2, .int .i64 2, .bool i_p0.Chassis.Present, .int .u8 i_p0.Chassis.Code, .int .u32 i_p0.Chassis.Minutes, .slice A1 i_p0.Chassis.Fields.length c1, .int .i64 1]) :: .ro (SlL e_Field A1 c1 i_p0.Chassis.Fields) :: .ro (SlL e_Field A2 c2 i_p0.Board.Fields) :: .ro (SlL e_Field A3 c3 i_p0.Product.Fields) :: R) ?_ ?_
      · refine St.region ?_
        refine St.p rfl rfl ?_
        refine St.p rfl rfl ?_
        refine St.loadB 0 rfl rfl (.head _) rfl rfl ?_
        refine St.p rfl rfl ?_
        refine St.gSplit (dj := 23) _ rfl (fun hb4 => ?_) (fun hb4 => ?_)
        · replace hj2 := bif_t hb4 hj2
          refine St.gOn (dj := 23) rfl rfl ?_
          refine St.p rfl rfl ?_
          refine St.gOn (dj := 23) rfl rfl ?_
          refine St.loadB 4 rfl rfl (.head _) rfl rfl ?_
          refine St.gOn (dj := 23) rfl rfl ?_
          refine St.p rfl rfl ?_
          refine St.gOn (dj := 23) rfl rfl ?_
          refine St.p rfl rfl ?_
          refine St.gOn (dj := 23) rfl rfl ?_
          refine St.loadB 3 rfl rfl (.head _) rfl rfl ?_
          refine St.gOn (dj := 23) rfl rfl ?_
          refine St.p rfl rfl ?_
          refine St.gOn (dj := 23) rfl rfl ?_
          iterate 3 refine St.p rfl rfl ?_
          refine St.gSplit (dj := 32) _ rfl (fun hb5 => ?_) (fun hb5 => ?_)
          · replace hj2 := bif_t hb5 hj2
            refine St.gOn (dj := 32) rfl rfl ?_
            refine St.p rfl rfl ?_
            refine St.gOn (dj := 32) rfl rfl ?_
            refine St.p rfl rfl ?_
            refine St.gOn (dj := 32) rfl rfl ?_
            refine St.loadB 3 rfl rfl (.head _) rfl rfl ?_
            refine St.gOn (dj := 32) rfl rfl ?_
            refine St.p rfl rfl ?_
            refine St.gOn (dj := 32) rfl rfl ?_
            refine St.loadB 4 rfl rfl (.head _) rfl rfl ?_
            refine St.gOn (dj := 32) rfl rfl ?_
            obtain ⟨x3, hx3, hj2⟩ := bnd_e hj2
            refine St.ixL hx3 rfl rfl rfl (.tail _ (.tail _ (.tail _ (.head _)))) rfl rfl rfl rfl rfl fun b3 ob3 => ?_
            refine St.gOn (dj := 32) rfl rfl ?_
            refine St.p rfl rfl ?_
            refine St.gOn (dj := 32) rfl rfl ?_
            refine St.load ob3 1 rfl rfl (.head _) rfl rfl ?_
            refine St.gOn (dj := 32) rfl rfl ?_
            refine St.p rfl rfl ?_
            refine St.p rfl rfl ?_
            refine St.done ?_
            injection hj2 with hj2
            subst hj2
            refine St.thenN ?_
            exact St.hereE () ⟨rfl, rfl, rfl, rfl, rfl, trivial⟩ (fun _ w => ((.d (.k (.k (.k (.k (.k .z)))))) : Keep _ _).sat w)
          · replace hj2 := bif_f hb5 hj2
            refine St.gOff (dj := 32) rfl rfl rfl rfl ?_
            refine St.gOff (dj := 32) rfl rfl rfl rfl ?_
            refine St.gOff (dj := 32) rfl rfl rfl rfl ?_
            refine St.gOff (dj := 32) rfl rfl rfl rfl ?_
            refine St.gOff (dj := 32) rfl rfl rfl rfl ?_
            refine St.gOff (dj := 32) rfl rfl rfl rfl ?_
            refine St.gOff (dj := 32) rfl rfl rfl rfl ?_
            refine St.gOff (dj := 32) rfl rfl rfl rfl ?_
            refine St.gOff (dj := 32) rfl rfl rfl rfl ?_
            refine St.p rfl rfl ?_
            refine St.done ?_
            injection hj2 with hj2
            subst hj2
            refine St.thenN ?_
            exact St.hereE () ⟨rfl, rfl, rfl, rfl, rfl, trivial⟩ (fun _ w => ((.k (.k (.k (.k (.k .z))))) : Keep _ _).sat w)
        · replace hj2 := bif_f hb4 hj2
          refine St.gOff (dj := 23) rfl rfl rfl rfl ?_
          refine St.gOff (dj := 23) rfl rfl rfl rfl ?_
          refine St.gOff (dj := 23) rfl rfl rfl rfl ?_
          refine St.gOff (dj := 23) rfl rfl rfl rfl ?_
          refine St.gOff (dj := 23) rfl rfl rfl rfl ?_
          refine St.gOff (dj := 23) rfl rfl rfl rfl ?_
          refine St.gOff (dj := 23) rfl rfl rfl rfl ?_
          refine St.p rfl rfl ?_
          refine St.p rfl rfl ?_
          refine St.gOff (dj := 32) rfl rfl rfl rfl ?_
          refine St.gOff (dj := 32) rfl rfl rfl rfl ?_
          refine St.gOff (dj := 32) rfl rfl rfl rfl ?_
          refine St.gOff (dj := 32) rfl rfl rfl rfl ?_
          refine St.gOff (dj := 32) rfl rfl rfl rfl ?_
          refine St.gOff (dj := 32) rfl rfl rfl rfl ?_
          refine St.gOff (dj := 32) rfl rfl rfl rfl ?_
          refine St.gOff (dj := 32) rfl rfl rfl rfl ?_
          refine St.gOff (dj := 32) rfl rfl rfl rfl ?_
          refine St.p rfl rfl ?_
          refine St.done ?_
          injection hj2 with hj2
          subst hj2
          refine St.thenN ?_
          exact St.hereE () ⟨rfl, rfl, rfl, rfl, rfl, trivial⟩ (fun _ w => ((.k (.k (.k (.k (.k .z))))) : Keep _ _).sat w)
      · rintro e2
        refine St.cond _ rfl (fun hb6 => ?_) (fun hb6 => ?_)
        · replace h := bif_t hb6 h
          refine St.seq ?_
          refine St.region ?_
          refine St.p rfl rfl ?_
          refine St.p rfl rfl ?_
          refine St.loadB 3 rfl rfl (.head _) rfl rfl ?_
          refine St.p rfl rfl ?_
          refine St.loadB 4 rfl rfl (.head _) rfl rfl ?_
          obtain ⟨x4, hx4, h⟩ := bnd_e h
          refine St.ixL hx4 rfl rfl rfl (.tail _ (.tail _ (.tail _ (.head _)))) rfl rfl rfl rfl rfl fun b4 ob4 => ?_
          refine St.p rfl rfl ?_
          refine St.load ob4 1 rfl rfl (.head _) rfl rfl ?_
          refine St.p rfl rfl ?_
          refine St.done ?_
          refine St.thenN ?_
          refine St.prune (Γ' := [(2, _)]) ⟨rfl, trivial⟩ (.d (.d (.d (.d (.d (.d .z)))))) ?_
          refine St.ret ?_
          repeat (first | refine St.thenR ?_ | refine St.blkR ?_)
          injection h with h
          subst h
          exact St.finR Tryd.results19 (.tmp rfl .nil) rfl [] ⟨rfl, rfl⟩ (fun _ w => (.z : Keep _ _).sat w)
        · replace h := bif_f hb6 h
          refine St.skip ?_
          refine St.blkN ?_
          refine St.thenN ?_
          refine St.prune (Γ' := [(14, _), (15, _), (16, _)]) ⟨rfl, rfl, rfl, trivial⟩ (.d (.k (.k (.k (.k .z))))) ?_
          refine St.region ?_
          refine St.p rfl rfl ?_
          refine St.p rfl rfl ?_
          refine St.done ?_
          refine St.thenN ?_
          refine St.round ?_
          refine St.prune (Γ' := [(14, _), (15, _), (16, _)]) ⟨rfl, rfl, rfl, trivial⟩ (.k (.k (.k (.k .z)))) ?_
          refine St.seq ?_
          refine St.region ?_
          refine St.p rfl rfl ?_
          refine St.done ?_
          refine St.thenN ?_
          refine St.seq ?_
          refine St.condT rfl ?_
          refine St.skip ?_
          refine St.thenN ?_
          refine St.prune (Γ' := [(14, _), (15, _), (16, _)]) ⟨rfl, rfl, rfl, trivial⟩ (.k (.k (.k (.k .z)))) ?_
          refine St.seq ?_
          refine St.block ?_
          refine St.seq ?_
          refine St.region ?_
          refine St.ixB 10 rfl rfl rfl rfl rfl rfl rfl rfl rfl rfl ?_
          refine St.loadB 10 rfl rfl (.head _) rfl rfl ?_
          refine St.alloc rfl rfl fun g5 => ?_
          refine St.store 0 rfl rfl rfl rfl rfl rfl .z rfl ?_
          refine St.done ?_
          refine St.thenN ?_
          refine St.prune (Γ' := [(4, _), (14, _), (15, _), (16, _)]) ⟨rfl, rfl, rfl, rfl, trivial⟩ (.k (.k (.k (.k (.k .z))))) ?_
          refine St.seq ?_
          obtain ⟨o3, hj3, h⟩ := bnd_e h
          refine St.cutE (fun (e3 : Unit) => [(4, .pointer (some ⟨g5, 0, none⟩)), (14, .slice (some ⟨g2, 0, none⟩) 3 3), (15, .int .i64 ((3 : Nat) : Int)), (16, .int .i64 2), (42, .bool o3)]) (fun e3 => .res (Box g5 72 [.bool i_p0.Chassis.Present, .int .u8 i_p0.Chassis.Code, .int .u32 i_p0.Chassis.Minutes, .slice A1 i_p0.Chassis.Fields.length c1, .int .i64 1]) :: .res (Box g2 72 [.bool i_p0.Product.Present, .int .u8 i_p0.Product.Code, .int .u32 i_p0.Product.Minutes, .slice A3 i_p0.Product.Fields.length c3, .int .i64 4, .bool i_p0.Board.Present, .int .u8 i_p0.Board.Code, .int .u32 i_p0.Board.Minutes, .slice A2 i_p0.Board.Fields.length c2, .int .i64 2, .bool i_p0.Chassis.Present, .int .u8 i_p0.Chassis.Code, .int .u32 i_p0.Chassis.Minutes, .slice A1 i_p0.Chassis.Fields.length c1, .int .i64 1]) :: .ro (SlL e_Field A1 c1 i_p0.Chassis.Fields) :: .ro (SlL e_Field A2 c2 i_p0.Board.Fields) :: .ro (SlL e_Field A3 c3 i_p0.Product.Fields) :: R) ?_ ?_
          · refine St.region ?_
            refine St.p rfl rfl ?_
            refine St.p rfl rfl ?_
            refine St.loadB 0 rfl rfl (.head _) rfl rfl ?_
            refine St.p rfl rfl ?_
            refine St.gSplit (dj := 23) _ rfl (fun hb7 => ?_) (fun hb7 => ?_)
            · replace hj3 := bif_t hb7 hj3
              refine St.gOn (dj := 23) rfl rfl ?_
              refine St.p rfl rfl ?_
              refine St.gOn (dj := 23) rfl rfl ?_
              refine St.loadB 4 rfl rfl (.head _) rfl rfl ?_
              refine St.gOn (dj := 23) rfl rfl ?_
              refine St.p rfl rfl ?_
              refine St.gOn (dj := 23) rfl rfl ?_
              refine St.p rfl rfl ?_
              refine St.gOn (dj := 23) rfl rfl ?_
              refine St.loadB 3 rfl rfl (.head _) rfl rfl ?_
              refine St.gOn (dj := 23) rfl rfl ?_
              refine St.p rfl rfl ?_
              refine St.gOn (dj := 23) rfl rfl ?_
              iterate 3 refine St.p rfl rfl ?_
              refine St.gSplit (dj := 32) _ rfl (fun hb8 => ?_) (fun hb8 => ?_)
              · replace hj3 := bif_t hb8 hj3
                refine St.gOn (dj := 32) rfl rfl ?_
                refine St.p rfl rfl ?_
                refine St.gOn (dj := 32) rfl rfl ?_
                refine St.p rfl rfl ?_
                refine St.gOn (dj := 32) rfl rfl ?_
                refine St.loadB 3 rfl rfl (.head _) rfl rfl ?_
                refine St.gOn (dj := 32) rfl rfl ?_
                refine St.p rfl rfl ?_
                refine St.gOn (dj := 32) rfl rfl ?_
                refine St.loadB 4 rfl rfl (.head _) rfl rfl ?_
                refine St.gOn (dj := 32) rfl rfl ?_
                obtain ⟨x5, hx5, hj3⟩ := bnd_e hj3
                refine St.ixL hx5 rfl rfl rfl (.tail _ (.tail _ (.head _))) rfl rfl rfl rfl rfl fun b5 ob5 => ?_
                refine St.gOn (dj := 32) rfl rfl ?_
                refine St.p rfl rfl ?_
                refine St.gOn (dj := 32) rfl rfl ?_
                refine St.load ob5 1 rfl rfl (.head _) rfl rfl ?_
                refine St.gOn (dj := 32) rfl rfl ?_
                refine St.p rfl rfl ?_
                refine St.p rfl rfl ?_
                refine St.done ?_
                injection hj3 with hj3
                subst hj3
                refine St.thenN ?_
                exact St.hereE () ⟨rfl, rfl, rfl, rfl, rfl, trivial⟩ (fun _ w => ((.d (.k (.k (.k (.k (.k .z)))))) : Keep _ _).sat w)
              · replace hj3 := bif_f hb8 hj3
                refine St.gOff (dj := 32) rfl rfl rfl rfl ?_
                refine St.gOff (dj := 32) rfl rfl rfl rfl ?_
                refine St.gOff (dj := 32) rfl rfl rfl rfl ?_
                refine St.gOff (dj := 32) rfl rfl rfl rfl ?_
                refine St.gOff (dj := 32) rfl rfl rfl rfl ?_
                refine St.gOff (dj := 32) rfl rfl rfl rfl ?_
                refine St.gOff (dj := 32) rfl rfl rfl rfl ?_
                refine St.gOff (dj := 32) rfl rfl rfl rfl ?_
                refine St.gOff (dj := 32) rfl rfl rfl rfl ?_
                refine St.p rfl rfl ?_
                refine St.done ?_
                injection hj3 with hj3
                subst hj3
                refine St.thenN ?_
                exact St.hereE () ⟨rfl, rfl, rfl, rfl, rfl, trivial⟩ (fun _ w => ((.k (.k (.k (.k (.k .z))))) : Keep _ _).sat w)
            · replace hj3 := bif_f hb7 hj3
              refine St.gOff (dj := 23) rfl rfl rfl rfl ?_
              refine St.gOff (dj := 23) rfl rfl rfl rfl ?_
              refine St.gOff (dj := 23) rfl rfl rfl rfl ?_
              refine St.gOff (dj := 23) rfl rfl rfl rfl ?_
              refine St.gOff (dj := 23) rfl rfl rfl rfl ?_
              refine St.gOff (dj := 23) rfl rfl rfl rfl ?_
              refine St.gOff (dj := 23) rfl rfl rfl rfl ?_
              refine St.p rfl rfl ?_
              refine St.p rfl rfl ?_
              refine St.gOff (dj := 32) rfl rfl rfl rfl ?_
              refine St.gOff (dj := 32) rfl rfl rfl rfl ?_
              refine St.gOff (dj := 32) rfl rfl rfl rfl ?_
              refine St.gOff (dj := 32) rfl rfl rfl rfl ?_
              refine St.gOff (dj := 32) rfl rfl rfl rfl ?_
              refine St.gOff (dj := 32) rfl rfl rfl rfl ?_
              refine St.gOff (dj := 32) rfl rfl rfl rfl ?_
              refine St.gOff (dj := 32) rfl rfl rfl rfl ?_
              refine St.gOff (dj := 32) rfl rfl rfl rfl ?_
              refine St.p rfl rfl ?_
              refine St.done ?_
              injection hj3 with hj3
              subst hj3
              refine St.thenN ?_
              exact St.hereE () ⟨rfl, rfl, rfl, rfl, rfl, trivial⟩ (fun _ w => ((.k (.k (.k (.k (.k .z))))) : Keep _ _).sat w)
          · rintro e3
            refine St.cond _ rfl (fun hb9 => ?_) (fun hb9 => ?_)
            · replace h := bif_t hb9 h
              refine St.seq ?_
              refine St.region ?_
              refine St.p rfl rfl ?_
              refine St.p rfl rfl ?_
              refine St.loadB 3 rfl rfl (.head _) rfl rfl ?_
              refine St.p rfl rfl ?_
              refine St.loadB 4 rfl rfl (.head _) rfl rfl ?_
              obtain ⟨x6, hx6, h⟩ := bnd_e h
              refine St.ixL hx6 rfl rfl rfl (.tail _ (.tail _ (.head _))) rfl rfl rfl rfl rfl fun b6 ob6 => ?_
              refine St.p rfl rfl ?_
              refine St.load ob6 1 rfl rfl (.head _) rfl rfl ?_
              refine St.p rfl rfl ?_
              refine St.done ?_
              refine St.thenN ?_
              refine St.prune (Γ' := [(2, _)]) ⟨rfl, trivial⟩ (.d (.d (.d (.d (.d (.d .z)))))) ?_
              refine St.ret ?_
              repeat (first | refine St.thenR ?_ | refine St.blkR ?_)
              injection h with h
              subst h
              exact St.finR Tryd.results19 (.tmp rfl .nil) rfl [] ⟨rfl, rfl⟩ (fun _ w => (.z : Keep _ _).sat w)
            · replace h := bif_f hb9 h
              refine St.skip ?_
              refine St.blkN ?_
              refine St.thenN ?_
              refine St.prune (Γ' := [(14, _), (15, _), (16, _)]) ⟨rfl, rfl, rfl, trivial⟩ (.d (.k (.k (.k (.k .z))))) ?_
              refine St.region ?_
              refine St.p rfl rfl ?_
              refine St.p rfl rfl ?_
              refine St.done ?_
              refine St.thenN ?_
              refine St.round ?_
              refine St.prune (Γ' := [(14, _), (15, _), (16, _)]) ⟨rfl, rfl, rfl, trivial⟩ (.k (.k (.k (.k .z)))) ?_
              refine St.seq ?_
              refine St.region ?_
              refine St.p rfl rfl ?_
              refine St.done ?_
              refine St.thenN ?_
              refine St.seq ?_
              refine St.condF rfl ?_
              refine St.exit ?_
              repeat (first | refine St.thenX ?_ | refine St.blkMiss rfl ?_)
              refine St.blkHit ?_
              refine St.thenN ?_
              refine St.prune (Γ' := []) trivial (.d (.d (.d (.d .z)))) ?_
              refine St.seq ?_
              refine St.region ?_
              refine St.p rfl rfl ?_
              refine St.done ?_
              refine St.thenN ?_
              refine St.ret ?_
              repeat (first | refine St.thenR ?_ | refine St.blkR ?_)
              injection h with h
              subst h
              exact St.finR Tryd.results19 (.tmp rfl .nil) rfl [] ⟨rfl, rfl⟩ (fun _ w => (.z : Keep _ _).sat w)

end Go.Proofs.YtcekbbbjagfacaaDoor
