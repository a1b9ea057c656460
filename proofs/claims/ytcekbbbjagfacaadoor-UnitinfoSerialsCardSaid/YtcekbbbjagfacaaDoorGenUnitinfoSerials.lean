/-
  Models of functions of the program, and that the functions compute them.
  Conditions: none.
-/
import Derived.Test.YtcekbbbjagfacaaDoorGen
namespace Go.Proofs.YtcekbbbjagfacaaDoor
open Go
set_option linter.unusedVariables false
set_option maxRecDepth 4000

theorem ent22 : Ent Tryd.prog 22 := ⟨_, Tryd.func22, by kernel_rfl, by kernel_rfl⟩

noncomputable def m_law17_with (k_p0 : Int) (s_p1 : ByteArray) (present : Bool) : Option T_Area :=
  bnd (loopM (τ := T_Area × List T_Field) (fun (s1 : T_Area × Int × List T_Field) => bnd ((bif decide (s1.2.1 < 7) then (some present) else (some false) : Option Bool)) fun o2 => bif o2 then (bif (s1.2.1 == k_p0) then (bnd (app 24 s1.2.2 [(⟨0, s_p1⟩ : T_Field)]) fun l1 => some (.next (s1.1, IntKind.wrap .i64 (s1.2.1 + 1), l1))) else (bnd (app 24 s1.2.2 [(⟨3, ⟨#[120, 120]⟩⟩ : T_Field)]) fun l2 => some (.next (s1.1, IntKind.wrap .i64 (s1.2.1 + 1), l2)))) else (some (.done (s1.1, s1.2.2)))) ((⟨false, 0, 0, []⟩ : T_Area), 0, [])) fun o1 => some (⟨present, 0, 0, o1.2⟩ : T_Area)

theorem c_law17_with {k_p0 : Int} {s_p1 : ByteArray} {present : Bool} {r : T_Area} (h : m_law17_with k_p0 s_p1 present = some r) :
    Fun Tryd.prog 22 [.int .i64 k_p0, .string s_p1, .bool present] [] (fun v_ F_ => ∃ (A1 : Option Addr) (c1 : Nat), v_ = .agg (bx_T_Area r A1 c1).toArray ∧ F_ = [.ro (SlL e_Field A1 c1 r.Fields)]) := by
  unfold m_law17_with at h
  refine Fun.intro Tryd.func22 rfl rfl rfl fun w R => ?_
  refine St.seq ?_
  refine St.region ?_
  refine St.alloc rfl rfl fun g1 => ?_
  refine St.done ?_
  refine St.thenN ?_
  refine St.seq ?_
  refine St.region ?_
  refine St.p rfl rfl ?_
  refine St.p rfl rfl ?_
  refine St.alloc rfl rfl fun g2 => ?_
  refine St.store 0 rfl rfl rfl rfl rfl rfl .z rfl ?_
  refine St.done ?_
  refine St.thenN ?_
  refine St.prune (Γ' := [(0, _), (1, _), (2, _), (6, _), (7, _)]) ⟨rfl, rfl, rfl, rfl, rfl, trivial⟩ (.k (.k .z)) ?_
  refine St.seq ?_
  refine St.seq ?_
  refine St.region ?_
  refine St.p rfl rfl ?_
  refine St.done ?_
  refine St.thenN ?_
  refine St.asrt (fun _ w => w.nilSl (cod e_Field)) ?_
  refine St.asrt (fun _ w => w.nilL e_Field 60) ?_
  obtain ⟨o1, hl1, h⟩ := bnd_e h
  refine St.cutE (fun (e2 : Option Addr × Nat × Option Addr × Nat) => [(6, .pointer (some ⟨g1, 0, none⟩)), (7, .pointer (some ⟨g2, 0, none⟩))]) (fun e2 => .res (OwnL e_Field 60 e2.2.2.1 e2.2.2.2 o1.2) :: .ro (SlL e_Field e2.1 e2.2.1 o1.1.Fields) :: .res (Box g2 25 [.bool present, .int .u8 0, .int .u32 0, .slice e2.2.2.1 o1.2.length e2.2.2.2]) :: .res (Box g1 25 (bx_T_Area o1.1 e2.1 e2.2.1)) :: R) ?_ ?_
  · refine St.block ?_
    refine St.loop hl1 (fun (s1 : T_Area × Int × List T_Field) (e1 : Option Addr × Nat × Option Addr × Nat) => [(0, .int .i64 k_p0), (1, .string s_p1), (2, .bool present), (6, .pointer (some ⟨g1, 0, none⟩)), (7, .pointer (some ⟨g2, 0, none⟩)), (8, .int .i64 s1.2.1)]) (fun s1 e1 => .res (OwnL e_Field 60 e1.2.2.1 e1.2.2.2 s1.2.2) :: .ro (SlL e_Field e1.1 e1.2.1 s1.1.Fields) :: .res (Box g2 25 [.bool present, .int .u8 0, .int .u32 0, .slice e1.2.2.1 s1.2.2.length e1.2.2.2]) :: .res (Box g1 25 (bx_T_Area s1.1 e1.1 e1.2.1)) :: R) (fun _ _ => True) (none, 0, none, 0) trivial ⟨rfl, rfl, rfl, rfl, rfl, rfl, trivial⟩ (fun _ w => ((.k (.k (.k (.k .z)))) : Keep _ _).sat w) ?_
    rintro s1 ⟨A1, c1, A2, c2⟩ - hit1
    obtain ⟨st1, hm1, hd1⟩ := iter_e hit1
    have h1 := hm1
    refine St.seq ?_
    refine St.seq ?_
    obtain ⟨o2, hj1, h1⟩ := bnd_e h1
    refine St.cutE (fun (e3 : Unit) => [(0, .int .i64 k_p0), (1, .string s_p1), (2, .bool present), (6, .pointer (some ⟨g1, 0, none⟩)), (7, .pointer (some ⟨g2, 0, none⟩)), (8, .int .i64 s1.2.1), (16, .bool o2)]) (fun e3 => .res (OwnL e_Field 60 A2 c2 s1.2.2) :: .ro (SlL e_Field A1 c1 s1.1.Fields) :: .res (Box g2 25 [.bool present, .int .u8 0, .int .u32 0, .slice A2 s1.2.2.length c2]) :: .res (Box g1 25 (bx_T_Area s1.1 A1 c1)) :: R) ?_ ?_
    · refine St.region ?_
      iterate 3 refine St.p rfl rfl ?_
      refine St.gSplit (dj := 14) _ rfl (fun hb1 => ?_) (fun hb1 => ?_)
      · replace hj1 := bif_t hb1 hj1
        refine St.gOn (dj := 14) rfl rfl ?_
        refine St.p rfl rfl ?_
        refine St.p rfl rfl ?_
        refine St.done ?_
        injection hj1 with hj1
        subst hj1
        refine St.thenN ?_
        exact St.hereE () ⟨rfl, rfl, rfl, rfl, rfl, rfl, rfl, trivial⟩ (fun _ w => ((.k (.k (.k (.k .z)))) : Keep _ _).sat w)
      · replace hj1 := bif_f hb1 hj1
        refine St.gOff (dj := 14) rfl rfl rfl rfl ?_
        refine St.p rfl rfl ?_
        refine St.done ?_
        injection hj1 with hj1
        subst hj1
        refine St.thenN ?_
        exact St.hereE () ⟨rfl, rfl, rfl, rfl, rfl, rfl, rfl, trivial⟩ (fun _ w => ((.k (.k (.k (.k .z)))) : Keep _ _).sat w)
    · rintro e3
      refine St.cond _ rfl (fun hb2 => ?_) (fun hb2 => ?_)
      · replace h1 := bif_t hb2 h1
        refine St.skip ?_
        refine St.thenN ?_
        refine St.prune (Γ' := [(0, _), (1, _), (2, _), (6, _), (7, _), (8, _)]) ⟨rfl, rfl, rfl, rfl, rfl, rfl, trivial⟩ (.k (.k (.k (.k .z)))) ?_
        refine St.seq ?_
        refine St.block ?_
        refine St.seq ?_
        refine St.region ?_
        refine St.p rfl rfl ?_
        refine St.alloc rfl rfl fun g3 => ?_
        refine St.store 0 rfl rfl rfl rfl rfl rfl .z rfl ?_
        refine St.done ?_
        refine St.thenN ?_
        refine St.prune (Γ' := [(0, _), (1, _), (2, _), (6, _), (7, _), (8, _), (9, _)]) ⟨rfl, rfl, rfl, rfl, rfl, rfl, rfl, trivial⟩ (.k (.k (.k (.k (.k .z))))) ?_
        refine St.seq ?_
        refine St.seq ?_
        refine St.region ?_
        iterate 3 refine St.p rfl rfl ?_
        refine St.done ?_
        refine St.thenN ?_
        refine St.prune (Γ' := [(0, _), (1, _), (2, _), (6, _), (7, _), (8, _), (9, _), (22, _)]) ⟨rfl, rfl, rfl, rfl, rfl, rfl, rfl, rfl, trivial⟩ (.k (.k (.k (.k (.k .z))))) ?_
        refine St.cond _ rfl (fun hb3 => ?_) (fun hb3 => ?_)
        · replace h1 := bif_t hb3 h1
          refine St.region ?_
          refine St.p rfl rfl ?_
          refine St.p rfl rfl ?_
          refine St.store 0 rfl rfl rfl rfl rfl rfl .z rfl ?_
          refine St.done ?_
          refine St.thenN ?_
          refine St.prune (Γ' := [(0, _), (1, _), (2, _), (6, _), (7, _), (8, _), (9, _)]) ⟨rfl, rfl, rfl, rfl, rfl, rfl, rfl, trivial⟩ (.k (.k (.k (.k (.k .z))))) ?_
          refine St.region ?_
          refine St.p rfl rfl ?_
          refine St.loadB 3 rfl rfl (.tail _ (.tail _ (.tail _ (.head _)))) rfl rfl ?_
          refine St.loadB 0 rfl rfl (.head _) rfl rfl ?_
          refine St.buildSlice rfl rfl rfl rfl rfl rfl rfl rfl fun g4 => ?_
          obtain ⟨l1, hl1, h1⟩ := bnd_e h1
          refine St.app (E := e_Field) hl1 rfl rfl rfl (.s (.s .z)) rfl rfl rfl rfl rfl rfl rfl rfl (srcB (.head _) rfl rfl) rfl rfl fun A5 c5 => ?_
          refine St.p rfl rfl ?_
          refine St.store 3 rfl rfl rfl rfl rfl rfl (.s (.s (.s (.s .z)))) rfl ?_
          refine St.done ?_
          refine St.blkN ?_
          refine St.thenN ?_
          refine St.prune (Γ' := [(0, _), (1, _), (2, _), (6, _), (7, _), (8, _)]) ⟨rfl, rfl, rfl, rfl, rfl, rfl, trivial⟩ (.k (.k (.d (.d (.k (.k .z)))))) ?_
          refine St.region ?_
          iterate 3 refine St.p rfl rfl ?_
          refine St.done ?_
          injection h1 with h1
          subst h1
          refine St.thenN ?_
          exact St.again _ (A1, c1, A5, c5) hm1 trivial ⟨rfl, rfl, rfl, rfl, rfl, rfl, trivial⟩ (fun _ w => ((.k (.k (.k (.k .z)))) : Keep _ _).sat ((((w.front (.s (.s (.s .z)))).front (.s .z)).front (.s (.s (.s .z)))).front (.s (.s (.s .z)))))
        · replace h1 := bif_f hb3 h1
          refine St.skip ?_
          refine St.thenN ?_
          refine St.prune (Γ' := [(0, _), (1, _), (2, _), (6, _), (7, _), (8, _), (9, _)]) ⟨rfl, rfl, rfl, rfl, rfl, rfl, rfl, trivial⟩ (.k (.k (.k (.k (.k .z))))) ?_
          refine St.region ?_
          refine St.p rfl rfl ?_
          refine St.loadB 3 rfl rfl (.tail _ (.tail _ (.tail _ (.head _)))) rfl rfl ?_
          refine St.loadB 0 rfl rfl (.head _) rfl rfl ?_
          refine St.buildSlice rfl rfl rfl rfl rfl rfl rfl rfl fun g5 => ?_
          obtain ⟨l2, hl2, h1⟩ := bnd_e h1
          refine St.app (E := e_Field) hl2 rfl rfl rfl (.s (.s .z)) rfl rfl rfl rfl rfl rfl rfl rfl (srcB (.head _) rfl rfl) rfl rfl fun A6 c6 => ?_
          refine St.p rfl rfl ?_
          refine St.store 3 rfl rfl rfl rfl rfl rfl (.s (.s (.s (.s .z)))) rfl ?_
          refine St.done ?_
          refine St.blkN ?_
          refine St.thenN ?_
          refine St.prune (Γ' := [(0, _), (1, _), (2, _), (6, _), (7, _), (8, _)]) ⟨rfl, rfl, rfl, rfl, rfl, rfl, trivial⟩ (.k (.k (.d (.d (.k (.k .z)))))) ?_
          refine St.region ?_
          iterate 3 refine St.p rfl rfl ?_
          refine St.done ?_
          injection h1 with h1
          subst h1
          refine St.thenN ?_
          exact St.again _ (A1, c1, A6, c6) hm1 trivial ⟨rfl, rfl, rfl, rfl, rfl, rfl, trivial⟩ (fun _ w => ((.k (.k (.k (.k .z)))) : Keep _ _).sat ((((w.front (.s (.s (.s .z)))).front (.s .z)).front (.s (.s (.s .z)))).front (.s (.s (.s .z)))))
      · replace h1 := bif_f hb2 h1
        refine St.exit ?_
        repeat (first | refine St.thenX ?_ | refine St.blkMiss rfl ?_)
        refine St.blkHit ?_
        injection h1 with h1
        subst h1
        have ho := hd1 _ rfl
        subst ho
        refine St.thenN ?_
        exact St.hereE (A1, c1, A2, c2) ⟨rfl, rfl, trivial⟩ (fun _ w => ((.k (.k (.k (.k .z)))) : Keep _ _).sat w)
  · rintro ⟨A3, c3, A4, c4⟩
    refine St.seq ?_
    refine St.region ?_
    refine St.loadB 0 rfl rfl (.tail _ (.tail _ (.head _))) rfl rfl ?_
    refine St.store 0 rfl rfl rfl rfl rfl rfl (.s (.s (.s .z))) rfl ?_
    refine St.done ?_
    refine St.thenN ?_
    refine St.prune (Γ' := [(6, _)]) ⟨rfl, trivial⟩ (.k (.k (.d (.d .z)))) ?_
    refine St.ret ?_
    repeat (first | refine St.thenR ?_ | refine St.blkR ?_)
    refine St.asrt (fun _ w => (w.front (.s .z)).meltL) ?_
    injection h with h
    subst h
    exact St.finR Tryd.results22 (.cell rfl (.tail _ (.head _)) rfl .nil) rfl [.ro (SlL e_Field A4 c4 o1.2)] ⟨A4, c4, rfl, rfl⟩ (fun _ w => ((.k (.d (.d .z))) : Keep _ _).sat (Sat.dup (G := [.ro (SlL e_Field A4 c4 o1.2)]) rfl ⟨(.head _), trivial⟩ w))

theorem ent19 : Ent Tryd.prog 19 := ⟨_, Tryd.func19, by kernel_rfl, by kernel_rfl⟩

noncomputable def m_unitinfo_Serial (i_p0 : T_Info) : Option ByteArray :=
  bnd ((bif i_p0.Product.Present then (bif decide (4 < (i_p0.Product.Fields.length : Int)) then (bnd (elt i_p0.Product.Fields 4) fun x1 => some (!(x1.Value.toList == ((⟨#[]⟩) : ByteArray).toList))) else (some false)) else (some false) : Option Bool)) fun o1 => bif o1 then (bnd (elt i_p0.Product.Fields 4) fun x2 => some x2.Value) else (bnd ((bif i_p0.Board.Present then (bif decide (2 < (i_p0.Board.Fields.length : Int)) then (bnd (elt i_p0.Board.Fields 2) fun x3 => some (!(x3.Value.toList == ((⟨#[]⟩) : ByteArray).toList))) else (some false)) else (some false) : Option Bool)) fun o2 => bif o2 then (bnd (elt i_p0.Board.Fields 2) fun x4 => some x4.Value) else (bnd ((bif i_p0.Chassis.Present then (bif decide (1 < (i_p0.Chassis.Fields.length : Int)) then (bnd (elt i_p0.Chassis.Fields 1) fun x5 => some (!(x5.Value.toList == ((⟨#[]⟩) : ByteArray).toList))) else (some false)) else (some false) : Option Bool)) fun o3 => bif o3 then (bnd (elt i_p0.Chassis.Fields 1) fun x6 => some x6.Value) else (some (⟨#[]⟩))))

set_option maxHeartbeats 4000000 in
theorem c_unitinfo_Serial {i_p0 : T_Info} {A1 : Option Addr} {c1 : Nat} {A2 : Option Addr} {c2 : Nat} {A3 : Option Addr} {c3 : Nat} {A4 : Option Addr} {c4 : Nat} {r : ByteArray} (h : m_unitinfo_Serial i_p0 = some r) :
    Fun Tryd.prog 19 [.agg (bx_T_Info i_p0 A1 c1 A2 c2 A3 c3 A4 c4).toArray] [.ro (SlL e_Field A1 c1 i_p0.Chassis.Fields), .ro (SlL e_Field A2 c2 i_p0.Board.Fields), .ro (SlL e_Field A3 c3 i_p0.Product.Fields), .ro (SlL eu8 A4 c4 i_p0.Multi)] (Val (.string r)) := by
  unfold m_unitinfo_Serial at h
  refine Fun.intro Tryd.func19 rfl rfl rfl fun w R => ?_
  refine St.seq ?_
  refine St.region ?_
  refine St.box rfl rfl fun g1 => ?_
  refine St.p rfl rfl ?_
  refine St.done ?_
  refine St.thenN ?_
  refine St.prune (Γ' := [(1, _)]) ⟨rfl, trivial⟩ (.k (.k (.k (.k (.k .z))))) ?_
  refine St.seq ?_
  refine St.seq ?_
  refine St.region ?_
  refine St.p rfl rfl ?_
  refine St.loadB 8 rfl rfl (.head _) rfl rfl ?_
  refine St.p rfl rfl ?_
  refine St.p rfl rfl ?_
  refine St.loadB 4 rfl rfl (.head _) rfl rfl ?_
  refine St.p rfl rfl ?_
  refine St.p rfl rfl ?_
  refine St.loadB 0 rfl rfl (.head _) rfl rfl ?_
  refine St.p rfl rfl ?_
  refine St.buildSlice rfl rfl rfl rfl rfl rfl rfl rfl fun g2 => ?_
  refine St.p rfl rfl ?_
  refine St.p rfl rfl ?_
  refine St.done ?_
  refine St.thenN ?_
  refine St.prune (Γ' := [(14, _), (15, _), (16, _)]) ⟨rfl, rfl, rfl, trivial⟩ (.k (.d (.k (.k (.k (.d .z)))))) ?_
  refine St.block ?_
  refine St.rounds 9 ?_
  refine St.round ?_
  refine St.seq ?_
  refine St.region ?_
  refine St.p rfl rfl ?_
  refine St.done ?_
  refine St.thenN ?_
  refine St.seq ?_
  refine St.condT rfl ?_
  refine St.skip ?_
  refine St.thenN ?_
  refine St.prune (Γ' := [(14, _), (15, _), (16, _)]) ⟨rfl, rfl, rfl, trivial⟩ (.k (.k (.k (.k .z)))) ?_
  refine St.seq ?_
  refine St.block ?_
  refine St.seq ?_
  refine St.region ?_
  refine St.ixB 0 rfl rfl rfl rfl rfl rfl rfl rfl rfl rfl ?_
  refine St.loadB 0 rfl rfl (.head _) rfl rfl ?_
  refine St.alloc rfl rfl fun g3 => ?_
  refine St.store 0 rfl rfl rfl rfl rfl rfl .z rfl ?_
  refine St.done ?_
  refine St.thenN ?_
  refine St.prune (Γ' := [(4, _), (14, _), (15, _), (16, _)]) ⟨rfl, rfl, rfl, rfl, trivial⟩ (.k (.k (.k (.k (.k .z))))) ?_
  refine St.seq ?_
  obtain ⟨o1, hj1, h⟩ := bnd_e h
  refine St.cutE (fun (e1 : Unit) => [(4, .pointer (some ⟨g3, 0, none⟩)), (14, .slice (some ⟨g2, 0, none⟩) 3 3), (15, .int .i64 ((3 : Nat) : Int)), (16, .int .i64 0), (42, .bool o1)]) (fun e1 => .res (Box g3 72 [.bool i_p0.Product.Present, .int .u8 i_p0.Product.Code, .int .u32 i_p0.Product.Minutes, .slice A3 i_p0.Product.Fields.length c3, .int .i64 4]) :: .res (Box g2 72 [.bool i_p0.Product.Present, .int .u8 i_p0.Product.Code, .int .u32 i_p0.Product.Minutes, .slice A3 i_p0.Product.Fields.length c3, .int .i64 4, .bool i_p0.Board.Present, .int .u8 i_p0.Board.Code, .int .u32 i_p0.Board.Minutes, .slice A2 i_p0.Board.Fields.length c2, .int .i64 2, .bool i_p0.Chassis.Present, .int .u8 i_p0.Chassis.Code, .int .u32 i_p0.Chassis.Minutes, .slice A1 i_p0.Chassis.Fields.length c1, .int .i64 1]) :: .ro (SlL e_Field A1 c1 i_p0.Chassis.Fields) :: .ro (SlL e_Field A2 c2 i_p0.Board.Fields) :: .ro (SlL e_Field A3 c3 i_p0.Product.Fields) :: R) ?_ ?_
  · refine St.region ?_
    refine St.p rfl rfl ?_
    refine St.p rfl rfl ?_
    refine St.loadB 0 rfl rfl (.head _) rfl rfl ?_
    refine St.p rfl rfl ?_
    refine St.gSplit (dj := 23) _ rfl (fun hb1 => ?_) (fun hb1 => ?_)
    · replace hj1 := bif_t hb1 hj1
      refine St.gOn (dj := 23) rfl rfl ?_
      refine St.p rfl rfl ?_
      refine St.gOn (dj := 23) rfl rfl ?_
      refine St.loadB 4 rfl rfl (.head _) rfl rfl ?_
      refine St.gOn (dj := 23) rfl rfl ?_
      refine St.p rfl rfl ?_
      refine St.gOn (dj := 23) rfl rfl ?_
      refine St.p rfl rfl ?_
      refine St.gOn (dj := 23) rfl rfl ?_
      refine St.loadB 3 rfl rfl (.head _) rfl rfl ?_
      refine St.gOn (dj := 23) rfl rfl ?_
      refine St.p rfl rfl ?_
      refine St.gOn (dj := 23) rfl rfl ?_
      iterate 3 refine St.p rfl rfl ?_
      refine St.gSplit (dj := 32) _ rfl (fun hb2 => ?_) (fun hb2 => ?_)
      · replace hj1 := bif_t hb2 hj1
        refine St.gOn (dj := 32) rfl rfl ?_
        refine St.p rfl rfl ?_
        refine St.gOn (dj := 32) rfl rfl ?_
        refine St.p rfl rfl ?_
        refine St.gOn (dj := 32) rfl rfl ?_
        refine St.loadB 3 rfl rfl (.head _) rfl rfl ?_
        refine St.gOn (dj := 32) rfl rfl ?_
        refine St.p rfl rfl ?_
        refine St.gOn (dj := 32) rfl rfl ?_
        refine St.loadB 4 rfl rfl (.head _) rfl rfl ?_
        refine St.gOn (dj := 32) rfl rfl ?_
        obtain ⟨x1, hx1, hj1⟩ := bnd_e hj1
        refine St.ixL hx1 rfl rfl rfl (.tail _ (.tail _ (.tail _ (.tail _ (.head _))))) rfl rfl rfl rfl rfl fun b1 ob1 => ?_
        refine St.gOn (dj := 32) rfl rfl ?_
        refine St.p rfl rfl ?_
        refine St.gOn (dj := 32) rfl rfl ?_
        refine St.load ob1 1 rfl rfl (.head _) rfl rfl ?_
        refine St.gOn (dj := 32) rfl rfl ?_
        refine St.p rfl rfl ?_
        refine St.p rfl rfl ?_
        refine St.done ?_
        injection hj1 with hj1
        subst hj1
        refine St.thenN ?_
        exact St.hereE () ⟨rfl, rfl, rfl, rfl, rfl, trivial⟩ (fun _ w => ((.d (.k (.k (.k (.k (.k .z)))))) : Keep _ _).sat w)
      · replace hj1 := bif_f hb2 hj1
        refine St.gOff (dj := 32) rfl rfl rfl rfl ?_
        refine St.gOff (dj := 32) rfl rfl rfl rfl ?_
        refine St.gOff (dj := 32) rfl rfl rfl rfl ?_
        refine St.gOff (dj := 32) rfl rfl rfl rfl ?_
        refine St.gOff (dj := 32) rfl rfl rfl rfl ?_
        refine St.gOff (dj := 32) rfl rfl rfl rfl ?_
        refine St.gOff (dj := 32) rfl rfl rfl rfl ?_
        refine St.gOff (dj := 32) rfl rfl rfl rfl ?_
        refine St.gOff (dj := 32) rfl rfl rfl rfl ?_
        refine St.p rfl rfl ?_
        refine St.done ?_
        injection hj1 with hj1
        subst hj1
        refine St.thenN ?_
        exact St.hereE () ⟨rfl, rfl, rfl, rfl, rfl, trivial⟩ (fun _ w => ((.k (.k (.k (.k (.k .z))))) : Keep _ _).sat w)
    · replace hj1 := bif_f hb1 hj1
      refine St.gOff (dj := 23) rfl rfl rfl rfl ?_
      refine St.gOff (dj := 23) rfl rfl rfl rfl ?_
      refine St.gOff (dj := 23) rfl rfl rfl rfl ?_
      refine St.gOff (dj := 23) rfl rfl rfl rfl ?_
      refine St.gOff (dj := 23) rfl rfl rfl rfl ?_
      refine St.gOff (dj := 23) rfl rfl rfl rfl ?_
      refine St.gOff (dj := 23) rfl rfl rfl rfl ?_
      refine St.p rfl rfl ?_
      refine St.p rfl rfl ?_
      refine St.gOff (dj := 32) rfl rfl rfl rfl ?_
      refine St.gOff (dj := 32) rfl rfl rfl rfl ?_
      refine St.gOff (dj := 32) rfl rfl rfl rfl ?_
      refine St.gOff (dj := 32) rfl rfl rfl rfl ?_
      refine St.gOff (dj := 32) rfl rfl rfl rfl ?_
      refine St.gOff (dj := 32) rfl rfl rfl rfl ?_
      refine St.gOff (dj := 32) rfl rfl rfl rfl ?_
      refine St.gOff (dj := 32) rfl rfl rfl rfl ?_
      refine St.gOff (dj := 32) rfl rfl rfl rfl ?_
      refine St.p rfl rfl ?_
      refine St.done ?_
      injection hj1 with hj1
      subst hj1
      refine St.thenN ?_
      exact St.hereE () ⟨rfl, rfl, rfl, rfl, rfl, trivial⟩ (fun _ w => ((.k (.k (.k (.k (.k .z))))) : Keep _ _).sat w)
  · rintro e1
    refine St.cond _ rfl (fun hb3 => ?_) (fun hb3 => ?_)
    · replace h := bif_t hb3 h
      refine St.seq ?_
      refine St.region ?_
      refine St.p rfl rfl ?_
      refine St.p rfl rfl ?_
      refine St.loadB 3 rfl rfl (.head _) rfl rfl ?_
      refine St.p rfl rfl ?_
      refine St.loadB 4 rfl rfl (.head _) rfl rfl ?_
      obtain ⟨x2, hx2, h⟩ := bnd_e h
      refine St.ixL hx2 rfl rfl rfl (.tail _ (.tail _ (.tail _ (.tail _ (.head _))))) rfl rfl rfl rfl rfl fun b2 ob2 => ?_
      refine St.p rfl rfl ?_
      refine St.load ob2 1 rfl rfl (.head _) rfl rfl ?_
      refine St.p rfl rfl ?_
      refine St.done ?_
      refine St.thenN ?_
      refine St.prune (Γ' := [(2, _)]) ⟨rfl, trivial⟩ (.d (.d (.d (.d (.d (.d .z)))))) ?_
      refine St.ret ?_
      repeat (first | refine St.thenR ?_ | refine St.blkR ?_)
      injection h with h
      subst h
      exact St.finR Tryd.results19 (.tmp rfl .nil) rfl [] ⟨rfl, rfl⟩ (fun _ w => (.z : Keep _ _).sat w)
    · replace h := bif_f hb3 h
      refine St.skip ?_
      refine St.blkN ?_
      refine St.thenN ?_
      refine St.prune (Γ' := [(14, _), (15, _), (16, _)]) ⟨rfl, rfl, rfl, trivial⟩ (.d (.k (.k (.k (.k .z))))) ?_
      refine St.region ?_
      refine St.p rfl rfl ?_
      refine St.p rfl rfl ?_
      refine St.done ?_
      refine St.thenN ?_
      refine St.round ?_
      refine St.prune (Γ' := [(14, _), (15, _), (16, _)]) ⟨rfl, rfl, rfl, trivial⟩ (.k (.k (.k (.k .z)))) ?_
      refine St.seq ?_
      refine St.region ?_
      refine St.p rfl rfl ?_
      refine St.done ?_
      refine St.thenN ?_
      refine St.seq ?_
      refine St.condT rfl ?_
      refine St.skip ?_
      refine St.thenN ?_
      refine St.prune (Γ' := [(14, _), (15, _), (16, _)]) ⟨rfl, rfl, rfl, trivial⟩ (.k (.k (.k (.k .z)))) ?_
      refine St.seq ?_
      refine St.block ?_
      refine St.seq ?_
      refine St.region ?_
      refine St.ixB 5 rfl rfl rfl rfl rfl rfl rfl rfl rfl rfl ?_
      refine St.loadB 5 rfl rfl (.head _) rfl rfl ?_
      refine St.alloc rfl rfl fun g4 => ?_
      refine St.store 0 rfl rfl rfl rfl rfl rfl .z rfl ?_
      refine St.done ?_
      refine St.thenN ?_
      refine St.prune (Γ' := [(4, _), (14, _), (15, _), (16, _)]) ⟨rfl, rfl, rfl, rfl, trivial⟩ (.k (.k (.k (.k (.k .z))))) ?_
      refine St.seq ?_
      obtain ⟨o2, hj2, h⟩ := bnd_e h
      refine St.cutE (fun (e2 : Unit) => [(4, .pointer (some ⟨g4, 0, none⟩)), (14, .slice (some ⟨g2, 0, none⟩) 3 3), (15, .int .i64 ((3 : Nat) : Int)), (16, .int .i64 1), (42, .bool o2)]) (fun e2 => .res (Box g4 72 [.bool i_p0.Board.Present, .int .u8 i_p0.Board.Code, .int .u32 i_p0.Board.Minutes, .slice A2 i_p0.Board.Fields.length c2, .int .i64 2]) :: .res (Box g2 72 [.bool i_p0.Product.Present, .int .u8 i_p0.Product.Code, .int .u32 i_p0.Product.Minutes, .slice A3 i_p0.Product.Fields.length c3, .int .i64 4, .bool i_p0.Board.Present, .int .u8 i_p0.Board.Code, .int .u32 i_p0.Board.Minutes, .slice A2 i_p0.Board.Fields.length c2, .int .i64 2, .bool i_p0.Chassis.Present, .int .u8 i_p0.Chassis.Code, .int .u32 i_p0.Chassis.Minutes, .slice A1 i_p0.Chassis.Fields.length c1, .int .i64 1]) :: .ro (SlL e_Field A1 c1 i_p0.Chassis.Fields) :: .ro (SlL e_Field A2 c2 i_p0.Board.Fields) :: .ro (SlL e_Field A3 c3 i_p0.Product.Fields) :: R) ?_ ?_
      · refine St.region ?_
        refine St.p rfl rfl ?_
        refine St.p rfl rfl ?_
        refine St.loadB 0 rfl rfl (.head _) rfl rfl ?_
        refine St.p rfl rfl ?_
        refine St.gSplit (dj := 23) _ rfl (fun hb4 => ?_) (fun hb4 => ?_)
        · replace hj2 := bif_t hb4 hj2
          refine St.gOn (dj := 23) rfl rfl ?_
          refine St.p rfl rfl ?_
          refine St.gOn (dj := 23) rfl rfl ?_
          refine St.loadB 4 rfl rfl (.head _) rfl rfl ?_
          refine St.gOn (dj := 23) rfl rfl ?_
          refine St.p rfl rfl ?_
          refine St.gOn (dj := 23) rfl rfl ?_
          refine St.p rfl rfl ?_
          refine St.gOn (dj := 23) rfl rfl ?_
          refine St.loadB 3 rfl rfl (.head _) rfl rfl ?_
          refine St.gOn (dj := 23) rfl rfl ?_
          refine St.p rfl rfl ?_
          refine St.gOn (dj := 23) rfl rfl ?_
          iterate 3 refine St.p rfl rfl ?_
          refine St.gSplit (dj := 32) _ rfl (fun hb5 => ?_) (fun hb5 => ?_)
          · replace hj2 := bif_t hb5 hj2
            refine St.gOn (dj := 32) rfl rfl ?_
            refine St.p rfl rfl ?_
            refine St.gOn (dj := 32) rfl rfl ?_
            refine St.p rfl rfl ?_
            refine St.gOn (dj := 32) rfl rfl ?_
            refine St.loadB 3 rfl rfl (.head _) rfl rfl ?_
            refine St.gOn (dj := 32) rfl rfl ?_
            refine St.p rfl rfl ?_
            refine St.gOn (dj := 32) rfl rfl ?_
            refine St.loadB 4 rfl rfl (.head _) rfl rfl ?_
            refine St.gOn (dj := 32) rfl rfl ?_
            obtain ⟨x3, hx3, hj2⟩ := bnd_e hj2
            refine St.ixL hx3 rfl rfl rfl (.tail _ (.tail _ (.tail _ (.head _)))) rfl rfl rfl rfl rfl fun b3 ob3 => ?_
            refine St.gOn (dj := 32) rfl rfl ?_
            refine St.p rfl rfl ?_
            refine St.gOn (dj := 32) rfl rfl ?_
            refine St.load ob3 1 rfl rfl (.head _) rfl rfl ?_
            refine St.gOn (dj := 32) rfl rfl ?_
            refine St.p rfl rfl ?_
            refine St.p rfl rfl ?_
            refine St.done ?_
            injection hj2 with hj2
            subst hj2
            refine St.thenN ?_
            exact St.hereE () ⟨rfl, rfl, rfl, rfl, rfl, trivial⟩ (fun _ w => ((.d (.k (.k (.k (.k (.k .z)))))) : Keep _ _).sat w)
          · replace hj2 := bif_f hb5 hj2
            refine St.gOff (dj := 32) rfl rfl rfl rfl ?_
            refine St.gOff (dj := 32) rfl rfl rfl rfl ?_
            refine St.gOff (dj := 32) rfl rfl rfl rfl ?_
            refine St.gOff (dj := 32) rfl rfl rfl rfl ?_
            refine St.gOff (dj := 32) rfl rfl rfl rfl ?_
            refine St.gOff (dj := 32) rfl rfl rfl rfl ?_
            refine St.gOff (dj := 32) rfl rfl rfl rfl ?_
            refine St.gOff (dj := 32) rfl rfl rfl rfl ?_
            refine St.gOff (dj := 32) rfl rfl rfl rfl ?_
            refine St.p rfl rfl ?_
            refine St.done ?_
            injection hj2 with hj2
            subst hj2
            refine St.thenN ?_
            exact St.hereE () ⟨rfl, rfl, rfl, rfl, rfl, trivial⟩ (fun _ w => ((.k (.k (.k (.k (.k .z))))) : Keep _ _).sat w)
        · replace hj2 := bif_f hb4 hj2
          refine St.gOff (dj := 23) rfl rfl rfl rfl ?_
          refine St.gOff (dj := 23) rfl rfl rfl rfl ?_
          refine St.gOff (dj := 23) rfl rfl rfl rfl ?_
          refine St.gOff (dj := 23) rfl rfl rfl rfl ?_
          refine St.gOff (dj := 23) rfl rfl rfl rfl ?_
          refine St.gOff (dj := 23) rfl rfl rfl rfl ?_
          refine St.gOff (dj := 23) rfl rfl rfl rfl ?_
          refine St.p rfl rfl ?_
          refine St.p rfl rfl ?_
          refine St.gOff (dj := 32) rfl rfl rfl rfl ?_
          refine St.gOff (dj := 32) rfl rfl rfl rfl ?_
          refine St.gOff (dj := 32) rfl rfl rfl rfl ?_
          refine St.gOff (dj := 32) rfl rfl rfl rfl ?_
          refine St.gOff (dj := 32) rfl rfl rfl rfl ?_
          refine St.gOff (dj := 32) rfl rfl rfl rfl ?_
          refine St.gOff (dj := 32) rfl rfl rfl rfl ?_
          refine St.gOff (dj := 32) rfl rfl rfl rfl ?_
          refine St.gOff (dj := 32) rfl rfl rfl rfl ?_
          refine St.p rfl rfl ?_
          refine St.done ?_
          injection hj2 with hj2
          subst hj2
          refine St.thenN ?_
          exact St.hereE () ⟨rfl, rfl, rfl, rfl, rfl, trivial⟩ (fun _ w => ((.k (.k (.k (.k (.k .z))))) : Keep _ _).sat w)
      · rintro e2
        refine St.cond _ rfl (fun hb6 => ?_) (fun hb6 => ?_)
        · replace h := bif_t hb6 h
          refine St.seq ?_
          refine St.region ?_
          refine St.p rfl rfl ?_
          refine St.p rfl rfl ?_
          refine St.loadB 3 rfl rfl (.head _) rfl rfl ?_
          refine St.p rfl rfl ?_
          refine St.loadB 4 rfl rfl (.head _) rfl rfl ?_
          obtain ⟨x4, hx4, h⟩ := bnd_e h
          refine St.ixL hx4 rfl rfl rfl (.tail _ (.tail _ (.tail _ (.head _)))) rfl rfl rfl rfl rfl fun b4 ob4 => ?_
          refine St.p rfl rfl ?_
          refine St.load ob4 1 rfl rfl (.head _) rfl rfl ?_
          refine St.p rfl rfl ?_
          refine St.done ?_
          refine St.thenN ?_
          refine St.prune (Γ' := [(2, _)]) ⟨rfl, trivial⟩ (.d (.d (.d (.d (.d (.d .z)))))) ?_
          refine St.ret ?_
          repeat (first | refine St.thenR ?_ | refine St.blkR ?_)
          injection h with h
          subst h
          exact St.finR Tryd.results19 (.tmp rfl .nil) rfl [] ⟨rfl, rfl⟩ (fun _ w => (.z : Keep _ _).sat w)
        · replace h := bif_f hb6 h
          refine St.skip ?_
          refine St.blkN ?_
          refine St.thenN ?_
          refine St.prune (Γ' := [(14, _), (15, _), (16, _)]) ⟨rfl, rfl, rfl, trivial⟩ (.d (.k (.k (.k (.k .z))))) ?_
          refine St.region ?_
          refine St.p rfl rfl ?_
          refine St.p rfl rfl ?_
          refine St.done ?_
          refine St.thenN ?_
          refine St.round ?_
          refine St.prune (Γ' := [(14, _), (15, _), (16, _)]) ⟨rfl, rfl, rfl, trivial⟩ (.k (.k (.k (.k .z)))) ?_
          refine St.seq ?_
          refine St.region ?_
          refine St.p rfl rfl ?_
          refine St.done ?_
          refine St.thenN ?_
          refine St.seq ?_
          refine St.condT rfl ?_
          refine St.skip ?_
          refine St.thenN ?_
          refine St.prune (Γ' := [(14, _), (15, _), (16, _)]) ⟨rfl, rfl, rfl, trivial⟩ (.k (.k (.k (.k .z)))) ?_
          refine St.seq ?_
          refine St.block ?_
          refine St.seq ?_
          refine St.region ?_
          refine St.ixB 10 rfl rfl rfl rfl rfl rfl rfl rfl rfl rfl ?_
          refine St.loadB 10 rfl rfl (.head _) rfl rfl ?_
          refine St.alloc rfl rfl fun g5 => ?_
          refine St.store 0 rfl rfl rfl rfl rfl rfl .z rfl ?_
          refine St.done ?_
          refine St.thenN ?_
          refine St.prune (Γ' := [(4, _), (14, _), (15, _), (16, _)]) ⟨rfl, rfl, rfl, rfl, trivial⟩ (.k (.k (.k (.k (.k .z))))) ?_
          refine St.seq ?_
          obtain ⟨o3, hj3, h⟩ := bnd_e h
          refine St.cutE (fun (e3 : Unit) => [(4, .pointer (some ⟨g5, 0, none⟩)), (14, .slice (some ⟨g2, 0, none⟩) 3 3), (15, .int .i64 ((3 : Nat) : Int)), (16, .int .i64 2), (42, .bool o3)]) (fun e3 => .res (Box g5 72 [.bool i_p0.Chassis.Present, .int .u8 i_p0.Chassis.Code, .int .u32 i_p0.Chassis.Minutes, .slice A1 i_p0.Chassis.Fields.length c1, .int .i64 1]) :: .res (Box g2 72 [.bool i_p0.Product.Present, .int .u8 i_p0.Product.Code, .int .u32 i_p0.Product.Minutes, .slice A3 i_p0.Product.Fields.length c3, .int .i64 4, .bool i_p0.Board.Present, .int .u8 i_p0.Board.Code, .int .u32 i_p0.Board.Minutes, .slice A2 i_p0.Board.Fields.length c2, .int .i64 2, .bool i_p0.Chassis.Present, .int .u8 i_p0.Chassis.Code, .int .u32 i_p0.Chassis.Minutes, .slice A1 i_p0.Chassis.Fields.length c1, .int .i64 1]) :: .ro (SlL e_Field A1 c1 i_p0.Chassis.Fields) :: .ro (SlL e_Field A2 c2 i_p0.Board.Fields) :: .ro (SlL e_Field A3 c3 i_p0.Product.Fields) :: R) ?_ ?_
          · refine St.region ?_
            refine St.p rfl rfl ?_
            refine St.p rfl rfl ?_
            refine St.loadB 0 rfl rfl (.head _) rfl rfl ?_
            refine St.p rfl rfl ?_
            refine St.gSplit (dj := 23) _ rfl (fun hb7 => ?_) (fun hb7 => ?_)
            · replace hj3 := bif_t hb7 hj3
              refine St.gOn (dj := 23) rfl rfl ?_
              refine St.p rfl rfl ?_
              refine St.gOn (dj := 23) rfl rfl ?_
              refine St.loadB 4 rfl rfl (.head _) rfl rfl ?_
              refine St.gOn (dj := 23) rfl rfl ?_
              refine St.p rfl rfl ?_
              refine St.gOn (dj := 23) rfl rfl ?_
              refine St.p rfl rfl ?_
              refine St.gOn (dj := 23) rfl rfl ?_
              refine St.loadB 3 rfl rfl (.head _) rfl rfl ?_
              refine St.gOn (dj := 23) rfl rfl ?_
              refine St.p rfl rfl ?_
              refine St.gOn (dj := 23) rfl rfl ?_
              iterate 3 refine St.p rfl rfl ?_
              refine St.gSplit (dj := 32) _ rfl (fun hb8 => ?_) (fun hb8 => ?_)
              · replace hj3 := bif_t hb8 hj3
                refine St.gOn (dj := 32) rfl rfl ?_
                refine St.p rfl rfl ?_
                refine St.gOn (dj := 32) rfl rfl ?_
                refine St.p rfl rfl ?_
                refine St.gOn (dj := 32) rfl rfl ?_
                refine St.loadB 3 rfl rfl (.head _) rfl rfl ?_
                refine St.gOn (dj := 32) rfl rfl ?_
                refine St.p rfl rfl ?_
                refine St.gOn (dj := 32) rfl rfl ?_
                refine St.loadB 4 rfl rfl (.head _) rfl rfl ?_
                refine St.gOn (dj := 32) rfl rfl ?_
                obtain ⟨x5, hx5, hj3⟩ := bnd_e hj3
                refine St.ixL hx5 rfl rfl rfl (.tail _ (.tail _ (.head _))) rfl rfl rfl rfl rfl fun b5 ob5 => ?_
                refine St.gOn (dj := 32) rfl rfl ?_
                refine St.p rfl rfl ?_
                refine St.gOn (dj := 32) rfl rfl ?_
                refine St.load ob5 1 rfl rfl (.head _) rfl rfl ?_
                refine St.gOn (dj := 32) rfl rfl ?_
                refine St.p rfl rfl ?_
                refine St.p rfl rfl ?_
                refine St.done ?_
                injection hj3 with hj3
                subst hj3
                refine St.thenN ?_
                exact St.hereE () ⟨rfl, rfl, rfl, rfl, rfl, trivial⟩ (fun _ w => ((.d (.k (.k (.k (.k (.k .z)))))) : Keep _ _).sat w)
              · replace hj3 := bif_f hb8 hj3
                refine St.gOff (dj := 32) rfl rfl rfl rfl ?_
                refine St.gOff (dj := 32) rfl rfl rfl rfl ?_
                refine St.gOff (dj := 32) rfl rfl rfl rfl ?_
                refine St.gOff (dj := 32) rfl rfl rfl rfl ?_
                refine St.gOff (dj := 32) rfl rfl rfl rfl ?_
                refine St.gOff (dj := 32) rfl rfl rfl rfl ?_
                refine St.gOff (dj := 32) rfl rfl rfl rfl ?_
                refine St.gOff (dj := 32) rfl rfl rfl rfl ?_
                refine St.gOff (dj := 32) rfl rfl rfl rfl ?_
                refine St.p rfl rfl ?_
                refine St.done ?_
                injection hj3 with hj3
                subst hj3
                refine St.thenN ?_
                exact St.hereE () ⟨rfl, rfl, rfl, rfl, rfl, trivial⟩ (fun _ w => ((.k (.k (.k (.k (.k .z))))) : Keep _ _).sat w)
            · replace hj3 := bif_f hb7 hj3
              refine St.gOff (dj := 23) rfl rfl rfl rfl ?_
              refine St.gOff (dj := 23) rfl rfl rfl rfl ?_
              refine St.gOff (dj := 23) rfl rfl rfl rfl ?_
              refine St.gOff (dj := 23) rfl rfl rfl rfl ?_
              refine St.gOff (dj := 23) rfl rfl rfl rfl ?_
              refine St.gOff (dj := 23) rfl rfl rfl rfl ?_
              refine St.gOff (dj := 23) rfl rfl rfl rfl ?_
              refine St.p rfl rfl ?_
              refine St.p rfl rfl ?_
              refine St.gOff (dj := 32) rfl rfl rfl rfl ?_
              refine St.gOff (dj := 32) rfl rfl rfl rfl ?_
              refine St.gOff (dj := 32) rfl rfl rfl rfl ?_
              refine St.gOff (dj := 32) rfl rfl rfl rfl ?_
              refine St.gOff (dj := 32) rfl rfl rfl rfl ?_
              refine St.gOff (dj := 32) rfl rfl rfl rfl ?_
              refine St.gOff (dj := 32) rfl rfl rfl rfl ?_
              refine St.gOff (dj := 32) rfl rfl rfl rfl ?_
              refine St.gOff (dj := 32) rfl rfl rfl rfl ?_
              refine St.p rfl rfl ?_
              refine St.done ?_
              injection hj3 with hj3
              subst hj3
              refine St.thenN ?_
              exact St.hereE () ⟨rfl, rfl, rfl, rfl, rfl, trivial⟩ (fun _ w => ((.k (.k (.k (.k (.k .z))))) : Keep _ _).sat w)
          · rintro e3
            refine St.cond _ rfl (fun hb9 => ?_) (fun hb9 => ?_)
            · replace h := bif_t hb9 h
              refine St.seq ?_
              refine St.region ?_
              refine St.p rfl rfl ?_
              refine St.p rfl rfl ?_
              refine St.loadB 3 rfl rfl (.head _) rfl rfl ?_
              refine St.p rfl rfl ?_
              refine St.loadB 4 rfl rfl (.head _) rfl rfl ?_
              obtain ⟨x6, hx6, h⟩ := bnd_e h
              refine St.ixL hx6 rfl rfl rfl (.tail _ (.tail _ (.head _))) rfl rfl rfl rfl rfl fun b6 ob6 => ?_
              refine St.p rfl rfl ?_
              refine St.load ob6 1 rfl rfl (.head _) rfl rfl ?_
              refine St.p rfl rfl ?_
              refine St.done ?_
              refine St.thenN ?_
              refine St.prune (Γ' := [(2, _)]) ⟨rfl, trivial⟩ (.d (.d (.d (.d (.d (.d .z)))))) ?_
              refine St.ret ?_
              repeat (first | refine St.thenR ?_ | refine St.blkR ?_)
              injection h with h
              subst h
              exact St.finR Tryd.results19 (.tmp rfl .nil) rfl [] ⟨rfl, rfl⟩ (fun _ w => (.z : Keep _ _).sat w)
            · replace h := bif_f hb9 h
              refine St.skip ?_
              refine St.blkN ?_
              refine St.thenN ?_
              refine St.prune (Γ' := [(14, _), (15, _), (16, _)]) ⟨rfl, rfl, rfl, trivial⟩ (.d (.k (.k (.k (.k .z))))) ?_
              refine St.region ?_
              refine St.p rfl rfl ?_
              refine St.p rfl rfl ?_
              refine St.done ?_
              refine St.thenN ?_
              refine St.round ?_
              refine St.prune (Γ' := [(14, _), (15, _), (16, _)]) ⟨rfl, rfl, rfl, trivial⟩ (.k (.k (.k (.k .z)))) ?_
              refine St.seq ?_
              refine St.region ?_
              refine St.p rfl rfl ?_
              refine St.done ?_
              refine St.thenN ?_
              refine St.seq ?_
              refine St.condF rfl ?_
              refine St.exit ?_
              repeat (first | refine St.thenX ?_ | refine St.blkMiss rfl ?_)
              refine St.blkHit ?_
              refine St.thenN ?_
              refine St.prune (Γ' := []) trivial (.d (.d (.d (.d .z)))) ?_
              refine St.seq ?_
              refine St.region ?_
              refine St.p rfl rfl ?_
              refine St.done ?_
              refine St.thenN ?_
              refine St.ret ?_
              repeat (first | refine St.thenR ?_ | refine St.blkR ?_)
              injection h with h
              subst h
              exact St.finR Tryd.results19 (.tmp rfl .nil) rfl [] ⟨rfl, rfl⟩ (fun _ w => (.z : Keep _ _).sat w)

theorem ent4 : Ent Tryd.prog 4 := ⟨_, Tryd.func4, by kernel_rfl, by kernel_rfl⟩

noncomputable def m_law17_UnitinfoSerials (product : ByteArray) (board : ByteArray) (chassis : ByteArray) (which : Int) : Option Bool :=
  bnd ((bif decide ((product.size : Int) > 40) then (some true) else (bif decide ((board.size : Int) > 40) then (some true) else (some (decide ((chassis.size : Int) > 40)))) : Option Bool)) fun o1 => bif o1 then (bnd (m_law17_awake) fun r1 => some r1) else (bnd (m_made_Mod which 8) fun r2 => bnd (m_law17_with 4 product ((r2.tmod 2) == 1)) fun r3 => bnd (m_law17_with 2 board (((IntKind.wrap .i64 (r2.tdiv 2)).tmod 2) == 1)) fun r4 => bnd (m_law17_with 1 chassis ((IntKind.wrap .i64 (r2.tdiv 4)) == 1)) fun r5 => bnd ((bif r5.Present then (some chassis) else (some (⟨#[]⟩)) : Option ByteArray)) fun o2 => bnd ((bnd ((bif r4.Present then (some (!(board.toList == ((⟨#[]⟩) : ByteArray).toList))) else (some false) : Option Bool)) fun o4 => bif o4 then (some board) else (some o2) : Option ByteArray)) fun o3 => bnd ((bif r3.Present then (some (!(product.toList == ((⟨#[]⟩) : ByteArray).toList))) else (some false) : Option Bool)) fun o5 => bif o5 then (bnd ((bnd (m_unitinfo_Valid (⟨r5, r4, r3, []⟩ : T_Info)) fun r6 => bif r6 then (bnd (m_unitinfo_Serial (⟨r5, r4, r3, []⟩ : T_Info)) fun r7 => bif (r7.toList == product.toList) then (bnd (m_law17_awake) fun r8 => some r8) else (some false)) else (some false) : Option Bool)) fun o6 => some o6) else (bnd ((bnd (m_unitinfo_Valid (⟨r5, r4, r3, []⟩ : T_Info)) fun r9 => bif r9 then (bnd (m_unitinfo_Serial (⟨r5, r4, r3, []⟩ : T_Info)) fun r10 => bif (r10.toList == o3.toList) then (bnd (m_law17_awake) fun r11 => some r11) else (some false)) else (some false) : Option Bool)) fun o7 => some o7))

set_option maxHeartbeats 4000000 in
theorem c_law17_UnitinfoSerials {product : ByteArray} {board : ByteArray} {chassis : ByteArray} {which : Int} {r : Bool} (h : m_law17_UnitinfoSerials product board chassis which = some r) :
    Fun Tryd.prog 4 [.string product, .string board, .string chassis, .int .i64 which] [.ro (SlL ei64 (some ⟨0, 0, none⟩) 3 ([2, 5, 7] : List Int))] (Val (.bool r)) := by
  unfold m_law17_UnitinfoSerials at h
  refine Fun.intro Tryd.func4 rfl rfl rfl fun w R => ?_
  refine St.seq ?_
  refine St.region ?_
  refine St.p rfl rfl ?_
  refine St.done ?_
  refine St.thenN ?_
  refine St.prune (Γ' := [(0, _), (1, _), (2, _), (3, _)]) ⟨rfl, rfl, rfl, rfl, trivial⟩ (.k .z) ?_
  refine St.seq ?_
  refine St.seq ?_
  obtain ⟨o1, hj1, h⟩ := bnd_e h
  refine St.cutE (fun (e1 : Unit) => [(0, .string product), (1, .string board), (2, .string chassis), (3, .int .i64 which), (24, .bool o1)]) (fun e1 => .ro (SlL ei64 (some ⟨0, 0, none⟩) 3 ([2, 5, 7] : List Int)) :: R) ?_ ?_
  · refine St.region ?_
    iterate 4 refine St.p rfl rfl ?_
    refine St.gSplit (dj := 15) _ rfl (fun hb1 => ?_) (fun hb1 => ?_)
    · replace hj1 := bif_t hb1 hj1
      refine St.gOff (dj := 15) rfl rfl rfl rfl ?_
      refine St.gOff (dj := 15) rfl rfl rfl rfl ?_
      refine St.gOff (dj := 15) rfl rfl rfl rfl ?_
      refine St.p rfl rfl ?_
      refine St.p rfl rfl ?_
      refine St.gOff (dj := 20) rfl rfl rfl rfl ?_
      refine St.gOff (dj := 20) rfl rfl rfl rfl ?_
      refine St.gOff (dj := 20) rfl rfl rfl rfl ?_
      refine St.p rfl rfl ?_
      refine St.done ?_
      injection hj1 with hj1
      subst hj1
      refine St.thenN ?_
      exact St.hereE () ⟨rfl, rfl, rfl, rfl, rfl, trivial⟩ (fun _ w => ((.k .z) : Keep _ _).sat w)
    · replace hj1 := bif_f hb1 hj1
      refine St.gOn (dj := 15) rfl rfl ?_
      refine St.p rfl rfl ?_
      refine St.gOn (dj := 15) rfl rfl ?_
      refine St.p rfl rfl ?_
      refine St.gOn (dj := 15) rfl rfl ?_
      iterate 3 refine St.p rfl rfl ?_
      refine St.gSplit (dj := 20) _ rfl (fun hb2 => ?_) (fun hb2 => ?_)
      · replace hj1 := bif_t hb2 hj1
        refine St.gOff (dj := 20) rfl rfl rfl rfl ?_
        refine St.gOff (dj := 20) rfl rfl rfl rfl ?_
        refine St.gOff (dj := 20) rfl rfl rfl rfl ?_
        refine St.p rfl rfl ?_
        refine St.done ?_
        injection hj1 with hj1
        subst hj1
        refine St.thenN ?_
        exact St.hereE () ⟨rfl, rfl, rfl, rfl, rfl, trivial⟩ (fun _ w => ((.k .z) : Keep _ _).sat w)
      · replace hj1 := bif_f hb2 hj1
        refine St.gOn (dj := 20) rfl rfl ?_
        refine St.p rfl rfl ?_
        refine St.gOn (dj := 20) rfl rfl ?_
        refine St.p rfl rfl ?_
        refine St.gOn (dj := 20) rfl rfl ?_
        refine St.p rfl rfl ?_
        refine St.p rfl rfl ?_
        refine St.done ?_
        injection hj1 with hj1
        subst hj1
        refine St.thenN ?_
        exact St.hereE () ⟨rfl, rfl, rfl, rfl, rfl, trivial⟩ (fun _ w => ((.k .z) : Keep _ _).sat w)
  · rintro e1
    refine St.cond _ rfl (fun hb3 => ?_) (fun hb3 => ?_)
    · replace h := bif_t hb3 h
      refine St.seq ?_
      refine St.region ?_
      obtain ⟨r1, hr1, h⟩ := bnd_e h
      refine St.callV (c_law17_awake hr1) ent10 rfl rfl rfl rfl ⟨(.head _), trivial⟩ ?_
      refine St.p rfl rfl ?_
      refine St.done ?_
      refine St.thenN ?_
      refine St.prune (Γ' := [(8, _)]) ⟨rfl, trivial⟩ (.k .z) ?_
      refine St.ret ?_
      repeat (first | refine St.thenR ?_ | refine St.blkR ?_)
      injection h with h
      subst h
      exact St.finR Tryd.results4 (.tmp rfl .nil) rfl [] ⟨rfl, rfl⟩ (fun _ w => ((.d .z) : Keep _ _).sat w)
    · replace h := bif_f hb3 h
      refine St.skip ?_
      refine St.thenN ?_
      refine St.prune (Γ' := [(0, _), (1, _), (2, _), (3, _)]) ⟨rfl, rfl, rfl, rfl, trivial⟩ (.k .z) ?_
      refine St.seq ?_
      refine St.region ?_
      refine St.p rfl rfl ?_
      obtain ⟨r2, hr2, h⟩ := bnd_e h
      refine St.callV (c_made_Mod hr2) ent21 rfl rfl rfl rfl trivial ?_
      refine St.p rfl rfl ?_
      refine St.done ?_
      refine St.thenN ?_
      refine St.prune (Γ' := [(0, _), (1, _), (2, _), (9, _)]) ⟨rfl, rfl, rfl, rfl, trivial⟩ (.k .z) ?_
      refine St.seq ?_
      refine St.region ?_
      iterate 4 refine St.p rfl rfl ?_
      obtain ⟨r3, hr3, h⟩ := bnd_e h
      refine St.call (c_law17_with hr3) ent22 rfl rfl rfl (fun _ w => w) ?_
      rintro _ _ ⟨A1, c1, rfl, rfl⟩
      refine St.asrt (F' := .ro (SlL e_Field A1 c1 r3.Fields) :: .ro (SlL ei64 (some ⟨0, 0, none⟩) 3 ([2, 5, 7] : List Int)) :: R) (fun _ w => w) ?_
      iterate 5 refine St.p rfl rfl ?_
      obtain ⟨r4, hr4, h⟩ := bnd_e h
      refine St.call (c_law17_with hr4) ent22 rfl rfl rfl (fun _ w => w) ?_
      rintro _ _ ⟨A2, c2, rfl, rfl⟩
      refine St.asrt (F' := .ro (SlL e_Field A2 c2 r4.Fields) :: .ro (SlL e_Field A1 c1 r3.Fields) :: .ro (SlL ei64 (some ⟨0, 0, none⟩) 3 ([2, 5, 7] : List Int)) :: R) (fun _ w => w) ?_
      iterate 4 refine St.p rfl rfl ?_
      obtain ⟨r5, hr5, h⟩ := bnd_e h
      refine St.call (c_law17_with hr5) ent22 rfl rfl rfl (fun _ w => w) ?_
      rintro _ _ ⟨A3, c3, rfl, rfl⟩
      refine St.asrt (F' := .ro (SlL e_Field A3 c3 r5.Fields) :: .ro (SlL e_Field A2 c2 r4.Fields) :: .ro (SlL e_Field A1 c1 r3.Fields) :: .ro (SlL ei64 (some ⟨0, 0, none⟩) 3 ([2, 5, 7] : List Int)) :: R) (fun _ w => w) ?_
      refine St.p rfl rfl ?_
      refine St.alloc rfl rfl fun g1 => ?_
      refine St.store 0 rfl rfl rfl rfl rfl rfl .z rfl ?_
      refine St.done ?_
      refine St.thenN ?_
      refine St.prune (Γ' := [(0, _), (1, _), (2, _), (10, _)]) ⟨rfl, rfl, rfl, rfl, trivial⟩ (.k (.k (.k (.k (.k .z))))) ?_
      refine St.seq ?_
      refine St.region ?_
      refine St.p rfl rfl ?_
      refine St.done ?_
      refine St.thenN ?_
      refine St.seq ?_
      obtain ⟨o2, hj2, h⟩ := bnd_e h
      refine St.cutE (fun (e2 : Unit) => [(0, .string product), (1, .string board), (10, .pointer (some ⟨g1, 0, none⟩)), (11, .string o2)]) (fun e2 => .res (Box g1 28 [.bool r5.Present, .int .u8 r5.Code, .int .u32 r5.Minutes, .slice A3 r5.Fields.length c3, .bool r4.Present, .int .u8 r4.Code, .int .u32 r4.Minutes, .slice A2 r4.Fields.length c2, .bool r3.Present, .int .u8 r3.Code, .int .u32 r3.Minutes, .slice A1 r3.Fields.length c1, .slice none 0 0]) :: .ro (SlL e_Field A3 c3 r5.Fields) :: .ro (SlL e_Field A2 c2 r4.Fields) :: .ro (SlL e_Field A1 c1 r3.Fields) :: .ro (SlL ei64 (some ⟨0, 0, none⟩) 3 ([2, 5, 7] : List Int)) :: R) ?_ ?_
      · refine St.seq ?_
        refine St.region ?_
        refine St.p rfl rfl ?_
        refine St.p rfl rfl ?_
        refine St.loadB 0 rfl rfl (.head _) rfl rfl ?_
        refine St.done ?_
        refine St.thenN ?_
        refine St.prune (Γ' := [(0, _), (1, _), (2, _), (10, _), (11, _), (47, _)]) ⟨rfl, rfl, rfl, rfl, rfl, rfl, trivial⟩ (.k (.k (.k (.k (.k .z))))) ?_
        refine St.cond _ rfl (fun hb4 => ?_) (fun hb4 => ?_)
        · replace hj2 := bif_t hb4 hj2
          refine St.region ?_
          refine St.p rfl rfl ?_
          refine St.p rfl rfl ?_
          refine St.done ?_
          injection hj2 with hj2
          subst hj2
          refine St.thenN ?_
          exact St.hereE () ⟨rfl, rfl, rfl, rfl, trivial⟩ (fun _ w => ((.k (.k (.k (.k (.k .z))))) : Keep _ _).sat w)
        · replace hj2 := bif_f hb4 hj2
          refine St.skip ?_
          injection hj2 with hj2
          subst hj2
          refine St.thenN ?_
          exact St.hereE () ⟨rfl, rfl, rfl, rfl, trivial⟩ (fun _ w => ((.k (.k (.k (.k (.k .z))))) : Keep _ _).sat w)
      · rintro e2
        refine St.seq ?_
        obtain ⟨o3, hj3, h⟩ := bnd_e h
        refine St.cutE (fun (e3 : Unit) => [(0, .string product), (10, .pointer (some ⟨g1, 0, none⟩)), (11, .string o3)]) (fun e3 => .res (Box g1 28 [.bool r5.Present, .int .u8 r5.Code, .int .u32 r5.Minutes, .slice A3 r5.Fields.length c3, .bool r4.Present, .int .u8 r4.Code, .int .u32 r4.Minutes, .slice A2 r4.Fields.length c2, .bool r3.Present, .int .u8 r3.Code, .int .u32 r3.Minutes, .slice A1 r3.Fields.length c1, .slice none 0 0]) :: .ro (SlL e_Field A3 c3 r5.Fields) :: .ro (SlL e_Field A2 c2 r4.Fields) :: .ro (SlL e_Field A1 c1 r3.Fields) :: .ro (SlL ei64 (some ⟨0, 0, none⟩) 3 ([2, 5, 7] : List Int)) :: R) ?_ ?_
        · refine St.seq ?_
          obtain ⟨o4, hj4, hj3⟩ := bnd_e hj3
          refine St.cutE (fun (e4 : Unit) => [(0, .string product), (1, .string board), (10, .pointer (some ⟨g1, 0, none⟩)), (11, .string o2), (55, .bool o4)]) (fun e4 => .res (Box g1 28 [.bool r5.Present, .int .u8 r5.Code, .int .u32 r5.Minutes, .slice A3 r5.Fields.length c3, .bool r4.Present, .int .u8 r4.Code, .int .u32 r4.Minutes, .slice A2 r4.Fields.length c2, .bool r3.Present, .int .u8 r3.Code, .int .u32 r3.Minutes, .slice A1 r3.Fields.length c1, .slice none 0 0]) :: .ro (SlL e_Field A3 c3 r5.Fields) :: .ro (SlL e_Field A2 c2 r4.Fields) :: .ro (SlL e_Field A1 c1 r3.Fields) :: .ro (SlL ei64 (some ⟨0, 0, none⟩) 3 ([2, 5, 7] : List Int)) :: R) ?_ ?_
          · refine St.region ?_
            refine St.p rfl rfl ?_
            refine St.p rfl rfl ?_
            refine St.loadB 4 rfl rfl (.head _) rfl rfl ?_
            refine St.p rfl rfl ?_
            refine St.gSplit (dj := 52) _ rfl (fun hb5 => ?_) (fun hb5 => ?_)
            · replace hj4 := bif_t hb5 hj4
              refine St.gOn (dj := 52) rfl rfl ?_
              refine St.p rfl rfl ?_
              refine St.gOn (dj := 52) rfl rfl ?_
              refine St.p rfl rfl ?_
              refine St.p rfl rfl ?_
              refine St.done ?_
              injection hj4 with hj4
              subst hj4
              refine St.thenN ?_
              exact St.hereE () ⟨rfl, rfl, rfl, rfl, rfl, trivial⟩ (fun _ w => ((.k (.k (.k (.k (.k .z))))) : Keep _ _).sat w)
            · replace hj4 := bif_f hb5 hj4
              refine St.gOff (dj := 52) rfl rfl rfl rfl ?_
              refine St.gOff (dj := 52) rfl rfl rfl rfl ?_
              refine St.p rfl rfl ?_
              refine St.done ?_
              injection hj4 with hj4
              subst hj4
              refine St.thenN ?_
              exact St.hereE () ⟨rfl, rfl, rfl, rfl, rfl, trivial⟩ (fun _ w => ((.k (.k (.k (.k (.k .z))))) : Keep _ _).sat w)
          · rintro e4
            refine St.cond _ rfl (fun hb6 => ?_) (fun hb6 => ?_)
            · replace hj3 := bif_t hb6 hj3
              refine St.region ?_
              refine St.p rfl rfl ?_
              refine St.p rfl rfl ?_
              refine St.done ?_
              injection hj3 with hj3
              subst hj3
              refine St.thenN ?_
              exact St.hereE () ⟨rfl, rfl, rfl, trivial⟩ (fun _ w => ((.k (.k (.k (.k (.k .z))))) : Keep _ _).sat w)
            · replace hj3 := bif_f hb6 hj3
              refine St.skip ?_
              injection hj3 with hj3
              subst hj3
              refine St.thenN ?_
              exact St.hereE () ⟨rfl, rfl, rfl, trivial⟩ (fun _ w => ((.k (.k (.k (.k (.k .z))))) : Keep _ _).sat w)
        · rintro e3
          refine St.seq ?_
          refine St.seq ?_
          obtain ⟨o5, hj5, h⟩ := bnd_e h
          refine St.cutE (fun (e5 : Unit) => [(0, .string product), (10, .pointer (some ⟨g1, 0, none⟩)), (11, .string o3), (63, .bool o5)]) (fun e5 => .res (Box g1 28 [.bool r5.Present, .int .u8 r5.Code, .int .u32 r5.Minutes, .slice A3 r5.Fields.length c3, .bool r4.Present, .int .u8 r4.Code, .int .u32 r4.Minutes, .slice A2 r4.Fields.length c2, .bool r3.Present, .int .u8 r3.Code, .int .u32 r3.Minutes, .slice A1 r3.Fields.length c1, .slice none 0 0]) :: .ro (SlL e_Field A3 c3 r5.Fields) :: .ro (SlL e_Field A2 c2 r4.Fields) :: .ro (SlL e_Field A1 c1 r3.Fields) :: .ro (SlL ei64 (some ⟨0, 0, none⟩) 3 ([2, 5, 7] : List Int)) :: R) ?_ ?_
          · refine St.region ?_
            refine St.p rfl rfl ?_
            refine St.p rfl rfl ?_
            refine St.loadB 8 rfl rfl (.head _) rfl rfl ?_
            refine St.p rfl rfl ?_
            refine St.gSplit (dj := 60) _ rfl (fun hb7 => ?_) (fun hb7 => ?_)
            · replace hj5 := bif_t hb7 hj5
              refine St.gOn (dj := 60) rfl rfl ?_
              refine St.p rfl rfl ?_
              refine St.gOn (dj := 60) rfl rfl ?_
              refine St.p rfl rfl ?_
              refine St.p rfl rfl ?_
              refine St.done ?_
              injection hj5 with hj5
              subst hj5
              refine St.thenN ?_
              exact St.hereE () ⟨rfl, rfl, rfl, rfl, trivial⟩ (fun _ w => ((.k (.k (.k (.k (.k .z))))) : Keep _ _).sat w)
            · replace hj5 := bif_f hb7 hj5
              refine St.gOff (dj := 60) rfl rfl rfl rfl ?_
              refine St.gOff (dj := 60) rfl rfl rfl rfl ?_
              refine St.p rfl rfl ?_
              refine St.done ?_
              injection hj5 with hj5
              subst hj5
              refine St.thenN ?_
              exact St.hereE () ⟨rfl, rfl, rfl, rfl, trivial⟩ (fun _ w => ((.k (.k (.k (.k (.k .z))))) : Keep _ _).sat w)
          · rintro e5
            refine St.cond _ rfl (fun hb8 => ?_) (fun hb8 => ?_)
            · replace h := bif_t hb8 h
              refine St.region ?_
              refine St.p rfl rfl ?_
              refine St.p rfl rfl ?_
              refine St.done ?_
              refine St.thenN ?_
              refine St.prune (Γ' := [(10, _), (11, _)]) ⟨rfl, rfl, trivial⟩ (.k (.k (.k (.k (.k .z))))) ?_
              refine St.seq ?_
              obtain ⟨o6, hj6, h⟩ := bnd_e h
              refine St.cutE (fun (e6 : Unit) => [(8, .bool o6)]) (fun e6 => .ro (SlL ei64 (some ⟨0, 0, none⟩) 3 ([2, 5, 7] : List Int)) :: R) ?_ ?_
              · refine St.region ?_
                refine St.loadB 0 rfl rfl (.head _) rfl rfl ?_
                refine St.asrt (fun _ w => w.nilSl (cod eu8)) ?_
                obtain ⟨r6, hr6, hj6⟩ := bnd_e hj6
                refine St.callV (c_unitinfo_Valid hr6) ent16 rfl rfl rfl rfl ⟨(.tail _ (.tail _ (.head _))), (.tail _ (.tail _ (.tail _ (.head _)))), (.tail _ (.tail _ (.tail _ (.tail _ (.head _))))), (.head _), (.tail _ (.tail _ (.tail _ (.tail _ (.tail _ (.head _)))))), trivial⟩ ?_
                refine St.p rfl rfl ?_
                refine St.gSplit (dj := 67) _ rfl (fun hb9 => ?_) (fun hb9 => ?_)
                · replace hj6 := bif_t hb9 hj6
                  refine St.gOn (dj := 67) rfl rfl ?_
                  refine St.loadB 0 rfl rfl (.tail _ (.head _)) rfl rfl ?_
                  refine St.gOn (dj := 67) rfl rfl ?_
                  refine St.asrt (fun _ w => w.nilSl (cod eu8)) ?_
                  obtain ⟨r7, hr7, hj6⟩ := bnd_e hj6
                  refine St.callV (c_unitinfo_Serial hr7) ent19 rfl rfl rfl rfl ⟨(.tail _ (.tail _ (.tail _ (.head _)))), (.tail _ (.tail _ (.tail _ (.tail _ (.head _))))), (.tail _ (.tail _ (.tail _ (.tail _ (.tail _ (.head _)))))), (.head _), trivial⟩ ?_
                  refine St.gOn (dj := 67) rfl rfl ?_
                  refine St.p rfl rfl ?_
                  refine St.gOn (dj := 67) rfl rfl ?_
                  iterate 3 refine St.p rfl rfl ?_
                  refine St.gSplit (dj := 73) _ rfl (fun hb10 => ?_) (fun hb10 => ?_)
                  · replace hj6 := bif_t hb10 hj6
                    refine St.gOn (dj := 73) rfl rfl ?_
                    obtain ⟨r8, hr8, hj6⟩ := bnd_e hj6
                    refine St.callV (c_law17_awake hr8) ent10 rfl rfl rfl rfl ⟨(.tail _ (.tail _ (.tail _ (.tail _ (.tail _ (.tail _ (.head _))))))), trivial⟩ ?_
                    refine St.p rfl rfl ?_
                    refine St.p rfl rfl ?_
                    refine St.done ?_
                    injection hj6 with hj6
                    subst hj6
                    refine St.thenN ?_
                    exact St.hereE () ⟨rfl, trivial⟩ (fun _ w => ((.d (.d (.d (.d (.d (.d (.k .z))))))) : Keep _ _).sat w)
                  · replace hj6 := bif_f hb10 hj6
                    refine St.gOff (dj := 73) rfl rfl rfl rfl ?_
                    refine St.p rfl rfl ?_
                    refine St.p rfl rfl ?_
                    refine St.done ?_
                    injection hj6 with hj6
                    subst hj6
                    refine St.thenN ?_
                    exact St.hereE () ⟨rfl, trivial⟩ (fun _ w => ((.d (.d (.d (.d (.d (.d (.k .z))))))) : Keep _ _).sat w)
                · replace hj6 := bif_f hb9 hj6
                  refine St.gOff (dj := 67) rfl rfl rfl rfl ?_
                  refine St.gOff (dj := 67) rfl rfl rfl rfl ?_
                  refine St.gOff (dj := 67) rfl rfl rfl rfl ?_
                  refine St.gOff (dj := 67) rfl rfl rfl rfl ?_
                  refine St.p rfl rfl ?_
                  refine St.p rfl rfl ?_
                  refine St.gOff (dj := 73) rfl rfl rfl rfl ?_
                  refine St.p rfl rfl ?_
                  refine St.p rfl rfl ?_
                  refine St.done ?_
                  injection hj6 with hj6
                  subst hj6
                  refine St.thenN ?_
                  exact St.hereE () ⟨rfl, trivial⟩ (fun _ w => ((.d (.d (.d (.d (.d (.k .z)))))) : Keep _ _).sat w)
              · rintro e6
                refine St.ret ?_
                repeat (first | refine St.thenR ?_ | refine St.blkR ?_)
                injection h with h
                subst h
                exact St.finR Tryd.results4 (.tmp rfl .nil) rfl [] ⟨rfl, rfl⟩ (fun _ w => ((.d .z) : Keep _ _).sat w)
            · replace h := bif_f hb8 h
              refine St.skip ?_
              refine St.thenN ?_
              refine St.prune (Γ' := [(10, _), (11, _)]) ⟨rfl, rfl, trivial⟩ (.k (.k (.k (.k (.k .z))))) ?_
              refine St.seq ?_
              obtain ⟨o7, hj7, h⟩ := bnd_e h
              refine St.cutE (fun (e7 : Unit) => [(8, .bool o7)]) (fun e7 => .ro (SlL ei64 (some ⟨0, 0, none⟩) 3 ([2, 5, 7] : List Int)) :: R) ?_ ?_
              · refine St.region ?_
                refine St.loadB 0 rfl rfl (.head _) rfl rfl ?_
                refine St.asrt (fun _ w => w.nilSl (cod eu8)) ?_
                obtain ⟨r9, hr9, hj7⟩ := bnd_e hj7
                refine St.callV (c_unitinfo_Valid hr9) ent16 rfl rfl rfl rfl ⟨(.tail _ (.tail _ (.head _))), (.tail _ (.tail _ (.tail _ (.head _)))), (.tail _ (.tail _ (.tail _ (.tail _ (.head _))))), (.head _), (.tail _ (.tail _ (.tail _ (.tail _ (.tail _ (.head _)))))), trivial⟩ ?_
                refine St.p rfl rfl ?_
                refine St.gSplit (dj := 67) _ rfl (fun hb11 => ?_) (fun hb11 => ?_)
                · replace hj7 := bif_t hb11 hj7
                  refine St.gOn (dj := 67) rfl rfl ?_
                  refine St.loadB 0 rfl rfl (.tail _ (.head _)) rfl rfl ?_
                  refine St.gOn (dj := 67) rfl rfl ?_
                  refine St.asrt (fun _ w => w.nilSl (cod eu8)) ?_
                  obtain ⟨r10, hr10, hj7⟩ := bnd_e hj7
                  refine St.callV (c_unitinfo_Serial hr10) ent19 rfl rfl rfl rfl ⟨(.tail _ (.tail _ (.tail _ (.head _)))), (.tail _ (.tail _ (.tail _ (.tail _ (.head _))))), (.tail _ (.tail _ (.tail _ (.tail _ (.tail _ (.head _)))))), (.head _), trivial⟩ ?_
                  refine St.gOn (dj := 67) rfl rfl ?_
                  refine St.p rfl rfl ?_
                  refine St.gOn (dj := 67) rfl rfl ?_
                  iterate 3 refine St.p rfl rfl ?_
                  refine St.gSplit (dj := 73) _ rfl (fun hb12 => ?_) (fun hb12 => ?_)
                  · replace hj7 := bif_t hb12 hj7
                    refine St.gOn (dj := 73) rfl rfl ?_
                    obtain ⟨r11, hr11, hj7⟩ := bnd_e hj7
                    refine St.callV (c_law17_awake hr11) ent10 rfl rfl rfl rfl ⟨(.tail _ (.tail _ (.tail _ (.tail _ (.tail _ (.tail _ (.head _))))))), trivial⟩ ?_
                    refine St.p rfl rfl ?_
                    refine St.p rfl rfl ?_
                    refine St.done ?_
                    injection hj7 with hj7
                    subst hj7
                    refine St.thenN ?_
                    exact St.hereE () ⟨rfl, trivial⟩ (fun _ w => ((.d (.d (.d (.d (.d (.d (.k .z))))))) : Keep _ _).sat w)
                  · replace hj7 := bif_f hb12 hj7
                    refine St.gOff (dj := 73) rfl rfl rfl rfl ?_
                    refine St.p rfl rfl ?_
                    refine St.p rfl rfl ?_
                    refine St.done ?_
                    injection hj7 with hj7
                    subst hj7
                    refine St.thenN ?_
                    exact St.hereE () ⟨rfl, trivial⟩ (fun _ w => ((.d (.d (.d (.d (.d (.d (.k .z))))))) : Keep _ _).sat w)
                · replace hj7 := bif_f hb11 hj7
                  refine St.gOff (dj := 67) rfl rfl rfl rfl ?_
                  refine St.gOff (dj := 67) rfl rfl rfl rfl ?_
                  refine St.gOff (dj := 67) rfl rfl rfl rfl ?_
                  refine St.gOff (dj := 67) rfl rfl rfl rfl ?_
                  refine St.p rfl rfl ?_
                  refine St.p rfl rfl ?_
                  refine St.gOff (dj := 73) rfl rfl rfl rfl ?_
                  refine St.p rfl rfl ?_
                  refine St.p rfl rfl ?_
                  refine St.done ?_
                  injection hj7 with hj7
                  subst hj7
                  refine St.thenN ?_
                  exact St.hereE () ⟨rfl, trivial⟩ (fun _ w => ((.d (.d (.d (.d (.d (.k .z)))))) : Keep _ _).sat w)
              · rintro e7
                refine St.ret ?_
                repeat (first | refine St.thenR ?_ | refine St.blkR ?_)
                injection h with h
                subst h
                exact St.finR Tryd.results4 (.tmp rfl .nil) rfl [] ⟨rfl, rfl⟩ (fun _ w => ((.d .z) : Keep _ _).sat w)

end Go.Proofs.YtcekbbbjagfacaaDoor
