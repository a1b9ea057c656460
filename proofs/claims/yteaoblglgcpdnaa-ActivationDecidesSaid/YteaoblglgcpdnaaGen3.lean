/-
  Models of functions of the program, and that the functions compute them.
  Conditions: none.
-/
import Derived.Test.YteaoblglgcpdnaaGen2
namespace Go.Proofs.Yteaoblglgcpdnaa
open Go
set_option linter.unusedVariables false
set_option maxRecDepth 4000

set_option maxHeartbeats 4000000 in
theorem c_field_Codes_Need {c_p0 : T_Codes} {A1 : Option Addr} {c1 : Nat} {gb1 : Nat} {r : (T_Codes × T_Need)} (h : m_field_Codes_Need c_p0 = some r) :
    Fun Try.prog 22 [.pointer (some ⟨gb1, 0, none⟩)] [.ro (SlL eu8 A1 c1 c_p0.L), .res (Box gb1 69 [.slice A1 c_p0.L.length c1, .int .i64 c_p0.At])] (fun v_ F_ => ∃ (A1 : Option Addr) (c1 : Nat), v_ = .agg (bx_T_Need r.2).toArray ∧ F_ = [.ro (SlL eu8 A1 c1 r.1.L), .res (Box gb1 69 [.slice A1 r.1.L.length c1, .int .i64 r.1.At])]) := by
  unfold m_field_Codes_Need at h
  refine Fun.intro Try.func22 rfl rfl rfl fun w R => ?_
  refine St.seq ?_
  refine St.region ?_
  refine St.alloc rfl rfl fun g1 => ?_
  refine St.done ?_
  refine St.thenN ?_
  refine St.seq ?_
  refine St.region ?_
  obtain ⟨r1, hr1, h⟩ := bnd_e h
  refine St.call (c_field_names hr1) ent37 rfl rfl rfl (fun _ w => w) ?_
  rintro _ _ ⟨A2, c2, rfl, rfl⟩
  refine St.asrt (F' := .res (OwnL estr 9 A2 c2 r1) :: .res (Box g1 33 [.string (⟨#[]⟩), .int .i64 0, .int .i64 0, .int .i64 0, .string (⟨#[]⟩), .int .i64 0, .int .i64 0, .int .i64 0]) :: .ro (SlL eu8 A1 c1 c_p0.L) :: .res (Box gb1 69 [.slice A1 c_p0.L.length c1, .int .i64 c_p0.At]) :: R) (fun _ w => w) ?_
  refine St.p rfl rfl ?_
  refine St.done ?_
  refine St.thenN ?_
  refine St.prune (Γ' := [(0, _), (2, _), (3, _)]) ⟨rfl, rfl, rfl, trivial⟩ (.k (.k (.k (.k .z)))) ?_
  refine St.seq ?_
  obtain ⟨r2, hr2, h⟩ := bnd_e h
  obtain ⟨x1, hx1, h⟩ := bnd_e h
  obtain ⟨r3, hr3, h⟩ := bnd_e h
  obtain ⟨r4, hr4, h⟩ := bnd_e h
  obtain ⟨x2, hx2, h⟩ := bnd_e h
  obtain ⟨r5, hr5, h⟩ := bnd_e h
  refine St.regionX (iL [(.fl, 0), (.fl, 1), (.fl, 5), (.fl, 9), (.fl, 10), (.fl, 14)] (.alt (iL [(.ef, 2), (.fl, 3)] (.alt (iL [(.ef, 4)] (.alt (iL [(.ef, 6), (.fl, 7), (.fl, 8)] (.alt (iL [(.ef, 11), (.fl, 12)] (.alt (iL [(.ef, 13)] (.alt (iL [(.ef, 15), (.fl, 16), (.fl, 17), (.fl, 18)] (iL [(.ef, 19)] (iL [(.ef, 20)] .nil))) (iL [(.ef, 19)] (iL [(.ef, 15), (.fl, 16), (.fl, 17), (.fl, 18)] (iL [(.ef, 20)] .nil))))) (.alt (iL [(.ef, 15), (.fl, 16), (.fl, 17)] (.alt (iL [(.ef, 13), (.fl, 18)] (iL [(.ef, 19)] (iL [(.ef, 20)] .nil))) (iL [(.ef, 19)] (iL [(.ef, 13), (.fl, 18)] (iL [(.ef, 20)] .nil))))) (iL [(.ef, 19)] (.alt (iL [(.ef, 13)] (iL [(.ef, 15), (.fl, 16), (.fl, 17), (.fl, 18)] (iL [(.ef, 20)] .nil))) (iL [(.ef, 15), (.fl, 16), (.fl, 17)] (iL [(.ef, 13), (.fl, 18)] (iL [(.ef, 20)] .nil)))))))) (iL [(.ef, 19)] (iL [(.ef, 11), (.fl, 12)] (.alt (iL [(.ef, 13)] (iL [(.ef, 15), (.fl, 16), (.fl, 17), (.fl, 18)] (iL [(.ef, 20)] .nil))) (iL [(.ef, 15), (.fl, 16), (.fl, 17)] (iL [(.ef, 13), (.fl, 18)] (iL [(.ef, 20)] .nil)))))))) (iL [(.ef, 19)] (iL [(.ef, 6), (.fl, 7), (.fl, 8)] (iL [(.ef, 11), (.fl, 12)] (.alt (iL [(.ef, 13)] (iL [(.ef, 15), (.fl, 16), (.fl, 17), (.fl, 18)] (iL [(.ef, 20)] .nil))) (iL [(.ef, 15), (.fl, 16), (.fl, 17)] (iL [(.ef, 13), (.fl, 18)] (iL [(.ef, 20)] .nil))))))))) (.alt (iL [(.ef, 6), (.fl, 7), (.fl, 8)] (.alt (iL [(.ef, 4)] (.alt (iL [(.ef, 11), (.fl, 12)] (.alt (iL [(.ef, 13)] (.alt (iL [(.ef, 15), (.fl, 16), (.fl, 17), (.fl, 18)] (iL [(.ef, 19)] (iL [(.ef, 20)] .nil))) (iL [(.ef, 19)] (iL [(.ef, 15), (.fl, 16), (.fl, 17), (.fl, 18)] (iL [(.ef, 20)] .nil))))) (.alt (iL [(.ef, 15), (.fl, 16), (.fl, 17)] (.alt (iL [(.ef, 13), (.fl, 18)] (iL [(.ef, 19)] (iL [(.ef, 20)] .nil))) (iL [(.ef, 19)] (iL [(.ef, 13), (.fl, 18)] (iL [(.ef, 20)] .nil))))) (iL [(.ef, 19)] (.alt (iL [(.ef, 13)] (iL [(.ef, 15), (.fl, 16), (.fl, 17), (.fl, 18)] (iL [(.ef, 20)] .nil))) (iL [(.ef, 15), (.fl, 16), (.fl, 17)] (iL [(.ef, 13), (.fl, 18)] (iL [(.ef, 20)] .nil)))))))) (iL [(.ef, 19)] (iL [(.ef, 11), (.fl, 12)] (.alt (iL [(.ef, 13)] (iL [(.ef, 15), (.fl, 16), (.fl, 17), (.fl, 18)] (iL [(.ef, 20)] .nil))) (iL [(.ef, 15), (.fl, 16), (.fl, 17)] (iL [(.ef, 13), (.fl, 18)] (iL [(.ef, 20)] .nil)))))))) (.alt (iL [(.ef, 11), (.fl, 12)] (.alt (iL [(.ef, 4)] (.alt (iL [(.ef, 13)] (.alt (iL [(.ef, 15), (.fl, 16), (.fl, 17), (.fl, 18)] (iL [(.ef, 19)] (iL [(.ef, 20)] .nil))) (iL [(.ef, 19)] (iL [(.ef, 15), (.fl, 16), (.fl, 17), (.fl, 18)] (iL [(.ef, 20)] .nil))))) (.alt (iL [(.ef, 15), (.fl, 16), (.fl, 17)] (.alt (iL [(.ef, 13), (.fl, 18)] (iL [(.ef, 19)] (iL [(.ef, 20)] .nil))) (iL [(.ef, 19)] (iL [(.ef, 13), (.fl, 18)] (iL [(.ef, 20)] .nil))))) (iL [(.ef, 19)] (.alt (iL [(.ef, 13)] (iL [(.ef, 15), (.fl, 16), (.fl, 17), (.fl, 18)] (iL [(.ef, 20)] .nil))) (iL [(.ef, 15), (.fl, 16), (.fl, 17)] (iL [(.ef, 13), (.fl, 18)] (iL [(.ef, 20)] .nil)))))))) (.alt (iL [(.ef, 13)] (.alt (iL [(.ef, 4)] (.alt (iL [(.ef, 15), (.fl, 16), (.fl, 17), (.fl, 18)] (iL [(.ef, 19)] (iL [(.ef, 20)] .nil))) (iL [(.ef, 19)] (iL [(.ef, 15), (.fl, 16), (.fl, 17), (.fl, 18)] (iL [(.ef, 20)] .nil))))) (.alt (iL [(.ef, 15), (.fl, 16), (.fl, 17)] (.alt (iL [(.ef, 4), (.fl, 18)] (iL [(.ef, 19)] (iL [(.ef, 20)] .nil))) (iL [(.ef, 19)] (iL [(.ef, 4), (.fl, 18)] (iL [(.ef, 20)] .nil))))) (iL [(.ef, 19)] (.alt (iL [(.ef, 4)] (iL [(.ef, 15), (.fl, 16), (.fl, 17), (.fl, 18)] (iL [(.ef, 20)] .nil))) (iL [(.ef, 15), (.fl, 16), (.fl, 17)] (iL [(.ef, 4), (.fl, 18)] (iL [(.ef, 20)] .nil)))))))) (.alt (iL [(.ef, 15), (.fl, 16), (.fl, 17)] (.alt (iL [(.ef, 4)] (.alt (iL [(.ef, 13), (.fl, 18)] (iL [(.ef, 19)] (iL [(.ef, 20)] .nil))) (iL [(.ef, 19)] (iL [(.ef, 13), (.fl, 18)] (iL [(.ef, 20)] .nil))))) (.alt (iL [(.ef, 13)] (.alt (iL [(.ef, 4), (.fl, 18)] (iL [(.ef, 19)] (iL [(.ef, 20)] .nil))) (iL [(.ef, 19)] (iL [(.ef, 4), (.fl, 18)] (iL [(.ef, 20)] .nil))))) (iL [(.ef, 19)] (.alt (iL [(.ef, 4)] (iL [(.ef, 13), (.fl, 18)] (iL [(.ef, 20)] .nil))) (iL [(.ef, 13)] (iL [(.ef, 4), (.fl, 18)] (iL [(.ef, 20)] .nil)))))))) (iL [(.ef, 19)] (.alt (iL [(.ef, 4)] (.alt (iL [(.ef, 13)] (iL [(.ef, 15), (.fl, 16), (.fl, 17), (.fl, 18)] (iL [(.ef, 20)] .nil))) (iL [(.ef, 15), (.fl, 16), (.fl, 17)] (iL [(.ef, 13), (.fl, 18)] (iL [(.ef, 20)] .nil))))) (.alt (iL [(.ef, 13)] (.alt (iL [(.ef, 4)] (iL [(.ef, 15), (.fl, 16), (.fl, 17), (.fl, 18)] (iL [(.ef, 20)] .nil))) (iL [(.ef, 15), (.fl, 16), (.fl, 17)] (iL [(.ef, 4), (.fl, 18)] (iL [(.ef, 20)] .nil))))) (iL [(.ef, 15), (.fl, 16), (.fl, 17)] (.alt (iL [(.ef, 4)] (iL [(.ef, 13), (.fl, 18)] (iL [(.ef, 20)] .nil))) (iL [(.ef, 13)] (iL [(.ef, 4), (.fl, 18)] (iL [(.ef, 20)] .nil)))))))))))) (iL [(.ef, 19)] (.alt (iL [(.ef, 4)] (iL [(.ef, 11), (.fl, 12)] (.alt (iL [(.ef, 13)] (iL [(.ef, 15), (.fl, 16), (.fl, 17), (.fl, 18)] (iL [(.ef, 20)] .nil))) (iL [(.ef, 15), (.fl, 16), (.fl, 17)] (iL [(.ef, 13), (.fl, 18)] (iL [(.ef, 20)] .nil)))))) (iL [(.ef, 11), (.fl, 12)] (.alt (iL [(.ef, 4)] (.alt (iL [(.ef, 13)] (iL [(.ef, 15), (.fl, 16), (.fl, 17), (.fl, 18)] (iL [(.ef, 20)] .nil))) (iL [(.ef, 15), (.fl, 16), (.fl, 17)] (iL [(.ef, 13), (.fl, 18)] (iL [(.ef, 20)] .nil))))) (.alt (iL [(.ef, 13)] (.alt (iL [(.ef, 4)] (iL [(.ef, 15), (.fl, 16), (.fl, 17), (.fl, 18)] (iL [(.ef, 20)] .nil))) (iL [(.ef, 15), (.fl, 16), (.fl, 17)] (iL [(.ef, 4), (.fl, 18)] (iL [(.ef, 20)] .nil))))) (iL [(.ef, 15), (.fl, 16), (.fl, 17)] (.alt (iL [(.ef, 4)] (iL [(.ef, 13), (.fl, 18)] (iL [(.ef, 20)] .nil))) (iL [(.ef, 13)] (iL [(.ef, 4), (.fl, 18)] (iL [(.ef, 20)] .nil))))))))))))) (iL [(.ef, 19)] (.alt (iL [(.ef, 4)] (iL [(.ef, 6), (.fl, 7), (.fl, 8)] (iL [(.ef, 11), (.fl, 12)] (.alt (iL [(.ef, 13)] (iL [(.ef, 15), (.fl, 16), (.fl, 17), (.fl, 18)] (iL [(.ef, 20)] .nil))) (iL [(.ef, 15), (.fl, 16), (.fl, 17)] (iL [(.ef, 13), (.fl, 18)] (iL [(.ef, 20)] .nil))))))) (iL [(.ef, 6), (.fl, 7), (.fl, 8)] (.alt (iL [(.ef, 4)] (iL [(.ef, 11), (.fl, 12)] (.alt (iL [(.ef, 13)] (iL [(.ef, 15), (.fl, 16), (.fl, 17), (.fl, 18)] (iL [(.ef, 20)] .nil))) (iL [(.ef, 15), (.fl, 16), (.fl, 17)] (iL [(.ef, 13), (.fl, 18)] (iL [(.ef, 20)] .nil)))))) (iL [(.ef, 11), (.fl, 12)] (.alt (iL [(.ef, 4)] (.alt (iL [(.ef, 13)] (iL [(.ef, 15), (.fl, 16), (.fl, 17), (.fl, 18)] (iL [(.ef, 20)] .nil))) (iL [(.ef, 15), (.fl, 16), (.fl, 17)] (iL [(.ef, 13), (.fl, 18)] (iL [(.ef, 20)] .nil))))) (.alt (iL [(.ef, 13)] (.alt (iL [(.ef, 4)] (iL [(.ef, 15), (.fl, 16), (.fl, 17), (.fl, 18)] (iL [(.ef, 20)] .nil))) (iL [(.ef, 15), (.fl, 16), (.fl, 17)] (iL [(.ef, 4), (.fl, 18)] (iL [(.ef, 20)] .nil))))) (iL [(.ef, 15), (.fl, 16), (.fl, 17)] (.alt (iL [(.ef, 4)] (iL [(.ef, 13), (.fl, 18)] (iL [(.ef, 20)] .nil))) (iL [(.ef, 13)] (iL [(.ef, 4), (.fl, 18)] (iL [(.ef, 20)] .nil))))))))))))))) (iL [(.ef, 19)] (iL [(.ef, 2), (.fl, 3)] (.alt (iL [(.ef, 4)] (iL [(.ef, 6), (.fl, 7), (.fl, 8)] (iL [(.ef, 11), (.fl, 12)] (.alt (iL [(.ef, 13)] (iL [(.ef, 15), (.fl, 16), (.fl, 17), (.fl, 18)] (iL [(.ef, 20)] .nil))) (iL [(.ef, 15), (.fl, 16), (.fl, 17)] (iL [(.ef, 13), (.fl, 18)] (iL [(.ef, 20)] .nil))))))) (iL [(.ef, 6), (.fl, 7), (.fl, 8)] (.alt (iL [(.ef, 4)] (iL [(.ef, 11), (.fl, 12)] (.alt (iL [(.ef, 13)] (iL [(.ef, 15), (.fl, 16), (.fl, 17), (.fl, 18)] (iL [(.ef, 20)] .nil))) (iL [(.ef, 15), (.fl, 16), (.fl, 17)] (iL [(.ef, 13), (.fl, 18)] (iL [(.ef, 20)] .nil)))))) (iL [(.ef, 11), (.fl, 12)] (.alt (iL [(.ef, 4)] (.alt (iL [(.ef, 13)] (iL [(.ef, 15), (.fl, 16), (.fl, 17), (.fl, 18)] (iL [(.ef, 20)] .nil))) (iL [(.ef, 15), (.fl, 16), (.fl, 17)] (iL [(.ef, 13), (.fl, 18)] (iL [(.ef, 20)] .nil))))) (.alt (iL [(.ef, 13)] (.alt (iL [(.ef, 4)] (iL [(.ef, 15), (.fl, 16), (.fl, 17), (.fl, 18)] (iL [(.ef, 20)] .nil))) (iL [(.ef, 15), (.fl, 16), (.fl, 17)] (iL [(.ef, 4), (.fl, 18)] (iL [(.ef, 20)] .nil))))) (iL [(.ef, 15), (.fl, 16), (.fl, 17)] (.alt (iL [(.ef, 4)] (iL [(.ef, 13), (.fl, 18)] (iL [(.ef, 20)] .nil))) (iL [(.ef, 13)] (iL [(.ef, 4), (.fl, 18)] (iL [(.ef, 20)] .nil))))))))))))))) (.res (Box g1 33 [.string (⟨#[]⟩), .int .i64 0, .int .i64 0, .int .i64 0, .string (⟨#[]⟩), .int .i64 0, .int .i64 0, .int .i64 0]) :: .ro (SlL eu8 A1 c1 c_p0.L) :: R) mixed (by kernel_rfl) (fun _ w => ((.d (.k (.k (.d .z)))) : Keep _ _).sat w) ?_
  refine St.share (Y := ?Ynd1_0) (fun (e : Nat × Nat × Option Addr × Nat × Option Addr × Nat × Option Addr × Nat × Option Addr × Nat) => [(0, .pointer (some ⟨gb1, 0, none⟩)), (2, .pointer (some ⟨g1, 0, none⟩)), (3, .slice (some ⟨e.1, 0, none⟩) r1.length c2), (4, .pointer (some ⟨e.2.1, 0, none⟩)), (6, .slice (some ⟨e.1, 0, none⟩) r1.length c2), (7, .pointer (some ⟨gb1, 0, none⟩)), (8, .int .i64 r2.2), (9, .pointer (some ⟨e.1, Int.toNat r2.2 * 1, none⟩)), (10, .string x1), (11, .pointer (some ⟨gb1, 0, none⟩)), (12, .int .i64 r3.2), (13, .int .i64 (IntKind.wrap .i64 (1 + r3.2))), (14, .agg #[.int .i64 (IntKind.wrap .i64 (1 + r3.2)), .int .i64 0, .int .i64 0]), (15, .slice (some ⟨e.1, 0, none⟩) r1.length c2), (16, .pointer (some ⟨gb1, 0, none⟩)), (17, .int .i64 r4.2), (18, .pointer (some ⟨e.1, Int.toNat r4.2 * 1, none⟩)), (19, .string x2), (20, .pointer (some ⟨gb1, 0, none⟩)), (21, .int .i64 r5.2), (22, .int .i64 (IntKind.wrap .i64 (1 + r5.2))), (23, .agg #[.int .i64 (IntKind.wrap .i64 (1 + r5.2)), .int .i64 0, .int .i64 0]), (24, .agg #[.string x1, .int .i64 (IntKind.wrap .i64 (1 + r3.2)), .int .i64 0, .int .i64 0, .string x2, .int .i64 (IntKind.wrap .i64 (1 + r5.2)), .int .i64 0, .int .i64 0])]) (fun e => .res (Box e.2.1 33 [.string (⟨#[]⟩), .int .i64 0, .int .i64 0, .int .i64 0, .string (⟨#[]⟩), .int .i64 0, .int .i64 0, .int .i64 0]) :: .ro (SlL eu8 e.2.2.1 e.2.2.2.1 r5.1.L) :: .res (Box gb1 69 [.slice e.2.2.1 r5.1.L.length e.2.2.2.1, .int .i64 r5.1.At]) :: .ro (SlL eu8 e.2.2.2.2.1 e.2.2.2.2.2.1 r4.1.L) :: .ro (SlL eu8 e.2.2.2.2.2.2.1 e.2.2.2.2.2.2.2.1 r3.1.L) :: .ro (SlL eu8 e.2.2.2.2.2.2.2.2.1 e.2.2.2.2.2.2.2.2.2 r2.1.L) :: .res (OwnL estr 9 (some ⟨e.1, 0, none⟩) c2 r1) :: .res (Box g1 33 [.string (⟨#[]⟩), .int .i64 0, .int .i64 0, .int .i64 0, .string (⟨#[]⟩), .int .i64 0, .int .i64 0, .int .i64 0]) :: .ro (SlL eu8 A1 c1 c_p0.L) :: R) (fun hnd1_0 => ?mnd1_0) ?tnd1_0
  case mnd1_0 =>
    refine St.share (Y := ?Ynd1_1) (fun (e : Nat × Option Addr × Nat × Option Addr × Nat × Option Addr × Nat × Option Addr × Nat) => [(0, .pointer (some ⟨gb1, 0, none⟩)), (2, .pointer (some ⟨g1, 0, none⟩)), (3, .slice (some ⟨e.1, 0, none⟩) r1.length c2), (6, .slice (some ⟨e.1, 0, none⟩) r1.length c2), (7, .pointer (some ⟨gb1, 0, none⟩)), (8, .int .i64 r2.2), (9, .pointer (some ⟨e.1, Int.toNat r2.2 * 1, none⟩)), (10, .string x1), (11, .pointer (some ⟨gb1, 0, none⟩)), (12, .int .i64 r3.2), (13, .int .i64 (IntKind.wrap .i64 (1 + r3.2))), (14, .agg #[.int .i64 (IntKind.wrap .i64 (1 + r3.2)), .int .i64 0, .int .i64 0]), (15, .slice (some ⟨e.1, 0, none⟩) r1.length c2), (16, .pointer (some ⟨gb1, 0, none⟩)), (17, .int .i64 r4.2), (18, .pointer (some ⟨e.1, Int.toNat r4.2 * 1, none⟩)), (19, .string x2), (20, .pointer (some ⟨gb1, 0, none⟩)), (21, .int .i64 r5.2), (22, .int .i64 (IntKind.wrap .i64 (1 + r5.2))), (23, .agg #[.int .i64 (IntKind.wrap .i64 (1 + r5.2)), .int .i64 0, .int .i64 0]), (24, .agg #[.string x1, .int .i64 (IntKind.wrap .i64 (1 + r3.2)), .int .i64 0, .int .i64 0, .string x2, .int .i64 (IntKind.wrap .i64 (1 + r5.2)), .int .i64 0, .int .i64 0])]) (fun e => .ro (SlL eu8 e.2.1 e.2.2.1 r5.1.L) :: .res (Box gb1 69 [.slice e.2.1 r5.1.L.length e.2.2.1, .int .i64 r5.1.At]) :: .ro (SlL eu8 e.2.2.2.1 e.2.2.2.2.1 r4.1.L) :: .ro (SlL eu8 e.2.2.2.2.2.1 e.2.2.2.2.2.2.1 r3.1.L) :: .ro (SlL eu8 e.2.2.2.2.2.2.2.1 e.2.2.2.2.2.2.2.2 r2.1.L) :: .res (OwnL estr 9 (some ⟨e.1, 0, none⟩) c2 r1) :: .res (Box g1 33 [.string (⟨#[]⟩), .int .i64 0, .int .i64 0, .int .i64 0, .string (⟨#[]⟩), .int .i64 0, .int .i64 0, .int .i64 0]) :: .ro (SlL eu8 A1 c1 c_p0.L) :: R) (fun hnd1_1 => ?mnd1_1) ?tnd1_1
    case mnd1_1 =>
      refine St.share (Y := ?Ynd1_2) (fun (e : Nat × Nat × Option Addr × Nat × Option Addr × Nat × Option Addr × Nat) => [(0, .pointer (some ⟨gb1, 0, none⟩)), (2, .pointer (some ⟨g1, 0, none⟩)), (3, .slice (some ⟨e.1, 0, none⟩) r1.length c2), (4, .pointer (some ⟨e.2.1, 0, none⟩)), (6, .slice (some ⟨e.1, 0, none⟩) r1.length c2), (7, .pointer (some ⟨gb1, 0, none⟩)), (8, .int .i64 r2.2), (9, .pointer (some ⟨e.1, Int.toNat r2.2 * 1, none⟩)), (10, .string x1), (11, .pointer (some ⟨gb1, 0, none⟩)), (12, .int .i64 r3.2), (13, .int .i64 (IntKind.wrap .i64 (1 + r3.2))), (14, .agg #[.int .i64 (IntKind.wrap .i64 (1 + r3.2)), .int .i64 0, .int .i64 0]), (15, .slice (some ⟨e.1, 0, none⟩) r1.length c2), (16, .pointer (some ⟨gb1, 0, none⟩)), (17, .int .i64 r4.2), (18, .pointer (some ⟨e.1, Int.toNat r4.2 * 1, none⟩)), (19, .string x2), (20, .pointer (some ⟨gb1, 0, none⟩))]) (fun e => .res (Box e.2.1 33 [.string (⟨#[]⟩), .int .i64 0, .int .i64 0, .int .i64 0, .string (⟨#[]⟩), .int .i64 0, .int .i64 0, .int .i64 0]) :: .ro (SlL eu8 e.2.2.1 e.2.2.2.1 r4.1.L) :: .res (Box gb1 69 [.slice e.2.2.1 r4.1.L.length e.2.2.2.1, .int .i64 r4.1.At]) :: .ro (SlL eu8 e.2.2.2.2.1 e.2.2.2.2.2.1 r3.1.L) :: .ro (SlL eu8 e.2.2.2.2.2.2.1 e.2.2.2.2.2.2.2 r2.1.L) :: .res (OwnL estr 9 (some ⟨e.1, 0, none⟩) c2 r1) :: .res (Box g1 33 [.string (⟨#[]⟩), .int .i64 0, .int .i64 0, .int .i64 0, .string (⟨#[]⟩), .int .i64 0, .int .i64 0, .int .i64 0]) :: .ro (SlL eu8 A1 c1 c_p0.L) :: R) (fun hnd1_2 => ?mnd1_2) ?tnd1_2
      case mnd1_2 =>
        refine St.share (Y := ?Ynd1_3) (fun (e : Nat × Nat × Option Addr × Nat × Option Addr × Nat × Option Addr × Nat × Option Addr × Nat) => [(0, .pointer (some ⟨gb1, 0, none⟩)), (2, .pointer (some ⟨g1, 0, none⟩)), (3, .slice (some ⟨e.1, 0, none⟩) r1.length c2), (4, .pointer (some ⟨e.2.1, 0, none⟩)), (6, .slice (some ⟨e.1, 0, none⟩) r1.length c2), (7, .pointer (some ⟨gb1, 0, none⟩)), (8, .int .i64 r2.2), (9, .pointer (some ⟨e.1, Int.toNat r2.2 * 1, none⟩)), (10, .string x1), (11, .pointer (some ⟨gb1, 0, none⟩)), (12, .int .i64 r3.2), (13, .int .i64 (IntKind.wrap .i64 (1 + r3.2))), (14, .agg #[.int .i64 (IntKind.wrap .i64 (1 + r3.2)), .int .i64 0, .int .i64 0]), (15, .slice (some ⟨e.1, 0, none⟩) r1.length c2), (16, .pointer (some ⟨gb1, 0, none⟩)), (17, .int .i64 r4.2), (18, .pointer (some ⟨e.1, Int.toNat r4.2 * 1, none⟩)), (20, .pointer (some ⟨gb1, 0, none⟩)), (21, .int .i64 r5.2), (22, .int .i64 (IntKind.wrap .i64 (1 + r5.2))), (23, .agg #[.int .i64 (IntKind.wrap .i64 (1 + r5.2)), .int .i64 0, .int .i64 0])]) (fun e => .res (Box e.2.1 33 [.string (⟨#[]⟩), .int .i64 0, .int .i64 0, .int .i64 0, .string (⟨#[]⟩), .int .i64 0, .int .i64 0, .int .i64 0]) :: .ro (SlL eu8 e.2.2.1 e.2.2.2.1 r5.1.L) :: .res (Box gb1 69 [.slice e.2.2.1 r5.1.L.length e.2.2.2.1, .int .i64 r5.1.At]) :: .ro (SlL eu8 e.2.2.2.2.1 e.2.2.2.2.2.1 r4.1.L) :: .ro (SlL eu8 e.2.2.2.2.2.2.1 e.2.2.2.2.2.2.2.1 r3.1.L) :: .ro (SlL eu8 e.2.2.2.2.2.2.2.2.1 e.2.2.2.2.2.2.2.2.2 r2.1.L) :: .res (OwnL estr 9 (some ⟨e.1, 0, none⟩) c2 r1) :: .res (Box g1 33 [.string (⟨#[]⟩), .int .i64 0, .int .i64 0, .int .i64 0, .string (⟨#[]⟩), .int .i64 0, .int .i64 0, .int .i64 0]) :: .ro (SlL eu8 A1 c1 c_p0.L) :: R) (fun hnd1_3 => ?mnd1_3) ?tnd1_3
        case mnd1_3 =>
          refine St.share (Y := ?Ynd1_4) (fun (e : Nat × Nat × Option Addr × Nat × Option Addr × Nat × Option Addr × Nat × Option Addr × Nat) => [(0, .pointer (some ⟨gb1, 0, none⟩)), (2, .pointer (some ⟨g1, 0, none⟩)), (3, .slice (some ⟨e.1, 0, none⟩) r1.length c2), (4, .pointer (some ⟨e.2.1, 0, none⟩)), (6, .slice (some ⟨e.1, 0, none⟩) r1.length c2), (7, .pointer (some ⟨gb1, 0, none⟩)), (8, .int .i64 r2.2), (9, .pointer (some ⟨e.1, Int.toNat r2.2 * 1, none⟩)), (11, .pointer (some ⟨gb1, 0, none⟩)), (12, .int .i64 r3.2), (13, .int .i64 (IntKind.wrap .i64 (1 + r3.2))), (14, .agg #[.int .i64 (IntKind.wrap .i64 (1 + r3.2)), .int .i64 0, .int .i64 0]), (15, .slice (some ⟨e.1, 0, none⟩) r1.length c2), (16, .pointer (some ⟨gb1, 0, none⟩)), (17, .int .i64 r4.2), (18, .pointer (some ⟨e.1, Int.toNat r4.2 * 1, none⟩)), (19, .string x2), (20, .pointer (some ⟨gb1, 0, none⟩)), (21, .int .i64 r5.2), (22, .int .i64 (IntKind.wrap .i64 (1 + r5.2))), (23, .agg #[.int .i64 (IntKind.wrap .i64 (1 + r5.2)), .int .i64 0, .int .i64 0])]) (fun e => .res (Box e.2.1 33 [.string (⟨#[]⟩), .int .i64 0, .int .i64 0, .int .i64 0, .string (⟨#[]⟩), .int .i64 0, .int .i64 0, .int .i64 0]) :: .ro (SlL eu8 e.2.2.1 e.2.2.2.1 r5.1.L) :: .res (Box gb1 69 [.slice e.2.2.1 r5.1.L.length e.2.2.2.1, .int .i64 r5.1.At]) :: .ro (SlL eu8 e.2.2.2.2.1 e.2.2.2.2.2.1 r4.1.L) :: .ro (SlL eu8 e.2.2.2.2.2.2.1 e.2.2.2.2.2.2.2.1 r3.1.L) :: .ro (SlL eu8 e.2.2.2.2.2.2.2.2.1 e.2.2.2.2.2.2.2.2.2 r2.1.L) :: .res (OwnL estr 9 (some ⟨e.1, 0, none⟩) c2 r1) :: .res (Box g1 33 [.string (⟨#[]⟩), .int .i64 0, .int .i64 0, .int .i64 0, .string (⟨#[]⟩), .int .i64 0, .int .i64 0, .int .i64 0]) :: .ro (SlL eu8 A1 c1 c_p0.L) :: R) (fun hnd1_4 => ?mnd1_4) ?tnd1_4
          case mnd1_4 =>
            refine St.share (Y := ?Ynd1_5) (fun (e : Nat × Option Addr × Nat × Option Addr × Nat × Option Addr × Nat) => [(0, .pointer (some ⟨gb1, 0, none⟩)), (2, .pointer (some ⟨g1, 0, none⟩)), (3, .slice (some ⟨e.1, 0, none⟩) r1.length c2), (6, .slice (some ⟨e.1, 0, none⟩) r1.length c2), (7, .pointer (some ⟨gb1, 0, none⟩)), (8, .int .i64 r2.2), (9, .pointer (some ⟨e.1, Int.toNat r2.2 * 1, none⟩)), (10, .string x1), (11, .pointer (some ⟨gb1, 0, none⟩)), (12, .int .i64 r3.2), (13, .int .i64 (IntKind.wrap .i64 (1 + r3.2))), (14, .agg #[.int .i64 (IntKind.wrap .i64 (1 + r3.2)), .int .i64 0, .int .i64 0]), (15, .slice (some ⟨e.1, 0, none⟩) r1.length c2), (16, .pointer (some ⟨gb1, 0, none⟩)), (17, .int .i64 r4.2), (18, .pointer (some ⟨e.1, Int.toNat r4.2 * 1, none⟩)), (19, .string x2), (20, .pointer (some ⟨gb1, 0, none⟩))]) (fun e => .ro (SlL eu8 e.2.1 e.2.2.1 r4.1.L) :: .res (Box gb1 69 [.slice e.2.1 r4.1.L.length e.2.2.1, .int .i64 r4.1.At]) :: .ro (SlL eu8 e.2.2.2.1 e.2.2.2.2.1 r3.1.L) :: .ro (SlL eu8 e.2.2.2.2.2.1 e.2.2.2.2.2.2 r2.1.L) :: .res (OwnL estr 9 (some ⟨e.1, 0, none⟩) c2 r1) :: .res (Box g1 33 [.string (⟨#[]⟩), .int .i64 0, .int .i64 0, .int .i64 0, .string (⟨#[]⟩), .int .i64 0, .int .i64 0, .int .i64 0]) :: .ro (SlL eu8 A1 c1 c_p0.L) :: R) (fun hnd1_5 => ?mnd1_5) ?tnd1_5
            case mnd1_5 =>
              refine St.share (Y := ?Ynd1_6) (fun (e : Nat × Option Addr × Nat × Option Addr × Nat × Option Addr × Nat × Option Addr × Nat) => [(0, .pointer (some ⟨gb1, 0, none⟩)), (2, .pointer (some ⟨g1, 0, none⟩)), (3, .slice (some ⟨e.1, 0, none⟩) r1.length c2), (6, .slice (some ⟨e.1, 0, none⟩) r1.length c2), (7, .pointer (some ⟨gb1, 0, none⟩)), (8, .int .i64 r2.2), (9, .pointer (some ⟨e.1, Int.toNat r2.2 * 1, none⟩)), (10, .string x1), (11, .pointer (some ⟨gb1, 0, none⟩)), (12, .int .i64 r3.2), (13, .int .i64 (IntKind.wrap .i64 (1 + r3.2))), (14, .agg #[.int .i64 (IntKind.wrap .i64 (1 + r3.2)), .int .i64 0, .int .i64 0]), (15, .slice (some ⟨e.1, 0, none⟩) r1.length c2), (16, .pointer (some ⟨gb1, 0, none⟩)), (17, .int .i64 r4.2), (18, .pointer (some ⟨e.1, Int.toNat r4.2 * 1, none⟩)), (20, .pointer (some ⟨gb1, 0, none⟩)), (21, .int .i64 r5.2), (22, .int .i64 (IntKind.wrap .i64 (1 + r5.2))), (23, .agg #[.int .i64 (IntKind.wrap .i64 (1 + r5.2)), .int .i64 0, .int .i64 0])]) (fun e => .ro (SlL eu8 e.2.1 e.2.2.1 r5.1.L) :: .res (Box gb1 69 [.slice e.2.1 r5.1.L.length e.2.2.1, .int .i64 r5.1.At]) :: .ro (SlL eu8 e.2.2.2.1 e.2.2.2.2.1 r4.1.L) :: .ro (SlL eu8 e.2.2.2.2.2.1 e.2.2.2.2.2.2.1 r3.1.L) :: .ro (SlL eu8 e.2.2.2.2.2.2.2.1 e.2.2.2.2.2.2.2.2 r2.1.L) :: .res (OwnL estr 9 (some ⟨e.1, 0, none⟩) c2 r1) :: .res (Box g1 33 [.string (⟨#[]⟩), .int .i64 0, .int .i64 0, .int .i64 0, .string (⟨#[]⟩), .int .i64 0, .int .i64 0, .int .i64 0]) :: .ro (SlL eu8 A1 c1 c_p0.L) :: R) (fun hnd1_6 => ?mnd1_6) ?tnd1_6
              case mnd1_6 =>
                refine St.share (Y := ?Ynd1_7) (fun (e : Nat × Nat × Option Addr × Nat × Option Addr × Nat × Option Addr × Nat) => [(0, .pointer (some ⟨gb1, 0, none⟩)), (2, .pointer (some ⟨g1, 0, none⟩)), (3, .slice (some ⟨e.1, 0, none⟩) r1.length c2), (4, .pointer (some ⟨e.2.1, 0, none⟩)), (6, .slice (some ⟨e.1, 0, none⟩) r1.length c2), (7, .pointer (some ⟨gb1, 0, none⟩)), (8, .int .i64 r2.2), (9, .pointer (some ⟨e.1, Int.toNat r2.2 * 1, none⟩)), (10, .string x1), (11, .pointer (some ⟨gb1, 0, none⟩)), (12, .int .i64 r3.2), (13, .int .i64 (IntKind.wrap .i64 (1 + r3.2))), (14, .agg #[.int .i64 (IntKind.wrap .i64 (1 + r3.2)), .int .i64 0, .int .i64 0]), (15, .slice (some ⟨e.1, 0, none⟩) r1.length c2), (16, .pointer (some ⟨gb1, 0, none⟩)), (17, .int .i64 r4.2), (18, .pointer (some ⟨e.1, Int.toNat r4.2 * 1, none⟩)), (20, .pointer (some ⟨gb1, 0, none⟩))]) (fun e => .res (Box e.2.1 33 [.string (⟨#[]⟩), .int .i64 0, .int .i64 0, .int .i64 0, .string (⟨#[]⟩), .int .i64 0, .int .i64 0, .int .i64 0]) :: .ro (SlL eu8 e.2.2.1 e.2.2.2.1 r4.1.L) :: .res (Box gb1 69 [.slice e.2.2.1 r4.1.L.length e.2.2.2.1, .int .i64 r4.1.At]) :: .ro (SlL eu8 e.2.2.2.2.1 e.2.2.2.2.2.1 r3.1.L) :: .ro (SlL eu8 e.2.2.2.2.2.2.1 e.2.2.2.2.2.2.2 r2.1.L) :: .res (OwnL estr 9 (some ⟨e.1, 0, none⟩) c2 r1) :: .res (Box g1 33 [.string (⟨#[]⟩), .int .i64 0, .int .i64 0, .int .i64 0, .string (⟨#[]⟩), .int .i64 0, .int .i64 0, .int .i64 0]) :: .ro (SlL eu8 A1 c1 c_p0.L) :: R) (fun hnd1_7 => ?mnd1_7) ?tnd1_7
                case mnd1_7 =>
                  refine St.share (Y := ?Ynd1_8) (fun (e : Nat × Option Addr × Nat × Option Addr × Nat × Option Addr × Nat × Option Addr × Nat) => [(0, .pointer (some ⟨gb1, 0, none⟩)), (2, .pointer (some ⟨g1, 0, none⟩)), (3, .slice (some ⟨e.1, 0, none⟩) r1.length c2), (6, .slice (some ⟨e.1, 0, none⟩) r1.length c2), (7, .pointer (some ⟨gb1, 0, none⟩)), (8, .int .i64 r2.2), (9, .pointer (some ⟨e.1, Int.toNat r2.2 * 1, none⟩)), (11, .pointer (some ⟨gb1, 0, none⟩)), (12, .int .i64 r3.2), (13, .int .i64 (IntKind.wrap .i64 (1 + r3.2))), (14, .agg #[.int .i64 (IntKind.wrap .i64 (1 + r3.2)), .int .i64 0, .int .i64 0]), (15, .slice (some ⟨e.1, 0, none⟩) r1.length c2), (16, .pointer (some ⟨gb1, 0, none⟩)), (17, .int .i64 r4.2), (18, .pointer (some ⟨e.1, Int.toNat r4.2 * 1, none⟩)), (19, .string x2), (20, .pointer (some ⟨gb1, 0, none⟩)), (21, .int .i64 r5.2), (22, .int .i64 (IntKind.wrap .i64 (1 + r5.2))), (23, .agg #[.int .i64 (IntKind.wrap .i64 (1 + r5.2)), .int .i64 0, .int .i64 0])]) (fun e => .ro (SlL eu8 e.2.1 e.2.2.1 r5.1.L) :: .res (Box gb1 69 [.slice e.2.1 r5.1.L.length e.2.2.1, .int .i64 r5.1.At]) :: .ro (SlL eu8 e.2.2.2.1 e.2.2.2.2.1 r4.1.L) :: .ro (SlL eu8 e.2.2.2.2.2.1 e.2.2.2.2.2.2.1 r3.1.L) :: .ro (SlL eu8 e.2.2.2.2.2.2.2.1 e.2.2.2.2.2.2.2.2 r2.1.L) :: .res (OwnL estr 9 (some ⟨e.1, 0, none⟩) c2 r1) :: .res (Box g1 33 [.string (⟨#[]⟩), .int .i64 0, .int .i64 0, .int .i64 0, .string (⟨#[]⟩), .int .i64 0, .int .i64 0, .int .i64 0]) :: .ro (SlL eu8 A1 c1 c_p0.L) :: R) (fun hnd1_8 => ?mnd1_8) ?tnd1_8
                  case mnd1_8 =>
                    refine St.share (Y := ?Ynd1_9) (fun (e : Nat × Nat × Option Addr × Nat × Option Addr × Nat × Option Addr × Nat) => [(0, .pointer (some ⟨gb1, 0, none⟩)), (2, .pointer (some ⟨g1, 0, none⟩)), (3, .slice (some ⟨e.1, 0, none⟩) r1.length c2), (4, .pointer (some ⟨e.2.1, 0, none⟩)), (6, .slice (some ⟨e.1, 0, none⟩) r1.length c2), (7, .pointer (some ⟨gb1, 0, none⟩)), (8, .int .i64 r2.2), (9, .pointer (some ⟨e.1, Int.toNat r2.2 * 1, none⟩)), (11, .pointer (some ⟨gb1, 0, none⟩)), (12, .int .i64 r3.2), (13, .int .i64 (IntKind.wrap .i64 (1 + r3.2))), (14, .agg #[.int .i64 (IntKind.wrap .i64 (1 + r3.2)), .int .i64 0, .int .i64 0]), (15, .slice (some ⟨e.1, 0, none⟩) r1.length c2), (16, .pointer (some ⟨gb1, 0, none⟩)), (17, .int .i64 r4.2), (18, .pointer (some ⟨e.1, Int.toNat r4.2 * 1, none⟩)), (19, .string x2), (20, .pointer (some ⟨gb1, 0, none⟩))]) (fun e => .res (Box e.2.1 33 [.string (⟨#[]⟩), .int .i64 0, .int .i64 0, .int .i64 0, .string (⟨#[]⟩), .int .i64 0, .int .i64 0, .int .i64 0]) :: .ro (SlL eu8 e.2.2.1 e.2.2.2.1 r4.1.L) :: .res (Box gb1 69 [.slice e.2.2.1 r4.1.L.length e.2.2.2.1, .int .i64 r4.1.At]) :: .ro (SlL eu8 e.2.2.2.2.1 e.2.2.2.2.2.1 r3.1.L) :: .ro (SlL eu8 e.2.2.2.2.2.2.1 e.2.2.2.2.2.2.2 r2.1.L) :: .res (OwnL estr 9 (some ⟨e.1, 0, none⟩) c2 r1) :: .res (Box g1 33 [.string (⟨#[]⟩), .int .i64 0, .int .i64 0, .int .i64 0, .string (⟨#[]⟩), .int .i64 0, .int .i64 0, .int .i64 0]) :: .ro (SlL eu8 A1 c1 c_p0.L) :: R) (fun hnd1_9 => ?mnd1_9) ?tnd1_9
                    case mnd1_9 =>
                      refine St.share (Y := ?Ynd1_10) (fun (e : Nat × Nat × Option Addr × Nat × Option Addr × Nat × Option Addr × Nat × Option Addr × Nat) => [(0, .pointer (some ⟨gb1, 0, none⟩)), (2, .pointer (some ⟨g1, 0, none⟩)), (3, .slice (some ⟨e.1, 0, none⟩) r1.length c2), (4, .pointer (some ⟨e.2.1, 0, none⟩)), (6, .slice (some ⟨e.1, 0, none⟩) r1.length c2), (7, .pointer (some ⟨gb1, 0, none⟩)), (8, .int .i64 r2.2), (9, .pointer (some ⟨e.1, Int.toNat r2.2 * 1, none⟩)), (11, .pointer (some ⟨gb1, 0, none⟩)), (12, .int .i64 r3.2), (13, .int .i64 (IntKind.wrap .i64 (1 + r3.2))), (14, .agg #[.int .i64 (IntKind.wrap .i64 (1 + r3.2)), .int .i64 0, .int .i64 0]), (15, .slice (some ⟨e.1, 0, none⟩) r1.length c2), (16, .pointer (some ⟨gb1, 0, none⟩)), (17, .int .i64 r4.2), (18, .pointer (some ⟨e.1, Int.toNat r4.2 * 1, none⟩)), (20, .pointer (some ⟨gb1, 0, none⟩)), (21, .int .i64 r5.2), (22, .int .i64 (IntKind.wrap .i64 (1 + r5.2))), (23, .agg #[.int .i64 (IntKind.wrap .i64 (1 + r5.2)), .int .i64 0, .int .i64 0])]) (fun e => .res (Box e.2.1 33 [.string (⟨#[]⟩), .int .i64 0, .int .i64 0, .int .i64 0, .string (⟨#[]⟩), .int .i64 0, .int .i64 0, .int .i64 0]) :: .ro (SlL eu8 e.2.2.1 e.2.2.2.1 r5.1.L) :: .res (Box gb1 69 [.slice e.2.2.1 r5.1.L.length e.2.2.2.1, .int .i64 r5.1.At]) :: .ro (SlL eu8 e.2.2.2.2.1 e.2.2.2.2.2.1 r4.1.L) :: .ro (SlL eu8 e.2.2.2.2.2.2.1 e.2.2.2.2.2.2.2.1 r3.1.L) :: .ro (SlL eu8 e.2.2.2.2.2.2.2.2.1 e.2.2.2.2.2.2.2.2.2 r2.1.L) :: .res (OwnL estr 9 (some ⟨e.1, 0, none⟩) c2 r1) :: .res (Box g1 33 [.string (⟨#[]⟩), .int .i64 0, .int .i64 0, .int .i64 0, .string (⟨#[]⟩), .int .i64 0, .int .i64 0, .int .i64 0]) :: .ro (SlL eu8 A1 c1 c_p0.L) :: R) (fun hnd1_10 => ?mnd1_10) ?tnd1_10
                      case mnd1_10 =>
                        refine St.share (Y := ?Ynd1_11) (fun (e : Nat × Option Addr × Nat × Option Addr × Nat × Option Addr × Nat) => [(0, .pointer (some ⟨gb1, 0, none⟩)), (2, .pointer (some ⟨g1, 0, none⟩)), (3, .slice (some ⟨e.1, 0, none⟩) r1.length c2), (6, .slice (some ⟨e.1, 0, none⟩) r1.length c2), (7, .pointer (some ⟨gb1, 0, none⟩)), (8, .int .i64 r2.2), (9, .pointer (some ⟨e.1, Int.toNat r2.2 * 1, none⟩)), (10, .string x1), (11, .pointer (some ⟨gb1, 0, none⟩)), (12, .int .i64 r3.2), (13, .int .i64 (IntKind.wrap .i64 (1 + r3.2))), (14, .agg #[.int .i64 (IntKind.wrap .i64 (1 + r3.2)), .int .i64 0, .int .i64 0]), (15, .slice (some ⟨e.1, 0, none⟩) r1.length c2), (16, .pointer (some ⟨gb1, 0, none⟩)), (17, .int .i64 r4.2), (18, .pointer (some ⟨e.1, Int.toNat r4.2 * 1, none⟩)), (20, .pointer (some ⟨gb1, 0, none⟩))]) (fun e => .ro (SlL eu8 e.2.1 e.2.2.1 r4.1.L) :: .res (Box gb1 69 [.slice e.2.1 r4.1.L.length e.2.2.1, .int .i64 r4.1.At]) :: .ro (SlL eu8 e.2.2.2.1 e.2.2.2.2.1 r3.1.L) :: .ro (SlL eu8 e.2.2.2.2.2.1 e.2.2.2.2.2.2 r2.1.L) :: .res (OwnL estr 9 (some ⟨e.1, 0, none⟩) c2 r1) :: .res (Box g1 33 [.string (⟨#[]⟩), .int .i64 0, .int .i64 0, .int .i64 0, .string (⟨#[]⟩), .int .i64 0, .int .i64 0, .int .i64 0]) :: .ro (SlL eu8 A1 c1 c_p0.L) :: R) (fun hnd1_11 => ?mnd1_11) ?tnd1_11
                        case mnd1_11 =>
                          refine St.share (Y := ?Ynd1_12) (fun (e : Nat × Nat × Option Addr × Nat × Option Addr × Nat) => [(0, .pointer (some ⟨gb1, 0, none⟩)), (2, .pointer (some ⟨g1, 0, none⟩)), (3, .slice (some ⟨e.1, 0, none⟩) r1.length c2), (4, .pointer (some ⟨e.2.1, 0, none⟩)), (6, .slice (some ⟨e.1, 0, none⟩) r1.length c2), (7, .pointer (some ⟨gb1, 0, none⟩)), (8, .int .i64 r2.2), (9, .pointer (some ⟨e.1, Int.toNat r2.2 * 1, none⟩)), (10, .string x1), (11, .pointer (some ⟨gb1, 0, none⟩)), (12, .int .i64 r3.2), (13, .int .i64 (IntKind.wrap .i64 (1 + r3.2))), (14, .agg #[.int .i64 (IntKind.wrap .i64 (1 + r3.2)), .int .i64 0, .int .i64 0]), (15, .slice (some ⟨e.1, 0, none⟩) r1.length c2), (16, .pointer (some ⟨gb1, 0, none⟩)), (20, .pointer (some ⟨gb1, 0, none⟩))]) (fun e => .res (Box e.2.1 33 [.string (⟨#[]⟩), .int .i64 0, .int .i64 0, .int .i64 0, .string (⟨#[]⟩), .int .i64 0, .int .i64 0, .int .i64 0]) :: .ro (SlL eu8 e.2.2.1 e.2.2.2.1 r3.1.L) :: .res (Box gb1 69 [.slice e.2.2.1 r3.1.L.length e.2.2.2.1, .int .i64 r3.1.At]) :: .ro (SlL eu8 e.2.2.2.2.1 e.2.2.2.2.2 r2.1.L) :: .res (OwnL estr 9 (some ⟨e.1, 0, none⟩) c2 r1) :: .res (Box g1 33 [.string (⟨#[]⟩), .int .i64 0, .int .i64 0, .int .i64 0, .string (⟨#[]⟩), .int .i64 0, .int .i64 0, .int .i64 0]) :: .ro (SlL eu8 A1 c1 c_p0.L) :: R) (fun hnd1_12 => ?mnd1_12) ?tnd1_12
                          case mnd1_12 =>
                            refine St.share (Y := ?Ynd1_13) (fun (e : Nat × Nat × Option Addr × Nat × Option Addr × Nat × Option Addr × Nat) => [(0, .pointer (some ⟨gb1, 0, none⟩)), (2, .pointer (some ⟨g1, 0, none⟩)), (3, .slice (some ⟨e.1, 0, none⟩) r1.length c2), (4, .pointer (some ⟨e.2.1, 0, none⟩)), (6, .slice (some ⟨e.1, 0, none⟩) r1.length c2), (7, .pointer (some ⟨gb1, 0, none⟩)), (8, .int .i64 r2.2), (9, .pointer (some ⟨e.1, Int.toNat r2.2 * 1, none⟩)), (11, .pointer (some ⟨gb1, 0, none⟩)), (12, .int .i64 r3.2), (13, .int .i64 (IntKind.wrap .i64 (1 + r3.2))), (14, .agg #[.int .i64 (IntKind.wrap .i64 (1 + r3.2)), .int .i64 0, .int .i64 0]), (15, .slice (some ⟨e.1, 0, none⟩) r1.length c2), (16, .pointer (some ⟨gb1, 0, none⟩)), (17, .int .i64 r4.2), (18, .pointer (some ⟨e.1, Int.toNat r4.2 * 1, none⟩)), (20, .pointer (some ⟨gb1, 0, none⟩))]) (fun e => .res (Box e.2.1 33 [.string (⟨#[]⟩), .int .i64 0, .int .i64 0, .int .i64 0, .string (⟨#[]⟩), .int .i64 0, .int .i64 0, .int .i64 0]) :: .ro (SlL eu8 e.2.2.1 e.2.2.2.1 r4.1.L) :: .res (Box gb1 69 [.slice e.2.2.1 r4.1.L.length e.2.2.2.1, .int .i64 r4.1.At]) :: .ro (SlL eu8 e.2.2.2.2.1 e.2.2.2.2.2.1 r3.1.L) :: .ro (SlL eu8 e.2.2.2.2.2.2.1 e.2.2.2.2.2.2.2 r2.1.L) :: .res (OwnL estr 9 (some ⟨e.1, 0, none⟩) c2 r1) :: .res (Box g1 33 [.string (⟨#[]⟩), .int .i64 0, .int .i64 0, .int .i64 0, .string (⟨#[]⟩), .int .i64 0, .int .i64 0, .int .i64 0]) :: .ro (SlL eu8 A1 c1 c_p0.L) :: R) (fun hnd1_13 => ?mnd1_13) ?tnd1_13
                            case mnd1_13 =>
                              refine St.share (Y := ?Ynd1_14) (fun (e : Nat × Option Addr × Nat × Option Addr × Nat) => [(0, .pointer (some ⟨gb1, 0, none⟩)), (2, .pointer (some ⟨g1, 0, none⟩)), (3, .slice (some ⟨e.1, 0, none⟩) r1.length c2), (6, .slice (some ⟨e.1, 0, none⟩) r1.length c2), (7, .pointer (some ⟨gb1, 0, none⟩)), (8, .int .i64 r2.2), (9, .pointer (some ⟨e.1, Int.toNat r2.2 * 1, none⟩)), (10, .string x1), (11, .pointer (some ⟨gb1, 0, none⟩)), (12, .int .i64 r3.2), (13, .int .i64 (IntKind.wrap .i64 (1 + r3.2))), (14, .agg #[.int .i64 (IntKind.wrap .i64 (1 + r3.2)), .int .i64 0, .int .i64 0]), (15, .slice (some ⟨e.1, 0, none⟩) r1.length c2), (16, .pointer (some ⟨gb1, 0, none⟩)), (20, .pointer (some ⟨gb1, 0, none⟩))]) (fun e => .ro (SlL eu8 e.2.1 e.2.2.1 r3.1.L) :: .res (Box gb1 69 [.slice e.2.1 r3.1.L.length e.2.2.1, .int .i64 r3.1.At]) :: .ro (SlL eu8 e.2.2.2.1 e.2.2.2.2 r2.1.L) :: .res (OwnL estr 9 (some ⟨e.1, 0, none⟩) c2 r1) :: .res (Box g1 33 [.string (⟨#[]⟩), .int .i64 0, .int .i64 0, .int .i64 0, .string (⟨#[]⟩), .int .i64 0, .int .i64 0, .int .i64 0]) :: .ro (SlL eu8 A1 c1 c_p0.L) :: R) (fun hnd1_14 => ?mnd1_14) ?tnd1_14
                              case mnd1_14 =>
                                refine St.share (Y := ?Ynd1_15) (fun (e : Nat × Nat × Option Addr × Nat) => [(0, .pointer (some ⟨gb1, 0, none⟩)), (2, .pointer (some ⟨g1, 0, none⟩)), (3, .slice (some ⟨e.1, 0, none⟩) r1.length c2), (4, .pointer (some ⟨e.2.1, 0, none⟩)), (6, .slice (some ⟨e.1, 0, none⟩) r1.length c2), (7, .pointer (some ⟨gb1, 0, none⟩)), (8, .int .i64 r2.2), (9, .pointer (some ⟨e.1, Int.toNat r2.2 * 1, none⟩)), (10, .string x1), (11, .pointer (some ⟨gb1, 0, none⟩)), (15, .slice (some ⟨e.1, 0, none⟩) r1.length c2), (16, .pointer (some ⟨gb1, 0, none⟩)), (20, .pointer (some ⟨gb1, 0, none⟩))]) (fun e => .res (Box e.2.1 33 [.string (⟨#[]⟩), .int .i64 0, .int .i64 0, .int .i64 0, .string (⟨#[]⟩), .int .i64 0, .int .i64 0, .int .i64 0]) :: .ro (SlL eu8 e.2.2.1 e.2.2.2 r2.1.L) :: .res (Box gb1 69 [.slice e.2.2.1 r2.1.L.length e.2.2.2, .int .i64 r2.1.At]) :: .res (OwnL estr 9 (some ⟨e.1, 0, none⟩) c2 r1) :: .res (Box g1 33 [.string (⟨#[]⟩), .int .i64 0, .int .i64 0, .int .i64 0, .string (⟨#[]⟩), .int .i64 0, .int .i64 0, .int .i64 0]) :: .ro (SlL eu8 A1 c1 c_p0.L) :: R) (fun hnd1_15 => ?mnd1_15) ?tnd1_15
                                case mnd1_15 =>
                                  refine St.share (Y := ?Ynd1_16) (fun (e : Nat × Nat × Option Addr × Nat × Option Addr × Nat) => [(0, .pointer (some ⟨gb1, 0, none⟩)), (2, .pointer (some ⟨g1, 0, none⟩)), (3, .slice (some ⟨e.1, 0, none⟩) r1.length c2), (4, .pointer (some ⟨e.2.1, 0, none⟩)), (6, .slice (some ⟨e.1, 0, none⟩) r1.length c2), (7, .pointer (some ⟨gb1, 0, none⟩)), (8, .int .i64 r2.2), (9, .pointer (some ⟨e.1, Int.toNat r2.2 * 1, none⟩)), (11, .pointer (some ⟨gb1, 0, none⟩)), (12, .int .i64 r3.2), (13, .int .i64 (IntKind.wrap .i64 (1 + r3.2))), (14, .agg #[.int .i64 (IntKind.wrap .i64 (1 + r3.2)), .int .i64 0, .int .i64 0]), (15, .slice (some ⟨e.1, 0, none⟩) r1.length c2), (16, .pointer (some ⟨gb1, 0, none⟩)), (20, .pointer (some ⟨gb1, 0, none⟩))]) (fun e => .res (Box e.2.1 33 [.string (⟨#[]⟩), .int .i64 0, .int .i64 0, .int .i64 0, .string (⟨#[]⟩), .int .i64 0, .int .i64 0, .int .i64 0]) :: .ro (SlL eu8 e.2.2.1 e.2.2.2.1 r3.1.L) :: .res (Box gb1 69 [.slice e.2.2.1 r3.1.L.length e.2.2.2.1, .int .i64 r3.1.At]) :: .ro (SlL eu8 e.2.2.2.2.1 e.2.2.2.2.2 r2.1.L) :: .res (OwnL estr 9 (some ⟨e.1, 0, none⟩) c2 r1) :: .res (Box g1 33 [.string (⟨#[]⟩), .int .i64 0, .int .i64 0, .int .i64 0, .string (⟨#[]⟩), .int .i64 0, .int .i64 0, .int .i64 0]) :: .ro (SlL eu8 A1 c1 c_p0.L) :: R) (fun hnd1_16 => ?mnd1_16) ?tnd1_16
                                  case mnd1_16 =>
                                    refine St.share (Y := ?Ynd1_17) (fun (e : Nat × Nat × Option Addr × Nat) => [(0, .pointer (some ⟨gb1, 0, none⟩)), (2, .pointer (some ⟨g1, 0, none⟩)), (3, .slice (some ⟨e.1, 0, none⟩) r1.length c2), (4, .pointer (some ⟨e.2.1, 0, none⟩)), (6, .slice (some ⟨e.1, 0, none⟩) r1.length c2), (7, .pointer (some ⟨gb1, 0, none⟩)), (8, .int .i64 r2.2), (9, .pointer (some ⟨e.1, Int.toNat r2.2 * 1, none⟩)), (11, .pointer (some ⟨gb1, 0, none⟩)), (15, .slice (some ⟨e.1, 0, none⟩) r1.length c2), (16, .pointer (some ⟨gb1, 0, none⟩)), (20, .pointer (some ⟨gb1, 0, none⟩))]) (fun e => .res (Box e.2.1 33 [.string (⟨#[]⟩), .int .i64 0, .int .i64 0, .int .i64 0, .string (⟨#[]⟩), .int .i64 0, .int .i64 0, .int .i64 0]) :: .ro (SlL eu8 e.2.2.1 e.2.2.2 r2.1.L) :: .res (Box gb1 69 [.slice e.2.2.1 r2.1.L.length e.2.2.2, .int .i64 r2.1.At]) :: .res (OwnL estr 9 (some ⟨e.1, 0, none⟩) c2 r1) :: .res (Box g1 33 [.string (⟨#[]⟩), .int .i64 0, .int .i64 0, .int .i64 0, .string (⟨#[]⟩), .int .i64 0, .int .i64 0, .int .i64 0]) :: .ro (SlL eu8 A1 c1 c_p0.L) :: R) (fun hnd1_17 => ?mnd1_17) ?tnd1_17
                                    case mnd1_17 =>
                                      refine St.xfl (fun _ h => h) (Rd.p rfl) rfl ?_
                                      refine St.xfl (fun _ h => h) (Rd.p rfl) rfl ?_
                                      refine St.xfl (fun _ h => h) (Rd.p rfl) rfl ?_
                                      refine St.xfl (fun _ h => h) (Rd.p rfl) rfl ?_
                                      refine St.xfl (fun _ h => h) (Rd.p rfl) rfl ?_
                                      refine St.xfl (fun _ h => h) (Rd.p rfl) rfl ?_
                                      refine St.xalt ?_ ?_
                                      · refine St.xef ?_
                                        refine St.call (c_field_Codes_Next hr2) ent26 rfl rfl rfl (fun _ w => Sat.dup (G := [.ro (SlL eu8 A1 c1 c_p0.L)]) rfl ⟨(.tail _ (.tail _ (.tail _ (.head _)))), trivial⟩ (w.front (.s (.s (.s .z))))) ?_
                                        rintro _ _ ⟨A3, c3, rfl, rfl⟩
                                        refine St.asrt (F' := .ro (SlL eu8 A3 c3 r2.1.L) :: .res (Box gb1 69 [.slice A3 r2.1.L.length c3, .int .i64 r2.1.At]) :: .res (OwnL estr 9 A2 c2 r1) :: .res (Box g1 33 [.string (⟨#[]⟩), .int .i64 0, .int .i64 0, .int .i64 0, .string (⟨#[]⟩), .int .i64 0, .int .i64 0, .int .i64 0]) :: .ro (SlL eu8 A1 c1 c_p0.L) :: R) (fun _ w => w) ?_
                                        refine St.xk (fun _ w => ((.d (.d (.d (.k (.k .z))))) : Keep _ _).sat w) ?_
                                        refine St.openO (.tail _ (.tail _ (.head _))) hx1 fun gA2 hA => ?_
                                        subst hA
                                        refine St.xfl (fun _ h => h) (Rd.ixO (E := estr) hx1 rfl rfl rfl rfl rfl rfl rfl) rfl ?_
                                        refine St.xalt ?_ ?_
                                        · refine St.xef ?_
                                          refine St.ldO 0 hx1 rfl rfl (.tail _ (.tail _ (.head _))) rfl rfl ?_
                                          refine St.xk (fun _ w => ((.d (.d (.d (.k (.k .z))))) : Keep _ _).sat w) ?_
                                          refine St.xalt ?_ ?_
                                          · refine St.xef ?_
                                            refine St.call (c_field_Codes_Next hr3) ent26 rfl rfl rfl (fun _ w => Sat.dup (G := [.ro (SlL eu8 A3 c3 r2.1.L)]) rfl ⟨(.tail _ (.head _)), trivial⟩ (w.front (.s .z))) ?_
                                            rintro _ _ ⟨A4, c4, rfl, rfl⟩
                                            refine St.asrt (F' := .ro (SlL eu8 A4 c4 r3.1.L) :: .res (Box gb1 69 [.slice A4 r3.1.L.length c4, .int .i64 r3.1.At]) :: .ro (SlL eu8 A3 c3 r2.1.L) :: .res (OwnL estr 9 (some ⟨gA2, 0, none⟩) c2 r1) :: .res (Box g1 33 [.string (⟨#[]⟩), .int .i64 0, .int .i64 0, .int .i64 0, .string (⟨#[]⟩), .int .i64 0, .int .i64 0, .int .i64 0]) :: .ro (SlL eu8 A1 c1 c_p0.L) :: R) (fun _ w => w) ?_
                                            refine St.xk (fun _ w => ((.d (.d (.d (.d (.k (.k .z)))))) : Keep _ _).sat w) ?_
                                            refine St.xfl (fun _ h => h) (Rd.p rfl) rfl ?_
                                            refine St.xfl (fun _ h => h) (Rd.p rfl) rfl ?_
                                            refine hnd1_14 _ _ (gA2, A4, c4, A3, c3) ?_ ?_
                                            · exact ⟨rfl, rfl, rfl, rfl, rfl, rfl, rfl, rfl, rfl, rfl, rfl, rfl, rfl, rfl, rfl, trivial⟩
                                            · exact fun _ w => ((.k (.k (.k (.k (.k (.k .z)))))) : Keep _ _).sat w
                                          · refine St.xef ?_
                                            refine St.alloc rfl rfl fun g3 => ?_
                                            refine St.xk (fun _ w => ((.d (.d (.d (.d (.k (.k .z)))))) : Keep _ _).sat w) ?_
                                            refine hnd1_15 _ _ (gA2, g3, A3, c3) ?_ ?_
                                            · exact ⟨rfl, rfl, rfl, rfl, rfl, rfl, rfl, rfl, rfl, rfl, rfl, rfl, rfl, trivial⟩
                                            · exact fun _ w => ((.k (.k (.k (.k (.k (.k .z)))))) : Keep _ _).sat w
                                        · refine St.xalt ?_ ?_
                                          · refine St.xef ?_
                                            refine St.call (c_field_Codes_Next hr3) ent26 rfl rfl rfl (fun _ w => Sat.dup (G := [.ro (SlL eu8 A3 c3 r2.1.L)]) rfl ⟨(.tail _ (.head _)), trivial⟩ (w.front (.s .z))) ?_
                                            rintro _ _ ⟨A4, c4, rfl, rfl⟩
                                            refine St.asrt (F' := .ro (SlL eu8 A4 c4 r3.1.L) :: .res (Box gb1 69 [.slice A4 r3.1.L.length c4, .int .i64 r3.1.At]) :: .ro (SlL eu8 A3 c3 r2.1.L) :: .res (OwnL estr 9 (some ⟨gA2, 0, none⟩) c2 r1) :: .res (Box g1 33 [.string (⟨#[]⟩), .int .i64 0, .int .i64 0, .int .i64 0, .string (⟨#[]⟩), .int .i64 0, .int .i64 0, .int .i64 0]) :: .ro (SlL eu8 A1 c1 c_p0.L) :: R) (fun _ w => w) ?_
                                            refine St.xk (fun _ w => ((.d (.d (.d (.d (.k (.k .z)))))) : Keep _ _).sat w) ?_
                                            refine St.xfl (fun _ h => h) (Rd.p rfl) rfl ?_
                                            refine St.xfl (fun _ h => h) (Rd.p rfl) rfl ?_
                                            refine St.xalt ?_ ?_
                                            · refine St.xef ?_
                                              refine St.ldO 0 hx1 rfl rfl (.tail _ (.tail _ (.tail _ (.head _)))) rfl rfl ?_
                                              refine St.xk (fun _ w => ((.d (.d (.d (.d (.k (.k .z)))))) : Keep _ _).sat w) ?_
                                              refine hnd1_14 _ _ (gA2, A4, c4, A3, c3) ?_ ?_
                                              · exact ⟨rfl, rfl, rfl, rfl, rfl, rfl, rfl, rfl, rfl, rfl, rfl, rfl, rfl, rfl, rfl, trivial⟩
                                              · exact fun _ w => ((.k (.k (.k (.k (.k (.k .z)))))) : Keep _ _).sat w
                                            · refine St.xalt ?_ ?_
                                              · refine St.xef ?_
                                                refine St.call (c_field_Codes_Next hr4) ent26 rfl rfl rfl (fun _ w => Sat.dup (G := [.ro (SlL eu8 A4 c4 r3.1.L)]) rfl ⟨(.tail _ (.head _)), trivial⟩ (w.front (.s .z))) ?_
                                                rintro _ _ ⟨A5, c5, rfl, rfl⟩
                                                refine St.asrt (F' := .ro (SlL eu8 A5 c5 r4.1.L) :: .res (Box gb1 69 [.slice A5 r4.1.L.length c5, .int .i64 r4.1.At]) :: .ro (SlL eu8 A4 c4 r3.1.L) :: .ro (SlL eu8 A3 c3 r2.1.L) :: .res (OwnL estr 9 (some ⟨gA2, 0, none⟩) c2 r1) :: .res (Box g1 33 [.string (⟨#[]⟩), .int .i64 0, .int .i64 0, .int .i64 0, .string (⟨#[]⟩), .int .i64 0, .int .i64 0, .int .i64 0]) :: .ro (SlL eu8 A1 c1 c_p0.L) :: R) (fun _ w => w) ?_
                                                refine St.xk (fun _ w => ((.d (.d (.d (.d (.d (.k (.k .z))))))) : Keep _ _).sat w) ?_
                                                refine St.xfl (fun _ h => h) (Rd.ixO (E := estr) hx2 rfl rfl rfl rfl rfl rfl rfl) rfl ?_
                                                refine St.xalt ?_ ?_
                                                · refine St.xef ?_
                                                  refine St.ldO 0 hx1 rfl rfl (.tail _ (.tail _ (.tail _ (.tail _ (.head _))))) rfl rfl ?_
                                                  refine St.xk (fun _ w => ((.d (.d (.d (.d (.d (.k (.k .z))))))) : Keep _ _).sat w) ?_
                                                  refine hnd1_11 _ _ (gA2, A5, c5, A4, c4, A3, c3) ?_ ?_
                                                  · exact ⟨rfl, rfl, rfl, rfl, rfl, rfl, rfl, rfl, rfl, rfl, rfl, rfl, rfl, rfl, rfl, rfl, rfl, trivial⟩
                                                  · exact fun _ w => ((.k (.k (.k (.k (.k (.k (.k .z))))))) : Keep _ _).sat w
                                                · refine St.xalt ?_ ?_
                                                  · refine St.xef ?_
                                                    refine St.ldO 0 hx2 rfl rfl (.tail _ (.tail _ (.tail _ (.tail _ (.head _))))) rfl rfl ?_
                                                    refine St.xk (fun _ w => ((.d (.d (.d (.d (.d (.k (.k .z))))))) : Keep _ _).sat w) ?_
                                                    refine St.xalt ?_ ?_
                                                    · refine St.xef ?_
                                                      refine St.ldO 0 hx1 rfl rfl (.tail _ (.tail _ (.tail _ (.tail _ (.head _))))) rfl rfl ?_
                                                      refine St.xk (fun _ w => ((.d (.d (.d (.d (.d (.k (.k .z))))))) : Keep _ _).sat w) ?_
                                                      refine hnd1_5 _ _ (gA2, A5, c5, A4, c4, A3, c3) ?_ ?_
                                                      · exact ⟨rfl, rfl, rfl, rfl, rfl, rfl, rfl, rfl, rfl, rfl, rfl, rfl, rfl, rfl, rfl, rfl, rfl, rfl, trivial⟩
                                                      · exact fun _ w => ((.k (.k (.k (.k (.k (.k (.k .z))))))) : Keep _ _).sat w
                                                    · refine St.xalt ?_ ?_
                                                      · refine St.xef ?_
                                                        refine St.call (c_field_Codes_Next hr5) ent26 rfl rfl rfl (fun _ w => Sat.dup (G := [.ro (SlL eu8 A5 c5 r4.1.L)]) rfl ⟨(.tail _ (.head _)), trivial⟩ (w.front (.s .z))) ?_
                                                        rintro _ _ ⟨A6, c6, rfl, rfl⟩
                                                        refine St.asrt (F' := .ro (SlL eu8 A6 c6 r5.1.L) :: .res (Box gb1 69 [.slice A6 r5.1.L.length c6, .int .i64 r5.1.At]) :: .ro (SlL eu8 A5 c5 r4.1.L) :: .ro (SlL eu8 A4 c4 r3.1.L) :: .ro (SlL eu8 A3 c3 r2.1.L) :: .res (OwnL estr 9 (some ⟨gA2, 0, none⟩) c2 r1) :: .res (Box g1 33 [.string (⟨#[]⟩), .int .i64 0, .int .i64 0, .int .i64 0, .string (⟨#[]⟩), .int .i64 0, .int .i64 0, .int .i64 0]) :: .ro (SlL eu8 A1 c1 c_p0.L) :: R) (fun _ w => w) ?_
                                                        refine St.xk (fun _ w => ((.d (.d (.d (.d (.d (.d (.k (.k .z)))))))) : Keep _ _).sat w) ?_
                                                        refine St.xfl (fun _ h => h) (Rd.p rfl) rfl ?_
                                                        refine St.xfl (fun _ h => h) (Rd.p rfl) rfl ?_
                                                        refine hnd1_8 _ _ (gA2, A6, c6, A5, c5, A4, c4, A3, c3) ?_ ?_
                                                        · exact ⟨rfl, rfl, rfl, rfl, rfl, rfl, rfl, rfl, rfl, rfl, rfl, rfl, rfl, rfl, rfl, rfl, rfl, rfl, rfl, rfl, trivial⟩
                                                        · exact fun _ w => ((.k (.k (.k (.k (.k (.k (.k (.k .z)))))))) : Keep _ _).sat w
                                                      · refine St.xef ?_
                                                        refine St.alloc rfl rfl fun g3 => ?_
                                                        refine St.xk (fun _ w => ((.d (.d (.d (.d (.d (.d (.k (.k .z)))))))) : Keep _ _).sat w) ?_
                                                        refine hnd1_9 _ _ (gA2, g3, A5, c5, A4, c4, A3, c3) ?_ ?_
                                                        · exact ⟨rfl, rfl, rfl, rfl, rfl, rfl, rfl, rfl, rfl, rfl, rfl, rfl, rfl, rfl, rfl, rfl, rfl, rfl, trivial⟩
                                                        · exact fun _ w => ((.k (.k (.k (.k (.k (.k (.k (.k .z)))))))) : Keep _ _).sat w
                                                  · refine St.xalt ?_ ?_
                                                    · refine St.xef ?_
                                                      refine St.call (c_field_Codes_Next hr5) ent26 rfl rfl rfl (fun _ w => Sat.dup (G := [.ro (SlL eu8 A5 c5 r4.1.L)]) rfl ⟨(.tail _ (.head _)), trivial⟩ (w.front (.s .z))) ?_
                                                      rintro _ _ ⟨A6, c6, rfl, rfl⟩
                                                      refine St.asrt (F' := .ro (SlL eu8 A6 c6 r5.1.L) :: .res (Box gb1 69 [.slice A6 r5.1.L.length c6, .int .i64 r5.1.At]) :: .ro (SlL eu8 A5 c5 r4.1.L) :: .ro (SlL eu8 A4 c4 r3.1.L) :: .ro (SlL eu8 A3 c3 r2.1.L) :: .res (OwnL estr 9 (some ⟨gA2, 0, none⟩) c2 r1) :: .res (Box g1 33 [.string (⟨#[]⟩), .int .i64 0, .int .i64 0, .int .i64 0, .string (⟨#[]⟩), .int .i64 0, .int .i64 0, .int .i64 0]) :: .ro (SlL eu8 A1 c1 c_p0.L) :: R) (fun _ w => w) ?_
                                                      refine St.xk (fun _ w => ((.d (.d (.d (.d (.d (.d (.k (.k .z)))))))) : Keep _ _).sat w) ?_
                                                      refine St.xfl (fun _ h => h) (Rd.p rfl) rfl ?_
                                                      refine St.xfl (fun _ h => h) (Rd.p rfl) rfl ?_
                                                      refine St.xalt ?_ ?_
                                                      · refine St.xef ?_
                                                        refine St.ldO 0 hx1 rfl rfl (.tail _ (.tail _ (.tail _ (.tail _ (.tail _ (.head _)))))) rfl rfl ?_
                                                        refine St.xk (fun _ w => ((.d (.d (.d (.d (.d (.d (.k (.k .z)))))))) : Keep _ _).sat w) ?_
                                                        refine hnd1_6 _ _ (gA2, A6, c6, A5, c5, A4, c4, A3, c3) ?_ ?_
                                                        · exact ⟨rfl, rfl, rfl, rfl, rfl, rfl, rfl, rfl, rfl, rfl, rfl, rfl, rfl, rfl, rfl, rfl, rfl, rfl, rfl, rfl, trivial⟩
                                                        · exact fun _ w => ((.k (.k (.k (.k (.k (.k (.k (.k .z)))))))) : Keep _ _).sat w
                                                      · refine St.xalt ?_ ?_
                                                        · refine St.xef ?_
                                                          refine St.ldO 0 hx2 rfl rfl (.tail _ (.tail _ (.tail _ (.tail _ (.tail _ (.head _)))))) rfl rfl ?_
                                                          refine St.xk (fun _ w => ((.d (.d (.d (.d (.d (.d (.k (.k .z)))))))) : Keep _ _).sat w) ?_
                                                          refine hnd1_8 _ _ (gA2, A6, c6, A5, c5, A4, c4, A3, c3) ?_ ?_
                                                          · exact ⟨rfl, rfl, rfl, rfl, rfl, rfl, rfl, rfl, rfl, rfl, rfl, rfl, rfl, rfl, rfl, rfl, rfl, rfl, rfl, rfl, trivial⟩
                                                          · exact fun _ w => ((.k (.k (.k (.k (.k (.k (.k (.k .z)))))))) : Keep _ _).sat w
                                                        · refine St.xef ?_
                                                          refine St.alloc rfl rfl fun g3 => ?_
                                                          refine St.xk (fun _ w => ((.d (.d (.d (.d (.d (.d (.d (.k (.k .z))))))))) : Keep _ _).sat w) ?_
                                                          refine hnd1_10 _ _ (gA2, g3, A6, c6, A5, c5, A4, c4, A3, c3) ?_ ?_
                                                          · exact ⟨rfl, rfl, rfl, rfl, rfl, rfl, rfl, rfl, rfl, rfl, rfl, rfl, rfl, rfl, rfl, rfl, rfl, rfl, rfl, rfl, trivial⟩
                                                          · exact fun _ w => ((.k (.k (.k (.k (.k (.k (.k (.k (.k .z))))))))) : Keep _ _).sat w
                                                    · refine St.xef ?_
                                                      refine St.alloc rfl rfl fun g3 => ?_
                                                      refine St.xk (fun _ w => ((.d (.d (.d (.d (.d (.d (.k (.k .z)))))))) : Keep _ _).sat w) ?_
                                                      refine hnd1_13 _ _ (gA2, g3, A5, c5, A4, c4, A3, c3) ?_ ?_
                                                      · exact ⟨rfl, rfl, rfl, rfl, rfl, rfl, rfl, rfl, rfl, rfl, rfl, rfl, rfl, rfl, rfl, rfl, rfl, trivial⟩
                                                      · exact fun _ w => ((.k (.k (.k (.k (.k (.k (.k (.k .z)))))))) : Keep _ _).sat w
                                              · refine St.xef ?_
                                                refine St.alloc rfl rfl fun g3 => ?_
                                                refine St.xk (fun _ w => ((.d (.d (.d (.d (.d (.k (.k .z))))))) : Keep _ _).sat w) ?_
                                                refine hnd1_16 _ _ (gA2, g3, A4, c4, A3, c3) ?_ ?_
                                                · exact ⟨rfl, rfl, rfl, rfl, rfl, rfl, rfl, rfl, rfl, rfl, rfl, rfl, rfl, rfl, rfl, trivial⟩
                                                · exact fun _ w => ((.k (.k (.k (.k (.k (.k (.k .z))))))) : Keep _ _).sat w
                                          · refine St.xef ?_
                                            refine St.alloc rfl rfl fun g3 => ?_
                                            refine St.xk (fun _ w => ((.d (.d (.d (.d (.k (.k .z)))))) : Keep _ _).sat w) ?_
                                            refine hnd1_17 _ _ (gA2, g3, A3, c3) ?_ ?_
                                            · exact ⟨rfl, rfl, rfl, rfl, rfl, rfl, rfl, rfl, rfl, rfl, rfl, rfl, trivial⟩
                                            · exact fun _ w => ((.k (.k (.k (.k (.k (.k .z)))))) : Keep _ _).sat w
                                      · refine St.xef ?_
                                        refine St.alloc rfl rfl fun g3 => ?_
                                        refine St.xk (fun _ w => ((.d (.d (.k (.k (.d .z))))) : Keep _ _).sat w) ?_
                                        refine St.xef ?_
                                        refine St.call (c_field_Codes_Next hr2) ent26 rfl rfl rfl (fun _ w => Sat.dup (G := [.ro (SlL eu8 A1 c1 c_p0.L)]) rfl ⟨(.tail _ (.tail _ (.tail _ (.tail _ (.head _))))), trivial⟩ (w.front (.s (.s (.s (.s .z)))))) ?_
                                        rintro _ _ ⟨A3, c3, rfl, rfl⟩
                                        refine St.asrt (F' := .ro (SlL eu8 A3 c3 r2.1.L) :: .res (Box gb1 69 [.slice A3 r2.1.L.length c3, .int .i64 r2.1.At]) :: .res (Box g3 33 [.string (⟨#[]⟩), .int .i64 0, .int .i64 0, .int .i64 0, .string (⟨#[]⟩), .int .i64 0, .int .i64 0, .int .i64 0]) :: .res (OwnL estr 9 A2 c2 r1) :: .res (Box g1 33 [.string (⟨#[]⟩), .int .i64 0, .int .i64 0, .int .i64 0, .string (⟨#[]⟩), .int .i64 0, .int .i64 0, .int .i64 0]) :: .ro (SlL eu8 A1 c1 c_p0.L) :: R) (fun _ w => w) ?_
                                        refine St.xk (fun _ w => ((.d (.d (.d (.d (.k (.k .z)))))) : Keep _ _).sat w) ?_
                                        refine St.openO (.tail _ (.tail _ (.tail _ (.head _)))) hx1 fun gA2 hA => ?_
                                        subst hA
                                        refine St.xfl (fun _ h => h) (Rd.ixO (E := estr) hx1 rfl rfl rfl rfl rfl rfl rfl) rfl ?_
                                        refine hnd1_17 _ _ (gA2, g3, A3, c3) ?_ ?_
                                        · exact ⟨rfl, rfl, rfl, rfl, rfl, rfl, rfl, rfl, rfl, rfl, rfl, rfl, trivial⟩
                                        · exact fun _ w => ((.k (.k (.k (.k (.k (.k .z)))))) : Keep _ _).sat ((((((w.front (.s (.s (.s (.s (.s .z)))))).front (.s (.s (.s (.s (.s .z)))))).front (.s (.s (.s (.s (.s .z)))))).front (.s (.s (.s (.s .z))))).front (.s (.s (.s (.s .z))))).front (.s (.s (.s (.s (.s .z))))))
                                    case tnd1_17 =>
                                      rintro ⟨gA2, g3, A3, c3⟩
                                      refine St.asrt (F' := .res (Box g3 33 [.string (⟨#[]⟩), .int .i64 0, .int .i64 0, .int .i64 0, .string (⟨#[]⟩), .int .i64 0, .int .i64 0, .int .i64 0]) :: .ro (SlL eu8 A3 c3 r2.1.L) :: .res (Box gb1 69 [.slice A3 r2.1.L.length c3, .int .i64 r2.1.At]) :: .res (OwnL estr 9 (some ⟨gA2, 0, none⟩) c2 r1) :: .res (Box g1 33 [.string (⟨#[]⟩), .int .i64 0, .int .i64 0, .int .i64 0, .string (⟨#[]⟩), .int .i64 0, .int .i64 0, .int .i64 0]) :: .ro (SlL eu8 A1 c1 c_p0.L) :: R) (fun _ w => w) ?_
                                      refine St.xalt ?_ ?_
                                      · refine St.xef ?_
                                        refine St.ldO 0 hx1 rfl rfl (.tail _ (.tail _ (.tail _ (.head _)))) rfl rfl ?_
                                        refine St.xk (fun _ w => ((.d (.d (.d (.d (.k (.k .z)))))) : Keep _ _).sat w) ?_
                                        refine hnd1_15 _ _ (gA2, g3, A3, c3) ?_ ?_
                                        · exact ⟨rfl, rfl, rfl, rfl, rfl, rfl, rfl, rfl, rfl, rfl, rfl, rfl, rfl, trivial⟩
                                        · exact fun _ w => ((.k (.k (.k (.k (.k (.k .z)))))) : Keep _ _).sat w
                                      · refine St.xef ?_
                                        refine St.call (c_field_Codes_Next hr3) ent26 rfl rfl rfl (fun _ w => Sat.dup (G := [.ro (SlL eu8 A3 c3 r2.1.L)]) rfl ⟨(.tail _ (.tail _ (.head _))), trivial⟩ (w.front (.s (.s .z)))) ?_
                                        rintro _ _ ⟨A4, c4, rfl, rfl⟩
                                        refine St.asrt (F' := .ro (SlL eu8 A4 c4 r3.1.L) :: .res (Box gb1 69 [.slice A4 r3.1.L.length c4, .int .i64 r3.1.At]) :: .res (Box g3 33 [.string (⟨#[]⟩), .int .i64 0, .int .i64 0, .int .i64 0, .string (⟨#[]⟩), .int .i64 0, .int .i64 0, .int .i64 0]) :: .ro (SlL eu8 A3 c3 r2.1.L) :: .res (OwnL estr 9 (some ⟨gA2, 0, none⟩) c2 r1) :: .res (Box g1 33 [.string (⟨#[]⟩), .int .i64 0, .int .i64 0, .int .i64 0, .string (⟨#[]⟩), .int .i64 0, .int .i64 0, .int .i64 0]) :: .ro (SlL eu8 A1 c1 c_p0.L) :: R) (fun _ w => w) ?_
                                        refine St.xk (fun _ w => ((.d (.d (.d (.d (.d (.k (.k .z))))))) : Keep _ _).sat w) ?_
                                        refine St.xfl (fun _ h => h) (Rd.p rfl) rfl ?_
                                        refine St.xfl (fun _ h => h) (Rd.p rfl) rfl ?_
                                        refine hnd1_16 _ _ (gA2, g3, A4, c4, A3, c3) ?_ ?_
                                        · exact ⟨rfl, rfl, rfl, rfl, rfl, rfl, rfl, rfl, rfl, rfl, rfl, rfl, rfl, rfl, rfl, trivial⟩
                                        · exact fun _ w => ((.k (.k (.k (.k (.k (.k (.k .z))))))) : Keep _ _).sat (((((((w.front (.s (.s (.s (.s (.s (.s .z))))))).front (.s (.s (.s (.s (.s (.s .z))))))).front (.s (.s (.s (.s (.s (.s .z))))))).front (.s (.s (.s (.s (.s (.s .z))))))).front (.s (.s (.s (.s (.s .z)))))).front (.s (.s (.s (.s (.s .z)))))).front (.s (.s (.s (.s (.s (.s .z)))))))
                                  case tnd1_16 =>
                                    rintro ⟨gA2, g3, A4, c4, A3, c3⟩
                                    refine St.asrt (F' := .res (Box g3 33 [.string (⟨#[]⟩), .int .i64 0, .int .i64 0, .int .i64 0, .string (⟨#[]⟩), .int .i64 0, .int .i64 0, .int .i64 0]) :: .ro (SlL eu8 A4 c4 r3.1.L) :: .res (Box gb1 69 [.slice A4 r3.1.L.length c4, .int .i64 r3.1.At]) :: .ro (SlL eu8 A3 c3 r2.1.L) :: .res (OwnL estr 9 (some ⟨gA2, 0, none⟩) c2 r1) :: .res (Box g1 33 [.string (⟨#[]⟩), .int .i64 0, .int .i64 0, .int .i64 0, .string (⟨#[]⟩), .int .i64 0, .int .i64 0, .int .i64 0]) :: .ro (SlL eu8 A1 c1 c_p0.L) :: R) (fun _ w => w) ?_
                                    refine St.xalt ?_ ?_
                                    · refine St.xef ?_
                                      refine St.ldO 0 hx1 rfl rfl (.tail _ (.tail _ (.tail _ (.tail _ (.head _))))) rfl rfl ?_
                                      refine St.xk (fun _ w => ((.d (.d (.d (.d (.d (.k (.k .z))))))) : Keep _ _).sat w) ?_
                                      refine hnd1_12 _ _ (gA2, g3, A4, c4, A3, c3) ?_ ?_
                                      · exact ⟨rfl, rfl, rfl, rfl, rfl, rfl, rfl, rfl, rfl, rfl, rfl, rfl, rfl, rfl, rfl, rfl, trivial⟩
                                      · exact fun _ w => ((.k (.k (.k (.k (.k (.k (.k .z))))))) : Keep _ _).sat w
                                    · refine St.xef ?_
                                      refine St.call (c_field_Codes_Next hr4) ent26 rfl rfl rfl (fun _ w => Sat.dup (G := [.ro (SlL eu8 A4 c4 r3.1.L)]) rfl ⟨(.tail _ (.tail _ (.head _))), trivial⟩ (w.front (.s (.s .z)))) ?_
                                      rintro _ _ ⟨A5, c5, rfl, rfl⟩
                                      refine St.asrt (F' := .ro (SlL eu8 A5 c5 r4.1.L) :: .res (Box gb1 69 [.slice A5 r4.1.L.length c5, .int .i64 r4.1.At]) :: .res (Box g3 33 [.string (⟨#[]⟩), .int .i64 0, .int .i64 0, .int .i64 0, .string (⟨#[]⟩), .int .i64 0, .int .i64 0, .int .i64 0]) :: .ro (SlL eu8 A4 c4 r3.1.L) :: .ro (SlL eu8 A3 c3 r2.1.L) :: .res (OwnL estr 9 (some ⟨gA2, 0, none⟩) c2 r1) :: .res (Box g1 33 [.string (⟨#[]⟩), .int .i64 0, .int .i64 0, .int .i64 0, .string (⟨#[]⟩), .int .i64 0, .int .i64 0, .int .i64 0]) :: .ro (SlL eu8 A1 c1 c_p0.L) :: R) (fun _ w => w) ?_
                                      refine St.xk (fun _ w => ((.d (.d (.d (.d (.d (.d (.k (.k .z)))))))) : Keep _ _).sat w) ?_
                                      refine St.xfl (fun _ h => h) (Rd.ixO (E := estr) hx2 rfl rfl rfl rfl rfl rfl rfl) rfl ?_
                                      refine hnd1_13 _ _ (gA2, g3, A5, c5, A4, c4, A3, c3) ?_ ?_
                                      · exact ⟨rfl, rfl, rfl, rfl, rfl, rfl, rfl, rfl, rfl, rfl, rfl, rfl, rfl, rfl, rfl, rfl, rfl, trivial⟩
                                      · exact fun _ w => ((.k (.k (.k (.k (.k (.k (.k (.k .z)))))))) : Keep _ _).sat ((((((((w.front (.s (.s (.s (.s (.s (.s (.s .z)))))))).front (.s (.s (.s (.s (.s (.s (.s .z)))))))).front (.s (.s (.s (.s (.s (.s (.s .z)))))))).front (.s (.s (.s (.s (.s (.s (.s .z)))))))).front (.s (.s (.s (.s (.s (.s (.s .z)))))))).front (.s (.s (.s (.s (.s (.s .z))))))).front (.s (.s (.s (.s (.s (.s .z))))))).front (.s (.s (.s (.s (.s (.s (.s .z))))))))
                                case tnd1_15 =>
                                  rintro ⟨gA2, g3, A3, c3⟩
                                  refine St.asrt (F' := .res (Box g3 33 [.string (⟨#[]⟩), .int .i64 0, .int .i64 0, .int .i64 0, .string (⟨#[]⟩), .int .i64 0, .int .i64 0, .int .i64 0]) :: .ro (SlL eu8 A3 c3 r2.1.L) :: .res (Box gb1 69 [.slice A3 r2.1.L.length c3, .int .i64 r2.1.At]) :: .res (OwnL estr 9 (some ⟨gA2, 0, none⟩) c2 r1) :: .res (Box g1 33 [.string (⟨#[]⟩), .int .i64 0, .int .i64 0, .int .i64 0, .string (⟨#[]⟩), .int .i64 0, .int .i64 0, .int .i64 0]) :: .ro (SlL eu8 A1 c1 c_p0.L) :: R) (fun _ w => w) ?_
                                  refine St.xef ?_
                                  refine St.call (c_field_Codes_Next hr3) ent26 rfl rfl rfl (fun _ w => Sat.dup (G := [.ro (SlL eu8 A3 c3 r2.1.L)]) rfl ⟨(.tail _ (.tail _ (.head _))), trivial⟩ (w.front (.s (.s .z)))) ?_
                                  rintro _ _ ⟨A4, c4, rfl, rfl⟩
                                  refine St.asrt (F' := .ro (SlL eu8 A4 c4 r3.1.L) :: .res (Box gb1 69 [.slice A4 r3.1.L.length c4, .int .i64 r3.1.At]) :: .res (Box g3 33 [.string (⟨#[]⟩), .int .i64 0, .int .i64 0, .int .i64 0, .string (⟨#[]⟩), .int .i64 0, .int .i64 0, .int .i64 0]) :: .ro (SlL eu8 A3 c3 r2.1.L) :: .res (OwnL estr 9 (some ⟨gA2, 0, none⟩) c2 r1) :: .res (Box g1 33 [.string (⟨#[]⟩), .int .i64 0, .int .i64 0, .int .i64 0, .string (⟨#[]⟩), .int .i64 0, .int .i64 0, .int .i64 0]) :: .ro (SlL eu8 A1 c1 c_p0.L) :: R) (fun _ w => w) ?_
                                  refine St.xk (fun _ w => ((.d (.d (.d (.d (.d (.k (.k .z))))))) : Keep _ _).sat w) ?_
                                  refine St.xfl (fun _ h => h) (Rd.p rfl) rfl ?_
                                  refine St.xfl (fun _ h => h) (Rd.p rfl) rfl ?_
                                  refine hnd1_12 _ _ (gA2, g3, A4, c4, A3, c3) ?_ ?_
                                  · exact ⟨rfl, rfl, rfl, rfl, rfl, rfl, rfl, rfl, rfl, rfl, rfl, rfl, rfl, rfl, rfl, rfl, trivial⟩
                                  · exact fun _ w => ((.k (.k (.k (.k (.k (.k (.k .z))))))) : Keep _ _).sat (((((((w.front (.s (.s (.s (.s (.s (.s .z))))))).front (.s (.s (.s (.s (.s (.s .z))))))).front (.s (.s (.s (.s (.s (.s .z))))))).front (.s (.s (.s (.s (.s (.s .z))))))).front (.s (.s (.s (.s (.s .z)))))).front (.s (.s (.s (.s (.s .z)))))).front (.s (.s (.s (.s (.s (.s .z)))))))
                              case tnd1_14 =>
                                rintro ⟨gA2, A4, c4, A3, c3⟩
                                refine St.asrt (F' := .ro (SlL eu8 A4 c4 r3.1.L) :: .res (Box gb1 69 [.slice A4 r3.1.L.length c4, .int .i64 r3.1.At]) :: .ro (SlL eu8 A3 c3 r2.1.L) :: .res (OwnL estr 9 (some ⟨gA2, 0, none⟩) c2 r1) :: .res (Box g1 33 [.string (⟨#[]⟩), .int .i64 0, .int .i64 0, .int .i64 0, .string (⟨#[]⟩), .int .i64 0, .int .i64 0, .int .i64 0]) :: .ro (SlL eu8 A1 c1 c_p0.L) :: R) (fun _ w => w) ?_
                                refine St.xalt ?_ ?_
                                · refine St.xef ?_
                                  refine St.call (c_field_Codes_Next hr4) ent26 rfl rfl rfl (fun _ w => Sat.dup (G := [.ro (SlL eu8 A4 c4 r3.1.L)]) rfl ⟨(.tail _ (.head _)), trivial⟩ (w.front (.s .z))) ?_
                                  rintro _ _ ⟨A5, c5, rfl, rfl⟩
                                  refine St.asrt (F' := .ro (SlL eu8 A5 c5 r4.1.L) :: .res (Box gb1 69 [.slice A5 r4.1.L.length c5, .int .i64 r4.1.At]) :: .ro (SlL eu8 A4 c4 r3.1.L) :: .ro (SlL eu8 A3 c3 r2.1.L) :: .res (OwnL estr 9 (some ⟨gA2, 0, none⟩) c2 r1) :: .res (Box g1 33 [.string (⟨#[]⟩), .int .i64 0, .int .i64 0, .int .i64 0, .string (⟨#[]⟩), .int .i64 0, .int .i64 0, .int .i64 0]) :: .ro (SlL eu8 A1 c1 c_p0.L) :: R) (fun _ w => w) ?_
                                  refine St.xk (fun _ w => ((.d (.d (.d (.d (.d (.k (.k .z))))))) : Keep _ _).sat w) ?_
                                  refine St.xfl (fun _ h => h) (Rd.ixO (E := estr) hx2 rfl rfl rfl rfl rfl rfl rfl) rfl ?_
                                  refine hnd1_11 _ _ (gA2, A5, c5, A4, c4, A3, c3) ?_ ?_
                                  · exact ⟨rfl, rfl, rfl, rfl, rfl, rfl, rfl, rfl, rfl, rfl, rfl, rfl, rfl, rfl, rfl, rfl, rfl, trivial⟩
                                  · exact fun _ w => ((.k (.k (.k (.k (.k (.k (.k .z))))))) : Keep _ _).sat w
                                · refine St.xef ?_
                                  refine St.alloc rfl rfl fun g3 => ?_
                                  refine St.xk (fun _ w => ((.d (.d (.d (.d (.d (.k (.k .z))))))) : Keep _ _).sat w) ?_
                                  refine hnd1_12 _ _ (gA2, g3, A4, c4, A3, c3) ?_ ?_
                                  · exact ⟨rfl, rfl, rfl, rfl, rfl, rfl, rfl, rfl, rfl, rfl, rfl, rfl, rfl, rfl, rfl, rfl, trivial⟩
                                  · exact fun _ w => ((.k (.k (.k (.k (.k (.k (.k .z))))))) : Keep _ _).sat w
                            case tnd1_13 =>
                              rintro ⟨gA2, g3, A5, c5, A4, c4, A3, c3⟩
                              refine St.asrt (F' := .res (Box g3 33 [.string (⟨#[]⟩), .int .i64 0, .int .i64 0, .int .i64 0, .string (⟨#[]⟩), .int .i64 0, .int .i64 0, .int .i64 0]) :: .ro (SlL eu8 A5 c5 r4.1.L) :: .res (Box gb1 69 [.slice A5 r4.1.L.length c5, .int .i64 r4.1.At]) :: .ro (SlL eu8 A4 c4 r3.1.L) :: .ro (SlL eu8 A3 c3 r2.1.L) :: .res (OwnL estr 9 (some ⟨gA2, 0, none⟩) c2 r1) :: .res (Box g1 33 [.string (⟨#[]⟩), .int .i64 0, .int .i64 0, .int .i64 0, .string (⟨#[]⟩), .int .i64 0, .int .i64 0, .int .i64 0]) :: .ro (SlL eu8 A1 c1 c_p0.L) :: R) (fun _ w => w) ?_
                              refine St.xalt ?_ ?_
                              · refine St.xef ?_
                                refine St.ldO 0 hx1 rfl rfl (.tail _ (.tail _ (.tail _ (.tail _ (.tail _ (.head _)))))) rfl rfl ?_
                                refine St.xk (fun _ w => ((.d (.d (.d (.d (.d (.d (.k (.k .z)))))))) : Keep _ _).sat w) ?_
                                refine hnd1_7 _ _ (gA2, g3, A5, c5, A4, c4, A3, c3) ?_ ?_
                                · exact ⟨rfl, rfl, rfl, rfl, rfl, rfl, rfl, rfl, rfl, rfl, rfl, rfl, rfl, rfl, rfl, rfl, rfl, rfl, trivial⟩
                                · exact fun _ w => ((.k (.k (.k (.k (.k (.k (.k (.k .z)))))))) : Keep _ _).sat w
                              · refine St.xalt ?_ ?_
                                · refine St.xef ?_
                                  refine St.ldO 0 hx2 rfl rfl (.tail _ (.tail _ (.tail _ (.tail _ (.tail _ (.head _)))))) rfl rfl ?_
                                  refine St.xk (fun _ w => ((.d (.d (.d (.d (.d (.d (.k (.k .z)))))))) : Keep _ _).sat w) ?_
                                  refine hnd1_9 _ _ (gA2, g3, A5, c5, A4, c4, A3, c3) ?_ ?_
                                  · exact ⟨rfl, rfl, rfl, rfl, rfl, rfl, rfl, rfl, rfl, rfl, rfl, rfl, rfl, rfl, rfl, rfl, rfl, rfl, trivial⟩
                                  · exact fun _ w => ((.k (.k (.k (.k (.k (.k (.k (.k .z)))))))) : Keep _ _).sat w
                                · refine St.xef ?_
                                  refine St.call (c_field_Codes_Next hr5) ent26 rfl rfl rfl (fun _ w => Sat.dup (G := [.ro (SlL eu8 A5 c5 r4.1.L)]) rfl ⟨(.tail _ (.tail _ (.head _))), trivial⟩ (w.front (.s (.s .z)))) ?_
                                  rintro _ _ ⟨A6, c6, rfl, rfl⟩
                                  refine St.asrt (F' := .ro (SlL eu8 A6 c6 r5.1.L) :: .res (Box gb1 69 [.slice A6 r5.1.L.length c6, .int .i64 r5.1.At]) :: .res (Box g3 33 [.string (⟨#[]⟩), .int .i64 0, .int .i64 0, .int .i64 0, .string (⟨#[]⟩), .int .i64 0, .int .i64 0, .int .i64 0]) :: .ro (SlL eu8 A5 c5 r4.1.L) :: .ro (SlL eu8 A4 c4 r3.1.L) :: .ro (SlL eu8 A3 c3 r2.1.L) :: .res (OwnL estr 9 (some ⟨gA2, 0, none⟩) c2 r1) :: .res (Box g1 33 [.string (⟨#[]⟩), .int .i64 0, .int .i64 0, .int .i64 0, .string (⟨#[]⟩), .int .i64 0, .int .i64 0, .int .i64 0]) :: .ro (SlL eu8 A1 c1 c_p0.L) :: R) (fun _ w => w) ?_
                                  refine St.xk (fun _ w => ((.d (.d (.d (.d (.d (.d (.d (.k (.k .z))))))))) : Keep _ _).sat w) ?_
                                  refine St.xfl (fun _ h => h) (Rd.p rfl) rfl ?_
                                  refine St.xfl (fun _ h => h) (Rd.p rfl) rfl ?_
                                  refine hnd1_10 _ _ (gA2, g3, A6, c6, A5, c5, A4, c4, A3, c3) ?_ ?_
                                  · exact ⟨rfl, rfl, rfl, rfl, rfl, rfl, rfl, rfl, rfl, rfl, rfl, rfl, rfl, rfl, rfl, rfl, rfl, rfl, rfl, rfl, trivial⟩
                                  · exact fun _ w => ((.k (.k (.k (.k (.k (.k (.k (.k (.k .z))))))))) : Keep _ _).sat (((((((((w.front (.s (.s (.s (.s (.s (.s (.s (.s .z))))))))).front (.s (.s (.s (.s (.s (.s (.s (.s .z))))))))).front (.s (.s (.s (.s (.s (.s (.s (.s .z))))))))).front (.s (.s (.s (.s (.s (.s (.s (.s .z))))))))).front (.s (.s (.s (.s (.s (.s (.s (.s .z))))))))).front (.s (.s (.s (.s (.s (.s (.s (.s .z))))))))).front (.s (.s (.s (.s (.s (.s (.s .z)))))))).front (.s (.s (.s (.s (.s (.s (.s .z)))))))).front (.s (.s (.s (.s (.s (.s (.s (.s .z)))))))))
                          case tnd1_12 =>
                            rintro ⟨gA2, g3, A4, c4, A3, c3⟩
                            refine St.asrt (F' := .res (Box g3 33 [.string (⟨#[]⟩), .int .i64 0, .int .i64 0, .int .i64 0, .string (⟨#[]⟩), .int .i64 0, .int .i64 0, .int .i64 0]) :: .ro (SlL eu8 A4 c4 r3.1.L) :: .res (Box gb1 69 [.slice A4 r3.1.L.length c4, .int .i64 r3.1.At]) :: .ro (SlL eu8 A3 c3 r2.1.L) :: .res (OwnL estr 9 (some ⟨gA2, 0, none⟩) c2 r1) :: .res (Box g1 33 [.string (⟨#[]⟩), .int .i64 0, .int .i64 0, .int .i64 0, .string (⟨#[]⟩), .int .i64 0, .int .i64 0, .int .i64 0]) :: .ro (SlL eu8 A1 c1 c_p0.L) :: R) (fun _ w => w) ?_
                            refine St.xef ?_
                            refine St.call (c_field_Codes_Next hr4) ent26 rfl rfl rfl (fun _ w => Sat.dup (G := [.ro (SlL eu8 A4 c4 r3.1.L)]) rfl ⟨(.tail _ (.tail _ (.head _))), trivial⟩ (w.front (.s (.s .z)))) ?_
                            rintro _ _ ⟨A5, c5, rfl, rfl⟩
                            refine St.asrt (F' := .ro (SlL eu8 A5 c5 r4.1.L) :: .res (Box gb1 69 [.slice A5 r4.1.L.length c5, .int .i64 r4.1.At]) :: .res (Box g3 33 [.string (⟨#[]⟩), .int .i64 0, .int .i64 0, .int .i64 0, .string (⟨#[]⟩), .int .i64 0, .int .i64 0, .int .i64 0]) :: .ro (SlL eu8 A4 c4 r3.1.L) :: .ro (SlL eu8 A3 c3 r2.1.L) :: .res (OwnL estr 9 (some ⟨gA2, 0, none⟩) c2 r1) :: .res (Box g1 33 [.string (⟨#[]⟩), .int .i64 0, .int .i64 0, .int .i64 0, .string (⟨#[]⟩), .int .i64 0, .int .i64 0, .int .i64 0]) :: .ro (SlL eu8 A1 c1 c_p0.L) :: R) (fun _ w => w) ?_
                            refine St.xk (fun _ w => ((.d (.d (.d (.d (.d (.d (.k (.k .z)))))))) : Keep _ _).sat w) ?_
                            refine St.xfl (fun _ h => h) (Rd.ixO (E := estr) hx2 rfl rfl rfl rfl rfl rfl rfl) rfl ?_
                            refine hnd1_7 _ _ (gA2, g3, A5, c5, A4, c4, A3, c3) ?_ ?_
                            · exact ⟨rfl, rfl, rfl, rfl, rfl, rfl, rfl, rfl, rfl, rfl, rfl, rfl, rfl, rfl, rfl, rfl, rfl, rfl, trivial⟩
                            · exact fun _ w => ((.k (.k (.k (.k (.k (.k (.k (.k .z)))))))) : Keep _ _).sat ((((((((w.front (.s (.s (.s (.s (.s (.s (.s .z)))))))).front (.s (.s (.s (.s (.s (.s (.s .z)))))))).front (.s (.s (.s (.s (.s (.s (.s .z)))))))).front (.s (.s (.s (.s (.s (.s (.s .z)))))))).front (.s (.s (.s (.s (.s (.s (.s .z)))))))).front (.s (.s (.s (.s (.s (.s .z))))))).front (.s (.s (.s (.s (.s (.s .z))))))).front (.s (.s (.s (.s (.s (.s (.s .z))))))))
                        case tnd1_11 =>
                          rintro ⟨gA2, A5, c5, A4, c4, A3, c3⟩
                          refine St.asrt (F' := .ro (SlL eu8 A5 c5 r4.1.L) :: .res (Box gb1 69 [.slice A5 r4.1.L.length c5, .int .i64 r4.1.At]) :: .ro (SlL eu8 A4 c4 r3.1.L) :: .ro (SlL eu8 A3 c3 r2.1.L) :: .res (OwnL estr 9 (some ⟨gA2, 0, none⟩) c2 r1) :: .res (Box g1 33 [.string (⟨#[]⟩), .int .i64 0, .int .i64 0, .int .i64 0, .string (⟨#[]⟩), .int .i64 0, .int .i64 0, .int .i64 0]) :: .ro (SlL eu8 A1 c1 c_p0.L) :: R) (fun _ w => w) ?_
                          refine St.xalt ?_ ?_
                          · refine St.xef ?_
                            refine St.ldO 0 hx2 rfl rfl (.tail _ (.tail _ (.tail _ (.tail _ (.head _))))) rfl rfl ?_
                            refine St.xk (fun _ w => ((.d (.d (.d (.d (.d (.k (.k .z))))))) : Keep _ _).sat w) ?_
                            refine hnd1_5 _ _ (gA2, A5, c5, A4, c4, A3, c3) ?_ ?_
                            · exact ⟨rfl, rfl, rfl, rfl, rfl, rfl, rfl, rfl, rfl, rfl, rfl, rfl, rfl, rfl, rfl, rfl, rfl, rfl, trivial⟩
                            · exact fun _ w => ((.k (.k (.k (.k (.k (.k (.k .z))))))) : Keep _ _).sat w
                          · refine St.xalt ?_ ?_
                            · refine St.xef ?_
                              refine St.call (c_field_Codes_Next hr5) ent26 rfl rfl rfl (fun _ w => Sat.dup (G := [.ro (SlL eu8 A5 c5 r4.1.L)]) rfl ⟨(.tail _ (.head _)), trivial⟩ (w.front (.s .z))) ?_
                              rintro _ _ ⟨A6, c6, rfl, rfl⟩
                              refine St.asrt (F' := .ro (SlL eu8 A6 c6 r5.1.L) :: .res (Box gb1 69 [.slice A6 r5.1.L.length c6, .int .i64 r5.1.At]) :: .ro (SlL eu8 A5 c5 r4.1.L) :: .ro (SlL eu8 A4 c4 r3.1.L) :: .ro (SlL eu8 A3 c3 r2.1.L) :: .res (OwnL estr 9 (some ⟨gA2, 0, none⟩) c2 r1) :: .res (Box g1 33 [.string (⟨#[]⟩), .int .i64 0, .int .i64 0, .int .i64 0, .string (⟨#[]⟩), .int .i64 0, .int .i64 0, .int .i64 0]) :: .ro (SlL eu8 A1 c1 c_p0.L) :: R) (fun _ w => w) ?_
                              refine St.xk (fun _ w => ((.d (.d (.d (.d (.d (.d (.k (.k .z)))))))) : Keep _ _).sat w) ?_
                              refine St.xfl (fun _ h => h) (Rd.p rfl) rfl ?_
                              refine St.xfl (fun _ h => h) (Rd.p rfl) rfl ?_
                              refine hnd1_6 _ _ (gA2, A6, c6, A5, c5, A4, c4, A3, c3) ?_ ?_
                              · exact ⟨rfl, rfl, rfl, rfl, rfl, rfl, rfl, rfl, rfl, rfl, rfl, rfl, rfl, rfl, rfl, rfl, rfl, rfl, rfl, rfl, trivial⟩
                              · exact fun _ w => ((.k (.k (.k (.k (.k (.k (.k (.k .z)))))))) : Keep _ _).sat w
                            · refine St.xef ?_
                              refine St.alloc rfl rfl fun g3 => ?_
                              refine St.xk (fun _ w => ((.d (.d (.d (.d (.d (.d (.k (.k .z)))))))) : Keep _ _).sat w) ?_
                              refine hnd1_7 _ _ (gA2, g3, A5, c5, A4, c4, A3, c3) ?_ ?_
                              · exact ⟨rfl, rfl, rfl, rfl, rfl, rfl, rfl, rfl, rfl, rfl, rfl, rfl, rfl, rfl, rfl, rfl, rfl, rfl, trivial⟩
                              · exact fun _ w => ((.k (.k (.k (.k (.k (.k (.k (.k .z)))))))) : Keep _ _).sat w
                      case tnd1_10 =>
                        rintro ⟨gA2, g3, A6, c6, A5, c5, A4, c4, A3, c3⟩
                        refine St.asrt (F' := .res (Box g3 33 [.string (⟨#[]⟩), .int .i64 0, .int .i64 0, .int .i64 0, .string (⟨#[]⟩), .int .i64 0, .int .i64 0, .int .i64 0]) :: .ro (SlL eu8 A6 c6 r5.1.L) :: .res (Box gb1 69 [.slice A6 r5.1.L.length c6, .int .i64 r5.1.At]) :: .ro (SlL eu8 A5 c5 r4.1.L) :: .ro (SlL eu8 A4 c4 r3.1.L) :: .ro (SlL eu8 A3 c3 r2.1.L) :: .res (OwnL estr 9 (some ⟨gA2, 0, none⟩) c2 r1) :: .res (Box g1 33 [.string (⟨#[]⟩), .int .i64 0, .int .i64 0, .int .i64 0, .string (⟨#[]⟩), .int .i64 0, .int .i64 0, .int .i64 0]) :: .ro (SlL eu8 A1 c1 c_p0.L) :: R) (fun _ w => w) ?_
                        refine St.xalt ?_ ?_
                        · refine St.xef ?_
                          refine St.ldO 0 hx1 rfl rfl (.tail _ (.tail _ (.tail _ (.tail _ (.tail _ (.tail _ (.head _))))))) rfl rfl ?_
                          refine St.xk (fun _ w => ((.d (.d (.d (.d (.d (.d (.d (.k (.k .z))))))))) : Keep _ _).sat w) ?_
                          refine hnd1_3 _ _ (gA2, g3, A6, c6, A5, c5, A4, c4, A3, c3) ?_ ?_
                          · exact ⟨rfl, rfl, rfl, rfl, rfl, rfl, rfl, rfl, rfl, rfl, rfl, rfl, rfl, rfl, rfl, rfl, rfl, rfl, rfl, rfl, rfl, trivial⟩
                          · exact fun _ w => ((.k (.k (.k (.k (.k (.k (.k (.k (.k .z))))))))) : Keep _ _).sat w
                        · refine St.xef ?_
                          refine St.ldO 0 hx2 rfl rfl (.tail _ (.tail _ (.tail _ (.tail _ (.tail _ (.tail _ (.head _))))))) rfl rfl ?_
                          refine St.xk (fun _ w => ((.d (.d (.d (.d (.d (.d (.d (.k (.k .z))))))))) : Keep _ _).sat w) ?_
                          refine hnd1_4 _ _ (gA2, g3, A6, c6, A5, c5, A4, c4, A3, c3) ?_ ?_
                          · exact ⟨rfl, rfl, rfl, rfl, rfl, rfl, rfl, rfl, rfl, rfl, rfl, rfl, rfl, rfl, rfl, rfl, rfl, rfl, rfl, rfl, rfl, trivial⟩
                          · exact fun _ w => ((.k (.k (.k (.k (.k (.k (.k (.k (.k .z))))))))) : Keep _ _).sat w
                    case tnd1_9 =>
                      rintro ⟨gA2, g3, A5, c5, A4, c4, A3, c3⟩
                      refine St.asrt (F' := .res (Box g3 33 [.string (⟨#[]⟩), .int .i64 0, .int .i64 0, .int .i64 0, .string (⟨#[]⟩), .int .i64 0, .int .i64 0, .int .i64 0]) :: .ro (SlL eu8 A5 c5 r4.1.L) :: .res (Box gb1 69 [.slice A5 r4.1.L.length c5, .int .i64 r4.1.At]) :: .ro (SlL eu8 A4 c4 r3.1.L) :: .ro (SlL eu8 A3 c3 r2.1.L) :: .res (OwnL estr 9 (some ⟨gA2, 0, none⟩) c2 r1) :: .res (Box g1 33 [.string (⟨#[]⟩), .int .i64 0, .int .i64 0, .int .i64 0, .string (⟨#[]⟩), .int .i64 0, .int .i64 0, .int .i64 0]) :: .ro (SlL eu8 A1 c1 c_p0.L) :: R) (fun _ w => w) ?_
                      refine St.xalt ?_ ?_
                      · refine St.xef ?_
                        refine St.ldO 0 hx1 rfl rfl (.tail _ (.tail _ (.tail _ (.tail _ (.tail _ (.head _)))))) rfl rfl ?_
                        refine St.xk (fun _ w => ((.d (.d (.d (.d (.d (.d (.k (.k .z)))))))) : Keep _ _).sat w) ?_
                        refine hnd1_2 _ _ (gA2, g3, A5, c5, A4, c4, A3, c3) ?_ ?_
                        · exact ⟨rfl, rfl, rfl, rfl, rfl, rfl, rfl, rfl, rfl, rfl, rfl, rfl, rfl, rfl, rfl, rfl, rfl, rfl, rfl, trivial⟩
                        · exact fun _ w => ((.k (.k (.k (.k (.k (.k (.k (.k .z)))))))) : Keep _ _).sat w
                      · refine St.xef ?_
                        refine St.call (c_field_Codes_Next hr5) ent26 rfl rfl rfl (fun _ w => Sat.dup (G := [.ro (SlL eu8 A5 c5 r4.1.L)]) rfl ⟨(.tail _ (.tail _ (.head _))), trivial⟩ (w.front (.s (.s .z)))) ?_
                        rintro _ _ ⟨A6, c6, rfl, rfl⟩
                        refine St.asrt (F' := .ro (SlL eu8 A6 c6 r5.1.L) :: .res (Box gb1 69 [.slice A6 r5.1.L.length c6, .int .i64 r5.1.At]) :: .res (Box g3 33 [.string (⟨#[]⟩), .int .i64 0, .int .i64 0, .int .i64 0, .string (⟨#[]⟩), .int .i64 0, .int .i64 0, .int .i64 0]) :: .ro (SlL eu8 A5 c5 r4.1.L) :: .ro (SlL eu8 A4 c4 r3.1.L) :: .ro (SlL eu8 A3 c3 r2.1.L) :: .res (OwnL estr 9 (some ⟨gA2, 0, none⟩) c2 r1) :: .res (Box g1 33 [.string (⟨#[]⟩), .int .i64 0, .int .i64 0, .int .i64 0, .string (⟨#[]⟩), .int .i64 0, .int .i64 0, .int .i64 0]) :: .ro (SlL eu8 A1 c1 c_p0.L) :: R) (fun _ w => w) ?_
                        refine St.xk (fun _ w => ((.d (.d (.d (.d (.d (.d (.d (.k (.k .z))))))))) : Keep _ _).sat w) ?_
                        refine St.xfl (fun _ h => h) (Rd.p rfl) rfl ?_
                        refine St.xfl (fun _ h => h) (Rd.p rfl) rfl ?_
                        refine hnd1_4 _ _ (gA2, g3, A6, c6, A5, c5, A4, c4, A3, c3) ?_ ?_
                        · exact ⟨rfl, rfl, rfl, rfl, rfl, rfl, rfl, rfl, rfl, rfl, rfl, rfl, rfl, rfl, rfl, rfl, rfl, rfl, rfl, rfl, rfl, trivial⟩
                        · exact fun _ w => ((.k (.k (.k (.k (.k (.k (.k (.k (.k .z))))))))) : Keep _ _).sat (((((((((w.front (.s (.s (.s (.s (.s (.s (.s (.s .z))))))))).front (.s (.s (.s (.s (.s (.s (.s (.s .z))))))))).front (.s (.s (.s (.s (.s (.s (.s (.s .z))))))))).front (.s (.s (.s (.s (.s (.s (.s (.s .z))))))))).front (.s (.s (.s (.s (.s (.s (.s (.s .z))))))))).front (.s (.s (.s (.s (.s (.s (.s (.s .z))))))))).front (.s (.s (.s (.s (.s (.s (.s .z)))))))).front (.s (.s (.s (.s (.s (.s (.s .z)))))))).front (.s (.s (.s (.s (.s (.s (.s (.s .z)))))))))
                  case tnd1_8 =>
                    rintro ⟨gA2, A6, c6, A5, c5, A4, c4, A3, c3⟩
                    refine St.asrt (F' := .ro (SlL eu8 A6 c6 r5.1.L) :: .res (Box gb1 69 [.slice A6 r5.1.L.length c6, .int .i64 r5.1.At]) :: .ro (SlL eu8 A5 c5 r4.1.L) :: .ro (SlL eu8 A4 c4 r3.1.L) :: .ro (SlL eu8 A3 c3 r2.1.L) :: .res (OwnL estr 9 (some ⟨gA2, 0, none⟩) c2 r1) :: .res (Box g1 33 [.string (⟨#[]⟩), .int .i64 0, .int .i64 0, .int .i64 0, .string (⟨#[]⟩), .int .i64 0, .int .i64 0, .int .i64 0]) :: .ro (SlL eu8 A1 c1 c_p0.L) :: R) (fun _ w => w) ?_
                    refine St.xalt ?_ ?_
                    · refine St.xef ?_
                      refine St.ldO 0 hx1 rfl rfl (.tail _ (.tail _ (.tail _ (.tail _ (.tail _ (.head _)))))) rfl rfl ?_
                      refine St.xk (fun _ w => ((.d (.d (.d (.d (.d (.d (.k (.k .z)))))))) : Keep _ _).sat w) ?_
                      refine St.xfl (fun _ h => h) (Rd.p rfl) rfl ?_
                      refine hnd1_1 _ _ (gA2, A6, c6, A5, c5, A4, c4, A3, c3) ?_ ?_
                      · exact ⟨rfl, rfl, rfl, rfl, rfl, rfl, rfl, rfl, rfl, rfl, rfl, rfl, rfl, rfl, rfl, rfl, rfl, rfl, rfl, rfl, rfl, rfl, trivial⟩
                      · exact fun _ w => ((.k (.k (.k (.k (.k (.k (.k (.k .z)))))))) : Keep _ _).sat w
                    · refine St.xef ?_
                      refine St.alloc rfl rfl fun g3 => ?_
                      refine St.xk (fun _ w => ((.d (.d (.d (.d (.d (.d (.d (.k (.k .z))))))))) : Keep _ _).sat w) ?_
                      refine hnd1_4 _ _ (gA2, g3, A6, c6, A5, c5, A4, c4, A3, c3) ?_ ?_
                      · exact ⟨rfl, rfl, rfl, rfl, rfl, rfl, rfl, rfl, rfl, rfl, rfl, rfl, rfl, rfl, rfl, rfl, rfl, rfl, rfl, rfl, rfl, trivial⟩
                      · exact fun _ w => ((.k (.k (.k (.k (.k (.k (.k (.k (.k .z))))))))) : Keep _ _).sat w
                case tnd1_7 =>
                  rintro ⟨gA2, g3, A5, c5, A4, c4, A3, c3⟩
                  refine St.asrt (F' := .res (Box g3 33 [.string (⟨#[]⟩), .int .i64 0, .int .i64 0, .int .i64 0, .string (⟨#[]⟩), .int .i64 0, .int .i64 0, .int .i64 0]) :: .ro (SlL eu8 A5 c5 r4.1.L) :: .res (Box gb1 69 [.slice A5 r4.1.L.length c5, .int .i64 r4.1.At]) :: .ro (SlL eu8 A4 c4 r3.1.L) :: .ro (SlL eu8 A3 c3 r2.1.L) :: .res (OwnL estr 9 (some ⟨gA2, 0, none⟩) c2 r1) :: .res (Box g1 33 [.string (⟨#[]⟩), .int .i64 0, .int .i64 0, .int .i64 0, .string (⟨#[]⟩), .int .i64 0, .int .i64 0, .int .i64 0]) :: .ro (SlL eu8 A1 c1 c_p0.L) :: R) (fun _ w => w) ?_
                  refine St.xalt ?_ ?_
                  · refine St.xef ?_
                    refine St.ldO 0 hx2 rfl rfl (.tail _ (.tail _ (.tail _ (.tail _ (.tail _ (.head _)))))) rfl rfl ?_
                    refine St.xk (fun _ w => ((.d (.d (.d (.d (.d (.d (.k (.k .z)))))))) : Keep _ _).sat w) ?_
                    refine hnd1_2 _ _ (gA2, g3, A5, c5, A4, c4, A3, c3) ?_ ?_
                    · exact ⟨rfl, rfl, rfl, rfl, rfl, rfl, rfl, rfl, rfl, rfl, rfl, rfl, rfl, rfl, rfl, rfl, rfl, rfl, rfl, trivial⟩
                    · exact fun _ w => ((.k (.k (.k (.k (.k (.k (.k (.k .z)))))))) : Keep _ _).sat w
                  · refine St.xef ?_
                    refine St.call (c_field_Codes_Next hr5) ent26 rfl rfl rfl (fun _ w => Sat.dup (G := [.ro (SlL eu8 A5 c5 r4.1.L)]) rfl ⟨(.tail _ (.tail _ (.head _))), trivial⟩ (w.front (.s (.s .z)))) ?_
                    rintro _ _ ⟨A6, c6, rfl, rfl⟩
                    refine St.asrt (F' := .ro (SlL eu8 A6 c6 r5.1.L) :: .res (Box gb1 69 [.slice A6 r5.1.L.length c6, .int .i64 r5.1.At]) :: .res (Box g3 33 [.string (⟨#[]⟩), .int .i64 0, .int .i64 0, .int .i64 0, .string (⟨#[]⟩), .int .i64 0, .int .i64 0, .int .i64 0]) :: .ro (SlL eu8 A5 c5 r4.1.L) :: .ro (SlL eu8 A4 c4 r3.1.L) :: .ro (SlL eu8 A3 c3 r2.1.L) :: .res (OwnL estr 9 (some ⟨gA2, 0, none⟩) c2 r1) :: .res (Box g1 33 [.string (⟨#[]⟩), .int .i64 0, .int .i64 0, .int .i64 0, .string (⟨#[]⟩), .int .i64 0, .int .i64 0, .int .i64 0]) :: .ro (SlL eu8 A1 c1 c_p0.L) :: R) (fun _ w => w) ?_
                    refine St.xk (fun _ w => ((.d (.d (.d (.d (.d (.d (.d (.k (.k .z))))))))) : Keep _ _).sat w) ?_
                    refine St.xfl (fun _ h => h) (Rd.p rfl) rfl ?_
                    refine St.xfl (fun _ h => h) (Rd.p rfl) rfl ?_
                    refine hnd1_3 _ _ (gA2, g3, A6, c6, A5, c5, A4, c4, A3, c3) ?_ ?_
                    · exact ⟨rfl, rfl, rfl, rfl, rfl, rfl, rfl, rfl, rfl, rfl, rfl, rfl, rfl, rfl, rfl, rfl, rfl, rfl, rfl, rfl, rfl, trivial⟩
                    · exact fun _ w => ((.k (.k (.k (.k (.k (.k (.k (.k (.k .z))))))))) : Keep _ _).sat (((((((((w.front (.s (.s (.s (.s (.s (.s (.s (.s .z))))))))).front (.s (.s (.s (.s (.s (.s (.s (.s .z))))))))).front (.s (.s (.s (.s (.s (.s (.s (.s .z))))))))).front (.s (.s (.s (.s (.s (.s (.s (.s .z))))))))).front (.s (.s (.s (.s (.s (.s (.s (.s .z))))))))).front (.s (.s (.s (.s (.s (.s (.s (.s .z))))))))).front (.s (.s (.s (.s (.s (.s (.s .z)))))))).front (.s (.s (.s (.s (.s (.s (.s .z)))))))).front (.s (.s (.s (.s (.s (.s (.s (.s .z)))))))))
              case tnd1_6 =>
                rintro ⟨gA2, A6, c6, A5, c5, A4, c4, A3, c3⟩
                refine St.asrt (F' := .ro (SlL eu8 A6 c6 r5.1.L) :: .res (Box gb1 69 [.slice A6 r5.1.L.length c6, .int .i64 r5.1.At]) :: .ro (SlL eu8 A5 c5 r4.1.L) :: .ro (SlL eu8 A4 c4 r3.1.L) :: .ro (SlL eu8 A3 c3 r2.1.L) :: .res (OwnL estr 9 (some ⟨gA2, 0, none⟩) c2 r1) :: .res (Box g1 33 [.string (⟨#[]⟩), .int .i64 0, .int .i64 0, .int .i64 0, .string (⟨#[]⟩), .int .i64 0, .int .i64 0, .int .i64 0]) :: .ro (SlL eu8 A1 c1 c_p0.L) :: R) (fun _ w => w) ?_
                refine St.xalt ?_ ?_
                · refine St.xef ?_
                  refine St.ldO 0 hx2 rfl rfl (.tail _ (.tail _ (.tail _ (.tail _ (.tail _ (.head _)))))) rfl rfl ?_
                  refine St.xk (fun _ w => ((.d (.d (.d (.d (.d (.d (.k (.k .z)))))))) : Keep _ _).sat w) ?_
                  refine St.xfl (fun _ h => h) (Rd.p rfl) rfl ?_
                  refine hnd1_1 _ _ (gA2, A6, c6, A5, c5, A4, c4, A3, c3) ?_ ?_
                  · exact ⟨rfl, rfl, rfl, rfl, rfl, rfl, rfl, rfl, rfl, rfl, rfl, rfl, rfl, rfl, rfl, rfl, rfl, rfl, rfl, rfl, rfl, rfl, trivial⟩
                  · exact fun _ w => ((.k (.k (.k (.k (.k (.k (.k (.k .z)))))))) : Keep _ _).sat w
                · refine St.xef ?_
                  refine St.alloc rfl rfl fun g3 => ?_
                  refine St.xk (fun _ w => ((.d (.d (.d (.d (.d (.d (.d (.k (.k .z))))))))) : Keep _ _).sat w) ?_
                  refine hnd1_3 _ _ (gA2, g3, A6, c6, A5, c5, A4, c4, A3, c3) ?_ ?_
                  · exact ⟨rfl, rfl, rfl, rfl, rfl, rfl, rfl, rfl, rfl, rfl, rfl, rfl, rfl, rfl, rfl, rfl, rfl, rfl, rfl, rfl, rfl, trivial⟩
                  · exact fun _ w => ((.k (.k (.k (.k (.k (.k (.k (.k (.k .z))))))))) : Keep _ _).sat w
            case tnd1_5 =>
              rintro ⟨gA2, A5, c5, A4, c4, A3, c3⟩
              refine St.asrt (F' := .ro (SlL eu8 A5 c5 r4.1.L) :: .res (Box gb1 69 [.slice A5 r4.1.L.length c5, .int .i64 r4.1.At]) :: .ro (SlL eu8 A4 c4 r3.1.L) :: .ro (SlL eu8 A3 c3 r2.1.L) :: .res (OwnL estr 9 (some ⟨gA2, 0, none⟩) c2 r1) :: .res (Box g1 33 [.string (⟨#[]⟩), .int .i64 0, .int .i64 0, .int .i64 0, .string (⟨#[]⟩), .int .i64 0, .int .i64 0, .int .i64 0]) :: .ro (SlL eu8 A1 c1 c_p0.L) :: R) (fun _ w => w) ?_
              refine St.xalt ?_ ?_
              · refine St.xef ?_
                refine St.call (c_field_Codes_Next hr5) ent26 rfl rfl rfl (fun _ w => Sat.dup (G := [.ro (SlL eu8 A5 c5 r4.1.L)]) rfl ⟨(.tail _ (.head _)), trivial⟩ (w.front (.s .z))) ?_
                rintro _ _ ⟨A6, c6, rfl, rfl⟩
                refine St.asrt (F' := .ro (SlL eu8 A6 c6 r5.1.L) :: .res (Box gb1 69 [.slice A6 r5.1.L.length c6, .int .i64 r5.1.At]) :: .ro (SlL eu8 A5 c5 r4.1.L) :: .ro (SlL eu8 A4 c4 r3.1.L) :: .ro (SlL eu8 A3 c3 r2.1.L) :: .res (OwnL estr 9 (some ⟨gA2, 0, none⟩) c2 r1) :: .res (Box g1 33 [.string (⟨#[]⟩), .int .i64 0, .int .i64 0, .int .i64 0, .string (⟨#[]⟩), .int .i64 0, .int .i64 0, .int .i64 0]) :: .ro (SlL eu8 A1 c1 c_p0.L) :: R) (fun _ w => w) ?_
                refine St.xk (fun _ w => ((.d (.d (.d (.d (.d (.d (.k (.k .z)))))))) : Keep _ _).sat w) ?_
                refine St.xfl (fun _ h => h) (Rd.p rfl) rfl ?_
                refine St.xfl (fun _ h => h) (Rd.p rfl) rfl ?_
                refine St.xfl (fun _ h => h) (Rd.p rfl) rfl ?_
                refine hnd1_1 _ _ (gA2, A6, c6, A5, c5, A4, c4, A3, c3) ?_ ?_
                · exact ⟨rfl, rfl, rfl, rfl, rfl, rfl, rfl, rfl, rfl, rfl, rfl, rfl, rfl, rfl, rfl, rfl, rfl, rfl, rfl, rfl, rfl, rfl, trivial⟩
                · exact fun _ w => ((.k (.k (.k (.k (.k (.k (.k (.k .z)))))))) : Keep _ _).sat w
              · refine St.xef ?_
                refine St.alloc rfl rfl fun g3 => ?_
                refine St.xk (fun _ w => ((.d (.d (.d (.d (.d (.d (.k (.k .z)))))))) : Keep _ _).sat w) ?_
                refine hnd1_2 _ _ (gA2, g3, A5, c5, A4, c4, A3, c3) ?_ ?_
                · exact ⟨rfl, rfl, rfl, rfl, rfl, rfl, rfl, rfl, rfl, rfl, rfl, rfl, rfl, rfl, rfl, rfl, rfl, rfl, rfl, trivial⟩
                · exact fun _ w => ((.k (.k (.k (.k (.k (.k (.k (.k .z)))))))) : Keep _ _).sat w
          case tnd1_4 =>
            rintro ⟨gA2, g3, A6, c6, A5, c5, A4, c4, A3, c3⟩
            refine St.asrt (F' := .res (Box g3 33 [.string (⟨#[]⟩), .int .i64 0, .int .i64 0, .int .i64 0, .string (⟨#[]⟩), .int .i64 0, .int .i64 0, .int .i64 0]) :: .ro (SlL eu8 A6 c6 r5.1.L) :: .res (Box gb1 69 [.slice A6 r5.1.L.length c6, .int .i64 r5.1.At]) :: .ro (SlL eu8 A5 c5 r4.1.L) :: .ro (SlL eu8 A4 c4 r3.1.L) :: .ro (SlL eu8 A3 c3 r2.1.L) :: .res (OwnL estr 9 (some ⟨gA2, 0, none⟩) c2 r1) :: .res (Box g1 33 [.string (⟨#[]⟩), .int .i64 0, .int .i64 0, .int .i64 0, .string (⟨#[]⟩), .int .i64 0, .int .i64 0, .int .i64 0]) :: .ro (SlL eu8 A1 c1 c_p0.L) :: R) (fun _ w => w) ?_
            refine St.xef ?_
            refine St.ldO 0 hx1 rfl rfl (.tail _ (.tail _ (.tail _ (.tail _ (.tail _ (.tail _ (.head _))))))) rfl rfl ?_
            refine St.xk (fun _ w => ((.d (.d (.d (.d (.d (.d (.d (.k (.k .z))))))))) : Keep _ _).sat w) ?_
            refine St.xfl (fun _ h => h) (Rd.p rfl) rfl ?_
            refine hnd1_0 _ _ (gA2, g3, A6, c6, A5, c5, A4, c4, A3, c3) ?_ ?_
            · exact ⟨rfl, rfl, rfl, rfl, rfl, rfl, rfl, rfl, rfl, rfl, rfl, rfl, rfl, rfl, rfl, rfl, rfl, rfl, rfl, rfl, rfl, rfl, rfl, trivial⟩
            · exact fun _ w => ((.k (.k (.k (.k (.k (.k (.k (.k (.k .z))))))))) : Keep _ _).sat w
        case tnd1_3 =>
          rintro ⟨gA2, g3, A6, c6, A5, c5, A4, c4, A3, c3⟩
          refine St.asrt (F' := .res (Box g3 33 [.string (⟨#[]⟩), .int .i64 0, .int .i64 0, .int .i64 0, .string (⟨#[]⟩), .int .i64 0, .int .i64 0, .int .i64 0]) :: .ro (SlL eu8 A6 c6 r5.1.L) :: .res (Box gb1 69 [.slice A6 r5.1.L.length c6, .int .i64 r5.1.At]) :: .ro (SlL eu8 A5 c5 r4.1.L) :: .ro (SlL eu8 A4 c4 r3.1.L) :: .ro (SlL eu8 A3 c3 r2.1.L) :: .res (OwnL estr 9 (some ⟨gA2, 0, none⟩) c2 r1) :: .res (Box g1 33 [.string (⟨#[]⟩), .int .i64 0, .int .i64 0, .int .i64 0, .string (⟨#[]⟩), .int .i64 0, .int .i64 0, .int .i64 0]) :: .ro (SlL eu8 A1 c1 c_p0.L) :: R) (fun _ w => w) ?_
          refine St.xef ?_
          refine St.ldO 0 hx2 rfl rfl (.tail _ (.tail _ (.tail _ (.tail _ (.tail _ (.tail _ (.head _))))))) rfl rfl ?_
          refine St.xk (fun _ w => ((.d (.d (.d (.d (.d (.d (.d (.k (.k .z))))))))) : Keep _ _).sat w) ?_
          refine St.xfl (fun _ h => h) (Rd.p rfl) rfl ?_
          refine hnd1_0 _ _ (gA2, g3, A6, c6, A5, c5, A4, c4, A3, c3) ?_ ?_
          · exact ⟨rfl, rfl, rfl, rfl, rfl, rfl, rfl, rfl, rfl, rfl, rfl, rfl, rfl, rfl, rfl, rfl, rfl, rfl, rfl, rfl, rfl, rfl, rfl, trivial⟩
          · exact fun _ w => ((.k (.k (.k (.k (.k (.k (.k (.k (.k .z))))))))) : Keep _ _).sat w
      case tnd1_2 =>
        rintro ⟨gA2, g3, A5, c5, A4, c4, A3, c3⟩
        refine St.asrt (F' := .res (Box g3 33 [.string (⟨#[]⟩), .int .i64 0, .int .i64 0, .int .i64 0, .string (⟨#[]⟩), .int .i64 0, .int .i64 0, .int .i64 0]) :: .ro (SlL eu8 A5 c5 r4.1.L) :: .res (Box gb1 69 [.slice A5 r4.1.L.length c5, .int .i64 r4.1.At]) :: .ro (SlL eu8 A4 c4 r3.1.L) :: .ro (SlL eu8 A3 c3 r2.1.L) :: .res (OwnL estr 9 (some ⟨gA2, 0, none⟩) c2 r1) :: .res (Box g1 33 [.string (⟨#[]⟩), .int .i64 0, .int .i64 0, .int .i64 0, .string (⟨#[]⟩), .int .i64 0, .int .i64 0, .int .i64 0]) :: .ro (SlL eu8 A1 c1 c_p0.L) :: R) (fun _ w => w) ?_
        refine St.xef ?_
        refine St.call (c_field_Codes_Next hr5) ent26 rfl rfl rfl (fun _ w => Sat.dup (G := [.ro (SlL eu8 A5 c5 r4.1.L)]) rfl ⟨(.tail _ (.tail _ (.head _))), trivial⟩ (w.front (.s (.s .z)))) ?_
        rintro _ _ ⟨A6, c6, rfl, rfl⟩
        refine St.asrt (F' := .ro (SlL eu8 A6 c6 r5.1.L) :: .res (Box gb1 69 [.slice A6 r5.1.L.length c6, .int .i64 r5.1.At]) :: .res (Box g3 33 [.string (⟨#[]⟩), .int .i64 0, .int .i64 0, .int .i64 0, .string (⟨#[]⟩), .int .i64 0, .int .i64 0, .int .i64 0]) :: .ro (SlL eu8 A5 c5 r4.1.L) :: .ro (SlL eu8 A4 c4 r3.1.L) :: .ro (SlL eu8 A3 c3 r2.1.L) :: .res (OwnL estr 9 (some ⟨gA2, 0, none⟩) c2 r1) :: .res (Box g1 33 [.string (⟨#[]⟩), .int .i64 0, .int .i64 0, .int .i64 0, .string (⟨#[]⟩), .int .i64 0, .int .i64 0, .int .i64 0]) :: .ro (SlL eu8 A1 c1 c_p0.L) :: R) (fun _ w => w) ?_
        refine St.xk (fun _ w => ((.d (.d (.d (.d (.d (.d (.d (.k (.k .z))))))))) : Keep _ _).sat w) ?_
        refine St.xfl (fun _ h => h) (Rd.p rfl) rfl ?_
        refine St.xfl (fun _ h => h) (Rd.p rfl) rfl ?_
        refine St.xfl (fun _ h => h) (Rd.p rfl) rfl ?_
        refine hnd1_0 _ _ (gA2, g3, A6, c6, A5, c5, A4, c4, A3, c3) ?_ ?_
        · exact ⟨rfl, rfl, rfl, rfl, rfl, rfl, rfl, rfl, rfl, rfl, rfl, rfl, rfl, rfl, rfl, rfl, rfl, rfl, rfl, rfl, rfl, rfl, rfl, trivial⟩
        · exact fun _ w => ((.k (.k (.k (.k (.k (.k (.k (.k (.k .z))))))))) : Keep _ _).sat (((((((((w.front (.s (.s (.s (.s (.s (.s (.s (.s .z))))))))).front (.s (.s (.s (.s (.s (.s (.s (.s .z))))))))).front (.s (.s (.s (.s (.s (.s (.s (.s .z))))))))).front (.s (.s (.s (.s (.s (.s (.s (.s .z))))))))).front (.s (.s (.s (.s (.s (.s (.s (.s .z))))))))).front (.s (.s (.s (.s (.s (.s (.s (.s .z))))))))).front (.s (.s (.s (.s (.s (.s (.s .z)))))))).front (.s (.s (.s (.s (.s (.s (.s .z)))))))).front (.s (.s (.s (.s (.s (.s (.s (.s .z)))))))))
    case tnd1_1 =>
      rintro ⟨gA2, A6, c6, A5, c5, A4, c4, A3, c3⟩
      refine St.asrt (F' := .ro (SlL eu8 A6 c6 r5.1.L) :: .res (Box gb1 69 [.slice A6 r5.1.L.length c6, .int .i64 r5.1.At]) :: .ro (SlL eu8 A5 c5 r4.1.L) :: .ro (SlL eu8 A4 c4 r3.1.L) :: .ro (SlL eu8 A3 c3 r2.1.L) :: .res (OwnL estr 9 (some ⟨gA2, 0, none⟩) c2 r1) :: .res (Box g1 33 [.string (⟨#[]⟩), .int .i64 0, .int .i64 0, .int .i64 0, .string (⟨#[]⟩), .int .i64 0, .int .i64 0, .int .i64 0]) :: .ro (SlL eu8 A1 c1 c_p0.L) :: R) (fun _ w => w) ?_
      refine St.xef ?_
      refine St.alloc rfl rfl fun g3 => ?_
      refine St.xk (fun _ w => ((.d (.d (.d (.d (.d (.d (.d (.k (.k .z))))))))) : Keep _ _).sat w) ?_
      refine hnd1_0 _ _ (gA2, g3, A6, c6, A5, c5, A4, c4, A3, c3) ?_ ?_
      · exact ⟨rfl, rfl, rfl, rfl, rfl, rfl, rfl, rfl, rfl, rfl, rfl, rfl, rfl, rfl, rfl, rfl, rfl, rfl, rfl, rfl, rfl, rfl, rfl, trivial⟩
      · exact fun _ w => ((.k (.k (.k (.k (.k (.k (.k (.k (.k .z))))))))) : Keep _ _).sat w
  case tnd1_0 =>
    rintro ⟨gA2, g3, A6, c6, A5, c5, A4, c4, A3, c3⟩
    refine St.asrt (F' := .res (Box g3 33 [.string (⟨#[]⟩), .int .i64 0, .int .i64 0, .int .i64 0, .string (⟨#[]⟩), .int .i64 0, .int .i64 0, .int .i64 0]) :: .ro (SlL eu8 A6 c6 r5.1.L) :: .res (Box gb1 69 [.slice A6 r5.1.L.length c6, .int .i64 r5.1.At]) :: .ro (SlL eu8 A5 c5 r4.1.L) :: .ro (SlL eu8 A4 c4 r3.1.L) :: .ro (SlL eu8 A3 c3 r2.1.L) :: .res (OwnL estr 9 (some ⟨gA2, 0, none⟩) c2 r1) :: .res (Box g1 33 [.string (⟨#[]⟩), .int .i64 0, .int .i64 0, .int .i64 0, .string (⟨#[]⟩), .int .i64 0, .int .i64 0, .int .i64 0]) :: .ro (SlL eu8 A1 c1 c_p0.L) :: R) (fun _ w => w) ?_
    refine St.xef ?_
    refine St.store 0 rfl rfl rfl rfl rfl rfl .z rfl ?_
    refine St.xk (fun _ w => ((.d (.d (.d (.d (.d (.d (.d (.k (.k .z))))))))) : Keep _ _).sat w) ?_
    refine St.xdone ?_
    refine St.thenN ?_
    refine St.prune (Γ' := [(0, _), (2, _), (3, _), (4, _)]) ⟨rfl, rfl, rfl, rfl, trivial⟩ (.k (.k (.k (.d (.d (.d (.k (.k (.d .z))))))))) ?_
    refine St.seq ?_
    refine St.seq ?_
    obtain ⟨o1, hj1, h⟩ := bnd_e h
    refine St.cutE (fun (e1 : Option Addr × Nat) => [(2, .pointer (some ⟨g1, 0, none⟩)), (3, .slice (some ⟨gA2, 0, none⟩) r1.length c2), (4, .pointer (some ⟨g3, 0, none⟩)), (34, .bool o1.1)]) (fun e1 => .ro (SlL eu8 e1.1 e1.2 o1.2.1) :: .res (Box g3 33 [.string x1, .int .i64 (IntKind.wrap .i64 (1 + r3.2)), .int .i64 0, .int .i64 0, .string x2, .int .i64 (IntKind.wrap .i64 (1 + r5.2)), .int .i64 0, .int .i64 0]) :: .res (Box gb1 69 [.slice e1.1 o1.2.1.length e1.2, .int .i64 o1.2.2]) :: .res (OwnL estr 9 (some ⟨gA2, 0, none⟩) c2 r1) :: .res (Box g1 33 [.string (⟨#[]⟩), .int .i64 0, .int .i64 0, .int .i64 0, .string (⟨#[]⟩), .int .i64 0, .int .i64 0, .int .i64 0]) :: R) ?_ ?_
    · refine St.region ?_
      refine St.p rfl rfl ?_
      refine St.loadB 0 rfl rfl (.head _) rfl rfl ?_
      refine St.p rfl rfl ?_
      refine St.loadB 4 rfl rfl (.head _) rfl rfl ?_
      refine St.p rfl rfl ?_
      refine St.p rfl rfl ?_
      refine St.gSplit (dj := 30) _ rfl (fun hb1 => ?_) (fun hb1 => ?_)
      · replace hj1 := bif_t hb1 hj1
        refine St.gOn (dj := 30) rfl rfl ?_
        refine St.p rfl rfl ?_
        refine St.gOn (dj := 30) rfl rfl ?_
        obtain ⟨r6, hr6, hj1⟩ := bnd_e hj1
        refine St.call (c_field_Codes_Next hr6) ent26 rfl rfl rfl (fun _ w => Sat.dup (G := [.ro (SlL eu8 A6 c6 r5.1.L)]) rfl ⟨(.tail _ (.tail _ (.head _))), trivial⟩ (w.front (.s (.s .z)))) ?_
        rintro _ _ ⟨A8, c8, rfl, rfl⟩
        refine St.asrt (F' := .ro (SlL eu8 A8 c8 r6.1.L) :: .res (Box gb1 69 [.slice A8 r6.1.L.length c8, .int .i64 r6.1.At]) :: .res (Box g3 33 [.string x1, .int .i64 (IntKind.wrap .i64 (1 + r3.2)), .int .i64 0, .int .i64 0, .string x2, .int .i64 (IntKind.wrap .i64 (1 + r5.2)), .int .i64 0, .int .i64 0]) :: .ro (SlL eu8 A6 c6 r5.1.L) :: .res (OwnL estr 9 (some ⟨gA2, 0, none⟩) c2 r1) :: .res (Box g1 33 [.string (⟨#[]⟩), .int .i64 0, .int .i64 0, .int .i64 0, .string (⟨#[]⟩), .int .i64 0, .int .i64 0, .int .i64 0]) :: R) (fun _ w => w) ?_
        refine St.gOn (dj := 30) rfl rfl ?_
        refine St.p rfl rfl ?_
        refine St.p rfl rfl ?_
        refine St.done ?_
        injection hj1 with hj1
        subst hj1
        refine St.thenN ?_
        exact St.hereE (A8, c8) ⟨rfl, rfl, rfl, rfl, trivial⟩ (fun _ w => ((.k (.k (.k (.k (.k (.d .z)))))) : Keep _ _).sat (((((w.front (.s (.s (.s (.s (.s .z)))))).front (.s (.s (.s (.s (.s .z)))))).front (.s (.s (.s .z)))).front (.s (.s (.s (.s .z))))).front (.s (.s (.s (.s .z))))))
      · replace hj1 := bif_f hb1 hj1
        refine St.gOff (dj := 30) rfl rfl rfl rfl ?_
        refine St.gOff (dj := 30) rfl rfl rfl rfl ?_
        refine St.gOff (dj := 30) rfl rfl rfl rfl ?_
        refine St.p rfl rfl ?_
        refine St.done ?_
        injection hj1 with hj1
        subst hj1
        refine St.thenN ?_
        exact St.hereE (A6, c6) ⟨rfl, rfl, rfl, rfl, trivial⟩ (fun _ w => ((.k (.k (.k (.k (.k .z))))) : Keep _ _).sat (((((w.front (.s (.s (.s (.s .z))))).front (.s (.s (.s (.s .z))))).front (.s (.s (.s (.s .z))))).front (.s (.s (.s .z)))).front (.s (.s (.s (.s .z))))))
    · rintro ⟨A7, c7⟩
      refine St.cond _ rfl (fun hb2 => ?_) (fun hb2 => ?_)
      · replace h := bif_t hb2 h
        refine St.region ?_
        refine St.p rfl rfl ?_
        obtain ⟨x3, hx3, h⟩ := bnd_e h
        refine St.ixO hx3 rfl rfl rfl (.tail _ (.tail _ (.tail _ (.head _)))) rfl rfl rfl rfl rfl fun g4 hA => ?_
        cases hA
        refine St.ldO 0 hx3 rfl rfl (.tail _ (.tail _ (.tail _ (.head _)))) rfl rfl ?_
        refine St.p rfl rfl ?_
        refine St.store 4 rfl rfl rfl rfl rfl rfl (.s .z) rfl ?_
        refine St.done ?_
        refine St.thenN ?_
        refine St.prune (Γ' := [(2, _), (4, _)]) ⟨rfl, rfl, trivial⟩ (.k (.k (.k (.d (.k .z))))) ?_
        refine St.seq ?_
        refine St.region ?_
        refine St.loadB 0 rfl rfl (.head _) rfl rfl ?_
        refine St.store 0 rfl rfl rfl rfl rfl rfl (.s (.s (.s .z))) rfl ?_
        refine St.done ?_
        refine St.thenN ?_
        refine St.prune (Γ' := [(2, _)]) ⟨rfl, trivial⟩ (.k (.d (.k (.k .z)))) ?_
        refine St.ret ?_
        repeat (first | refine St.thenR ?_ | refine St.blkR ?_)
        injection h with h
        subst h
        exact St.finR Try.results22 (.cell rfl (.head _) rfl .nil) rfl [.ro (SlL eu8 A7 c7 o1.2.1), .res (Box gb1 69 [.slice A7 o1.2.1.length c7, .int .i64 o1.2.2])] ⟨A7, c7, rfl, rfl⟩ (fun _ w => ((.k (.k (.d (.d .z)))) : Keep _ _).sat (Sat.dup (G := [.ro (SlL eu8 A7 c7 o1.2.1)]) rfl ⟨(.tail _ (.tail _ (.head _))), trivial⟩ (w.front (.s (.s .z)))))
      · replace h := bif_f hb2 h
        refine St.skip ?_
        refine St.thenN ?_
        refine St.prune (Γ' := [(2, _), (4, _)]) ⟨rfl, rfl, trivial⟩ (.k (.k (.k (.d (.k .z))))) ?_
        refine St.seq ?_
        refine St.region ?_
        refine St.loadB 0 rfl rfl (.tail _ (.head _)) rfl rfl ?_
        refine St.store 0 rfl rfl rfl rfl rfl rfl (.s (.s (.s .z))) rfl ?_
        refine St.done ?_
        refine St.thenN ?_
        refine St.prune (Γ' := [(2, _)]) ⟨rfl, trivial⟩ (.k (.k (.d (.k .z)))) ?_
        refine St.ret ?_
        repeat (first | refine St.thenR ?_ | refine St.blkR ?_)
        injection h with h
        subst h
        exact St.finR Try.results22 (.cell rfl (.head _) rfl .nil) rfl [.ro (SlL eu8 A7 c7 o1.2.1), .res (Box gb1 69 [.slice A7 o1.2.1.length c7, .int .i64 o1.2.2])] ⟨A7, c7, rfl, rfl⟩ (fun _ w => ((.k (.k (.d (.d .z)))) : Keep _ _).sat (Sat.dup (G := [.ro (SlL eu8 A7 c7 o1.2.1)]) rfl ⟨(.tail _ (.tail _ (.head _))), trivial⟩ (w.front (.s (.s .z)))))

theorem ent62 : Ent Try.prog 62 := ⟨_, Try.func62, by kernel_rfl, by kernel_rfl⟩

noncomputable def m_slices_Index__int_int (s_p0 : (List Int)) (v_p1 : Int) : Option Int :=
  bnd (loopM (τ := Int ⊕ Unit) (fun (s1 : Int) => bif decide (s1 < (s_p0.length : Int)) then (bnd (elt s_p0 s1) fun x1 => bif (v_p1 == x1) then (some (.done (.inl s1))) else (some (.next (IntKind.wrap .i64 (s1 + 1))))) else (some (.done (.inr ())))) 0) fun o1 => retOr o1 fun o2 => some (-1)

theorem c_slices_Index__int_int {s_p0 : (List Int)} {v_p1 : Int} {A1 : Option Addr} {c1 : Nat} {r : Int} (h : m_slices_Index__int_int s_p0 v_p1 = some r) :
    Fun Try.prog 62 [.slice A1 s_p0.length c1, .int .i64 v_p1] [.ro (SlL ei64 A1 c1 s_p0)] (Val (.int .i64 r)) := by
  unfold m_slices_Index__int_int at h
  refine Fun.intro Try.func62 rfl rfl rfl fun w R => ?_
  refine St.seq ?_
  refine St.region ?_
  refine St.p rfl rfl ?_
  refine St.done ?_
  refine St.thenN ?_
  refine St.prune (Γ' := [(0, _), (1, _)]) ⟨rfl, rfl, trivial⟩ (.k .z) ?_
  refine St.seq ?_
  refine St.seq ?_
  refine St.region ?_
  iterate 3 refine St.p rfl rfl ?_
  refine St.done ?_
  refine St.thenN ?_
  refine St.prune (Γ' := [(0, _), (1, _), (7, _), (8, _)]) ⟨rfl, rfl, rfl, rfl, trivial⟩ (.k .z) ?_
  obtain ⟨o1, hl1, h⟩ := bnd_e h
  refine St.cutI (fun (o2 : Unit) (e2 : Unit) => []) (fun o2 e2 => R) (fun o2 => o1 = .inr o2) ?_ ?_
  · refine St.block ?_
    refine St.loop hl1 (fun (s1 : Int) (e1 : Unit) => [(0, .slice A1 s_p0.length c1), (1, .int .i64 v_p1), (7, .int .i64 (s_p0.length : Int)), (8, .int .i64 s1)]) (fun s1 e1 => .ro (SlL ei64 A1 c1 s_p0) :: R) (fun _ _ => True) () trivial ⟨rfl, rfl, rfl, rfl, trivial⟩ (fun _ w => ((.k .z) : Keep _ _).sat w) ?_
    rintro s1 e1 - hit1
    obtain ⟨st1, hm1, hd1⟩ := iter_e hit1
    have h1 := hm1
    refine St.seq ?_
    refine St.region ?_
    refine St.p rfl rfl ?_
    refine St.done ?_
    refine St.thenN ?_
    refine St.seq ?_
    refine St.cond _ rfl (fun hb1 => ?_) (fun hb1 => ?_)
    · replace h1 := bif_t hb1 h1
      refine St.skip ?_
      refine St.thenN ?_
      refine St.prune (Γ' := [(0, _), (1, _), (7, _), (8, _)]) ⟨rfl, rfl, rfl, rfl, trivial⟩ (.k .z) ?_
      refine St.seq ?_
      refine St.block ?_
      refine St.seq ?_
      refine St.region ?_
      refine St.p rfl rfl ?_
      refine St.p rfl rfl ?_
      refine St.done ?_
      refine St.thenN ?_
      refine St.prune (Γ' := [(0, _), (1, _), (5, _), (7, _), (8, _)]) ⟨rfl, rfl, rfl, rfl, rfl, trivial⟩ (.k .z) ?_
      refine St.seq ?_
      refine St.region ?_
      iterate 3 refine St.p rfl rfl ?_
      obtain ⟨x1, hx1, h1⟩ := bnd_e h1
      refine St.ixL hx1 rfl rfl rfl (.head _) rfl rfl rfl rfl rfl fun b1 ob1 => ?_
      refine St.load ob1 0 rfl rfl (.head _) rfl rfl ?_
      refine St.p rfl rfl ?_
      refine St.done ?_
      refine St.thenN ?_
      refine St.prune (Γ' := [(0, _), (1, _), (5, _), (7, _), (8, _), (16, _)]) ⟨rfl, rfl, rfl, rfl, rfl, rfl, trivial⟩ (.d (.k .z)) ?_
      refine St.cond _ rfl (fun hb2 => ?_) (fun hb2 => ?_)
      · replace h1 := bif_t hb2 h1
        refine St.seq ?_
        refine St.region ?_
        refine St.p rfl rfl ?_
        refine St.p rfl rfl ?_
        refine St.done ?_
        refine St.thenN ?_
        refine St.prune (Γ' := [(4, _)]) ⟨rfl, trivial⟩ (.d .z) ?_
        refine St.ret ?_
        repeat (first | refine St.thenR ?_ | refine St.blkR ?_)
        injection h1 with h1
        subst h1
        have ho := hd1 _ rfl
        subst ho
        have h : some _ = some _ := h
        injection h with h
        subst h
        exact St.finR Try.results62 (.tmp rfl .nil) rfl [] ⟨rfl, rfl⟩ (fun _ w => (.z : Keep _ _).sat w)
      · replace h1 := bif_f hb2 h1
        refine St.skip ?_
        refine St.blkN ?_
        refine St.thenN ?_
        refine St.prune (Γ' := [(0, _), (1, _), (7, _), (8, _)]) ⟨rfl, rfl, rfl, rfl, trivial⟩ (.k .z) ?_
        refine St.region ?_
        refine St.p rfl rfl ?_
        refine St.p rfl rfl ?_
        refine St.done ?_
        injection h1 with h1
        subst h1
        refine St.thenN ?_
        exact St.again _ () hm1 trivial ⟨rfl, rfl, rfl, rfl, trivial⟩ (fun _ w => ((.k .z) : Keep _ _).sat w)
    · replace h1 := bif_f hb1 h1
      refine St.exit ?_
      repeat (first | refine St.thenX ?_ | refine St.blkMiss rfl ?_)
      refine St.blkHit ?_
      injection h1 with h1
      subst h1
      have ho := hd1 _ rfl
      subst ho
      refine St.thenN ?_
      exact St.hereI () () rfl trivial (fun _ w => ((.d .z) : Keep _ _).sat w)
  · rintro o2 e2 ho
    subst ho
    have h : _ = some _ := h
    refine St.seq ?_
    refine St.region ?_
    refine St.p rfl rfl ?_
    refine St.done ?_
    refine St.thenN ?_
    refine St.ret ?_
    repeat (first | refine St.thenR ?_ | refine St.blkR ?_)
    injection h with h
    subst h
    exact St.finR Try.results62 (.tmp rfl .nil) rfl [] ⟨rfl, rfl⟩ (fun _ w => (.z : Keep _ _).sat w)

theorem ent45 : Ent Try.prog 45 := ⟨_, Try.func45, by kernel_rfl, by kernel_rfl⟩

noncomputable def m_slices_Contains__int_int (s_p0 : (List Int)) (v_p1 : Int) : Option Bool :=
  bnd (m_slices_Index__int_int s_p0 v_p1) fun r1 => some (decide (r1 ≥ 0))

theorem c_slices_Contains__int_int {s_p0 : (List Int)} {v_p1 : Int} {A1 : Option Addr} {c1 : Nat} {r : Bool} (h : m_slices_Contains__int_int s_p0 v_p1 = some r) :
    Fun Try.prog 45 [.slice A1 s_p0.length c1, .int .i64 v_p1] [.ro (SlL ei64 A1 c1 s_p0)] (Val (.bool r)) := by
  unfold m_slices_Contains__int_int at h
  refine Fun.intro Try.func45 rfl rfl rfl fun w R => ?_
  refine St.seq ?_
  refine St.region ?_
  refine St.p rfl rfl ?_
  refine St.done ?_
  refine St.thenN ?_
  refine St.prune (Γ' := [(0, _), (1, _)]) ⟨rfl, rfl, trivial⟩ (.k .z) ?_
  refine St.seq ?_
  refine St.region ?_
  refine St.p rfl rfl ?_
  refine St.p rfl rfl ?_
  obtain ⟨r1, hr1, h⟩ := bnd_e h
  refine St.callV (c_slices_Index__int_int hr1) ent62 rfl rfl rfl rfl ⟨(.head _), trivial⟩ ?_
  refine St.p rfl rfl ?_
  refine St.p rfl rfl ?_
  refine St.done ?_
  refine St.thenN ?_
  refine St.prune (Γ' := [(4, _)]) ⟨rfl, trivial⟩ (.d .z) ?_
  refine St.ret ?_
  repeat (first | refine St.thenR ?_ | refine St.blkR ?_)
  injection h with h
  subst h
  exact St.finR Try.results45 (.tmp rfl .nil) rfl [] ⟨rfl, rfl⟩ (fun _ w => (.z : Keep _ _).sat w)

theorem ent46 : Ent Try.prog 46 := ⟨_, Try.func46, by kernel_rfl, by kernel_rfl⟩

theorem ent23 : Ent Try.prog 23 := ⟨_, Try.func23, by kernel_rfl, by kernel_rfl⟩

noncomputable def m_activation_Reachable (p_p0 : T_Plan) : Option ((List Int) × Int) :=
  bnd (m_activation_Valid p_p0) fun r1 => bif (r1 != 0) then (some ([], r1)) else (bnd (m_activation_all p_p0) fun r2 => bnd (loopM (τ := List Int) (fun (s1 : List Int × Int) => bif decide (s1.2 < (s1.1.length : Int)) then (bnd (loopM (τ := List Int) (fun (s2 : List Int × Int) => bif decide (s2.2 < (p_p0.Now.length : Int)) then (bnd (elt s2.1 s1.2) fun x1 => bnd (shlM .i64 1 s2.2) fun q1 => bnd ((bnd (shrM .i64 r2 s2.2) fun q2 => bif ((iAnd .i64 q2 1) == 1) then (bnd (m_slices_Contains__int_int s2.1 (iOr .i64 x1 q1)) fun r3 => bif !r3 then (bnd (m_activation_good p_p0 (iOr .i64 x1 q1)) fun r4 => some r4) else (some false)) else (some false) : Option Bool)) fun o3 => bif o3 then (bnd (app 8 s2.1 [iOr .i64 x1 q1]) fun l1 => some (.next (l1, IntKind.wrap .i64 (s2.2 + 1)))) else (some (.next (s2.1, IntKind.wrap .i64 (s2.2 + 1))))) else (some (.done s2.1))) (s1.1, 0)) fun o2 => some (.next (o2, IntKind.wrap .i64 (s1.2 + 1)))) else (some (.done s1.1))) ([0], 0)) fun o1 => bnd (sortM o1) fun r5 => bnd (chkLen o1.length r5) fun l2 => some (r5, 0))

set_option maxHeartbeats 4000000 in
theorem c_activation_Reachable {p_p0 : T_Plan} {A1 : Option Addr} {c1 : Nat} {A2 : Option Addr} {c2 : Nat} {A3 : Option Addr} {c3 : Nat} {r : ((List Int) × Int)} (h : m_activation_Reachable p_p0 = some r) :
    Fun Try.prog 23 [.agg #[.slice A1 p_p0.Now.length c1, .slice A2 p_p0.Next.length c2, .slice A3 p_p0.Needs.length c3]] [.ro (SlL e_Installed A1 c1 p_p0.Now), .ro (SlL e_Installed A2 c2 p_p0.Next), .ro (SlL e_Need A3 c3 p_p0.Needs)] (fun v_ F_ => ∃ (A1 : Option Addr) (c1 : Nat), v_ = .tuple #[.slice A1 r.1.length c1, .int .i64 r.2] ∧ F_ = [.res (OwnL ei64 3 A1 c1 r.1)]) := by
  unfold m_activation_Reachable at h
  refine Fun.intro Try.func23 rfl rfl rfl fun w R => ?_
  refine St.seq ?_
  refine St.region ?_
  refine St.box rfl rfl fun g1 => ?_
  refine St.p rfl rfl ?_
  refine St.p rfl rfl ?_
  refine St.done ?_
  refine St.thenN ?_
  refine St.prune (Γ' := [(1, _)]) ⟨rfl, trivial⟩ (.k (.k (.k (.k .z)))) ?_
  refine St.seq ?_
  refine St.seq ?_
  refine St.region ?_
  refine St.loadB 0 rfl rfl (.head _) rfl rfl ?_
  obtain ⟨r1, hr1, h⟩ := bnd_e h
  refine St.callV (c_activation_Valid hr1) ent20 rfl rfl rfl rfl ⟨(.tail _ (.head _)), (.tail _ (.tail _ (.head _))), (.tail _ (.tail _ (.tail _ (.head _)))), trivial⟩ ?_
  refine St.p rfl rfl ?_
  refine St.done ?_
  refine St.thenN ?_
  refine St.prune (Γ' := [(1, _), (4, _)]) ⟨rfl, rfl, trivial⟩ (.k (.k (.k (.k .z)))) ?_
  refine St.seq ?_
  refine St.region ?_
  refine St.p rfl rfl ?_
  refine St.p rfl rfl ?_
  refine St.done ?_
  refine St.thenN ?_
  refine St.prune (Γ' := [(1, _), (4, _), (13, _)]) ⟨rfl, rfl, rfl, trivial⟩ (.k (.k (.k (.k .z)))) ?_
  refine St.cond _ rfl (fun hb1 => ?_) (fun hb1 => ?_)
  · replace h := bif_t hb1 h
    refine St.seq ?_
    refine St.region ?_
    iterate 3 refine St.p rfl rfl ?_
    refine St.done ?_
    refine St.thenN ?_
    refine St.prune (Γ' := [(2, _), (3, _)]) ⟨rfl, rfl, trivial⟩ (.d (.d (.d (.d .z)))) ?_
    refine St.ret ?_
    repeat (first | refine St.thenR ?_ | refine St.blkR ?_)
    refine St.asrt (fun _ w => w.nilL ei64 3) ?_
    injection h with h
    subst h
    exact St.finR Try.results23 (.tmp rfl (.tmp rfl .nil)) rfl [.res (OwnL ei64 3 none 0 ([] : List Int))] ⟨none, 0, rfl, rfl⟩ (fun _ w => ((.k .z) : Keep _ _).sat w)
  · replace h := bif_f hb1 h
    refine St.skip ?_
    refine St.thenN ?_
    refine St.prune (Γ' := [(1, _)]) ⟨rfl, trivial⟩ (.k (.k (.k (.k .z)))) ?_
    refine St.seq ?_
    refine St.region ?_
    refine St.loadB 0 rfl rfl (.head _) rfl rfl ?_
    obtain ⟨r2, hr2, h⟩ := bnd_e h
    refine St.callV (c_activation_all hr2) ent34 rfl rfl rfl rfl ⟨(.tail _ (.head _)), (.tail _ (.tail _ (.head _))), (.tail _ (.tail _ (.tail _ (.head _)))), trivial⟩ ?_
    refine St.p rfl rfl ?_
    refine St.done ?_
    refine St.thenN ?_
    refine St.prune (Γ' := [(1, _), (5, _)]) ⟨rfl, rfl, trivial⟩ (.k (.k (.k (.k .z)))) ?_
    refine St.seq ?_
    refine St.region ?_
    refine St.buildSlice rfl rfl rfl rfl rfl rfl rfl rfl fun g2 => ?_
    refine St.p rfl rfl ?_
    refine St.done ?_
    refine St.thenN ?_
    refine St.prune (Γ' := [(1, _), (5, _), (6, _)]) ⟨rfl, rfl, rfl, trivial⟩ (.k (.k (.k (.k (.k .z))))) ?_
    refine St.seq ?_
    refine St.seq ?_
    refine St.region ?_
    refine St.p rfl rfl ?_
    refine St.done ?_
    refine St.thenN ?_
    refine St.asrt (fun _ w => (w.front .z).litL (E := ei64) (e := 3) [0] rfl rfl) ?_
    obtain ⟨o1, hl1, h⟩ := bnd_e h
    refine St.cutE (fun (e2 : Option Addr × Nat) => [(6, .slice e2.1 o1.length e2.2)]) (fun e2 => .res (OwnL ei64 3 e2.1 e2.2 o1) :: R) ?_ ?_
    · refine St.block ?_
      refine St.loop hl1 (fun (s1 : List Int × Int) (e1 : Option Addr × Nat) => [(1, .pointer (some ⟨g1, 0, none⟩)), (5, .int .i64 r2), (6, .slice e1.1 s1.1.length e1.2), (7, .int .i64 s1.2)]) (fun s1 e1 => .res (OwnL ei64 3 e1.1 e1.2 s1.1) :: .res (Box g1 29 [.slice A1 p_p0.Now.length c1, .slice A2 p_p0.Next.length c2, .slice A3 p_p0.Needs.length c3]) :: .ro (SlL e_Installed A1 c1 p_p0.Now) :: .ro (SlL e_Installed A2 c2 p_p0.Next) :: .ro (SlL e_Need A3 c3 p_p0.Needs) :: R) (fun _ _ => True) ((some ⟨g2, 0, none⟩), ([0] : List Int).length) trivial ⟨rfl, rfl, rfl, rfl, trivial⟩ (fun _ w => ((.k (.k (.k (.k (.k .z))))) : Keep _ _).sat w) ?_
      rintro s1 ⟨A4, c4⟩ - hit1
      obtain ⟨st1, hm1, hd1⟩ := iter_e hit1
      have h1 := hm1
      refine St.seq ?_
      refine St.seq ?_
      refine St.region ?_
      iterate 4 refine St.p rfl rfl ?_
      refine St.done ?_
      refine St.thenN ?_
      refine St.prune (Γ' := [(1, _), (5, _), (6, _), (7, _), (21, _)]) ⟨rfl, rfl, rfl, rfl, rfl, trivial⟩ (.k (.k (.k (.k (.k .z))))) ?_
      refine St.cond _ rfl (fun hb2 => ?_) (fun hb2 => ?_)
      · replace h1 := bif_t hb2 h1
        refine St.skip ?_
        refine St.thenN ?_
        refine St.prune (Γ' := [(1, _), (5, _), (6, _), (7, _)]) ⟨rfl, rfl, rfl, rfl, trivial⟩ (.k (.k (.k (.k (.k .z))))) ?_
        refine St.seq ?_
        refine St.block ?_
        refine St.seq ?_
        refine St.region ?_
        refine St.p rfl rfl ?_
        refine St.loadB 0 rfl rfl (.tail _ (.head _)) rfl rfl ?_
        refine St.p rfl rfl ?_
        refine St.p rfl rfl ?_
        refine St.done ?_
        refine St.thenN ?_
        refine St.prune (Γ' := [(1, _), (5, _), (6, _), (7, _), (26, _), (27, _)]) ⟨rfl, rfl, rfl, rfl, rfl, rfl, trivial⟩ (.k (.k (.k (.k (.k .z))))) ?_
        obtain ⟨o2, hl2, h1⟩ := bnd_e h1
        refine St.selfThen ?_
        refine St.cutE (fun (e4 : Option Addr × Nat) => [(1, .pointer (some ⟨g1, 0, none⟩)), (5, .int .i64 r2), (6, .slice e4.1 o2.length e4.2), (7, .int .i64 s1.2)]) (fun e4 => .res (OwnL ei64 3 e4.1 e4.2 o2) :: .res (Box g1 29 [.slice A1 p_p0.Now.length c1, .slice A2 p_p0.Next.length c2, .slice A3 p_p0.Needs.length c3]) :: .ro (SlL e_Installed A1 c1 p_p0.Now) :: .ro (SlL e_Installed A2 c2 p_p0.Next) :: .ro (SlL e_Need A3 c3 p_p0.Needs) :: R) ?_ ?_
        · refine St.block ?_
          refine St.loop hl2 (fun (s2 : List Int × Int) (e3 : Option Addr × Nat) => [(1, .pointer (some ⟨g1, 0, none⟩)), (5, .int .i64 r2), (6, .slice e3.1 s2.1.length e3.2), (7, .int .i64 s1.2), (26, .int .i64 (p_p0.Now.length : Int)), (27, .int .i64 s2.2)]) (fun s2 e3 => .res (OwnL ei64 3 e3.1 e3.2 s2.1) :: .res (Box g1 29 [.slice A1 p_p0.Now.length c1, .slice A2 p_p0.Next.length c2, .slice A3 p_p0.Needs.length c3]) :: .ro (SlL e_Installed A1 c1 p_p0.Now) :: .ro (SlL e_Installed A2 c2 p_p0.Next) :: .ro (SlL e_Need A3 c3 p_p0.Needs) :: R) (fun _ _ => True) (A4, c4) trivial ⟨rfl, rfl, rfl, rfl, rfl, rfl, trivial⟩ (fun _ w => ((.k (.k (.k (.k (.k .z))))) : Keep _ _).sat w) ?_
          rintro s2 ⟨A6, c6⟩ - hit2
          obtain ⟨st2, hm2, hd2⟩ := iter_e hit2
          have h2 := hm2
          refine St.seq ?_
          refine St.region ?_
          refine St.p rfl rfl ?_
          refine St.done ?_
          refine St.thenN ?_
          refine St.seq ?_
          refine St.cond _ rfl (fun hb3 => ?_) (fun hb3 => ?_)
          · replace h2 := bif_t hb3 h2
            refine St.skip ?_
            refine St.thenN ?_
            refine St.prune (Γ' := [(1, _), (5, _), (6, _), (7, _), (26, _), (27, _)]) ⟨rfl, rfl, rfl, rfl, rfl, rfl, trivial⟩ (.k (.k (.k (.k (.k .z))))) ?_
            refine St.seq ?_
            refine St.block ?_
            refine St.seq ?_
            refine St.region ?_
            refine St.p rfl rfl ?_
            refine St.p rfl rfl ?_
            refine St.done ?_
            refine St.thenN ?_
            refine St.prune (Γ' := [(1, _), (5, _), (6, _), (7, _), (8, _), (26, _), (27, _)]) ⟨rfl, rfl, rfl, rfl, rfl, rfl, rfl, trivial⟩ (.k (.k (.k (.k (.k .z))))) ?_
            refine St.seq ?_
            refine St.regionF mixed (by kernel_rfl) ?_
            refine St.p rfl rfl ?_
            refine St.p rfl rfl ?_
            obtain ⟨x1, hx1, h2⟩ := bnd_e h2
            refine St.ixO hx1 rfl rfl rfl (.head _) rfl rfl rfl rfl rfl fun g3 hA => ?_
            subst hA
            refine St.ldO 0 hx1 rfl rfl (.head _) rfl rfl ?_
            refine St.p rfl rfl ?_
            obtain ⟨q1, hq1, h2⟩ := bnd_e h2
            refine St.shl rfl rfl rfl hq1 ?_
            refine St.p rfl rfl ?_
            refine St.p rfl rfl ?_
            refine St.doneQ ?_
            refine St.thenN ?_
            refine St.prune (Γ' := [(1, _), (5, _), (6, _), (7, _), (8, _), (9, _), (26, _), (27, _)]) ⟨rfl, rfl, rfl, rfl, rfl, rfl, rfl, rfl, trivial⟩ (.k (.k (.k (.k (.k .z))))) ?_
            refine St.seq ?_
            obtain ⟨o3, hj1, h2⟩ := bnd_e h2
            refine St.cutE (fun (e5 : Unit) => [(1, .pointer (some ⟨g1, 0, none⟩)), (5, .int .i64 r2), (6, .slice (some ⟨g3, 0, none⟩) s2.1.length c6), (7, .int .i64 s1.2), (9, .int .i64 (iOr .i64 x1 q1)), (26, .int .i64 (p_p0.Now.length : Int)), (27, .int .i64 s2.2), (52, .bool o3)]) (fun e5 => .res (OwnL ei64 3 (some ⟨g3, 0, none⟩) c6 s2.1) :: .res (Box g1 29 [.slice A1 p_p0.Now.length c1, .slice A2 p_p0.Next.length c2, .slice A3 p_p0.Needs.length c3]) :: .ro (SlL e_Installed A1 c1 p_p0.Now) :: .ro (SlL e_Installed A2 c2 p_p0.Next) :: .ro (SlL e_Need A3 c3 p_p0.Needs) :: R) ?_ ?_
            · refine St.region ?_
              refine St.p rfl rfl ?_
              refine St.p rfl rfl ?_
              obtain ⟨q2, hq2, hj1⟩ := bnd_e hj1
              refine St.shr rfl rfl rfl hq2 ?_
              iterate 3 refine St.p rfl rfl ?_
              refine St.gSplit (dj := 42) _ rfl (fun hb4 => ?_) (fun hb4 => ?_)
              · replace hj1 := bif_t hb4 hj1
                refine St.gOn (dj := 42) rfl rfl ?_
                refine St.p rfl rfl ?_
                refine St.gOn (dj := 42) rfl rfl ?_
                refine St.p rfl rfl ?_
                refine St.gOn (dj := 42) rfl rfl ?_
                obtain ⟨r3, hr3, hj1⟩ := bnd_e hj1
                refine St.callL (c_slices_Contains__int_int hr3) ent45 rfl rfl rfl rfl (Asks.own (.head _) Asks.nil) (fun _ _ h => by rw [h.2]; exact True.intro) ?_
                rintro _ _ ⟨rfl, rfl⟩
                refine St.asrt (F' := .res (OwnL ei64 3 (some ⟨g3, 0, none⟩) c6 s2.1) :: .res (Box g1 29 [.slice A1 p_p0.Now.length c1, .slice A2 p_p0.Next.length c2, .slice A3 p_p0.Needs.length c3]) :: .ro (SlL e_Installed A1 c1 p_p0.Now) :: .ro (SlL e_Installed A2 c2 p_p0.Next) :: .ro (SlL e_Need A3 c3 p_p0.Needs) :: R) (fun _ w => w) ?_
                refine St.gOn (dj := 42) rfl rfl ?_
                iterate 3 refine St.p rfl rfl ?_
                refine St.gSplit (dj := 48) _ rfl (fun hb5 => ?_) (fun hb5 => ?_)
                · replace hj1 := bif_t hb5 hj1
                  refine St.gOn (dj := 48) rfl rfl ?_
                  refine St.loadB 0 rfl rfl (.tail _ (.head _)) rfl rfl ?_
                  refine St.gOn (dj := 48) rfl rfl ?_
                  refine St.p rfl rfl ?_
                  refine St.gOn (dj := 48) rfl rfl ?_
                  obtain ⟨r4, hr4, hj1⟩ := bnd_e hj1
                  refine St.callV (c_activation_good hr4) ent36 rfl rfl rfl rfl ⟨(.tail _ (.tail _ (.head _))), (.tail _ (.tail _ (.tail _ (.head _)))), (.tail _ (.tail _ (.tail _ (.tail _ (.head _))))), trivial⟩ ?_
                  refine St.p rfl rfl ?_
                  refine St.done ?_
                  injection hj1 with hj1
                  subst hj1
                  refine St.thenN ?_
                  exact St.hereE () ⟨rfl, rfl, rfl, rfl, rfl, rfl, rfl, rfl, trivial⟩ (fun _ w => ((.k (.k (.k (.k (.k .z))))) : Keep _ _).sat w)
                · replace hj1 := bif_f hb5 hj1
                  refine St.gOff (dj := 48) rfl rfl rfl rfl ?_
                  refine St.gOff (dj := 48) rfl rfl rfl rfl ?_
                  refine St.gOff (dj := 48) rfl rfl rfl rfl ?_
                  refine St.p rfl rfl ?_
                  refine St.done ?_
                  injection hj1 with hj1
                  subst hj1
                  refine St.thenN ?_
                  exact St.hereE () ⟨rfl, rfl, rfl, rfl, rfl, rfl, rfl, rfl, trivial⟩ (fun _ w => ((.k (.k (.k (.k (.k .z))))) : Keep _ _).sat w)
              · replace hj1 := bif_f hb4 hj1
                refine St.gOff (dj := 42) rfl rfl rfl rfl ?_
                refine St.gOff (dj := 42) rfl rfl rfl rfl ?_
                refine St.gOff (dj := 42) rfl rfl rfl rfl ?_
                refine St.gOff (dj := 42) rfl rfl rfl rfl ?_
                refine St.p rfl rfl ?_
                refine St.p rfl rfl ?_
                refine St.gOff (dj := 48) rfl rfl rfl rfl ?_
                refine St.gOff (dj := 48) rfl rfl rfl rfl ?_
                refine St.gOff (dj := 48) rfl rfl rfl rfl ?_
                refine St.p rfl rfl ?_
                refine St.done ?_
                injection hj1 with hj1
                subst hj1
                refine St.thenN ?_
                exact St.hereE () ⟨rfl, rfl, rfl, rfl, rfl, rfl, rfl, rfl, trivial⟩ (fun _ w => ((.k (.k (.k (.k (.k .z))))) : Keep _ _).sat w)
            · rintro e5
              refine St.cond _ rfl (fun hb6 => ?_) (fun hb6 => ?_)
              · replace h2 := bif_t hb6 h2
                refine St.region ?_
                refine St.p rfl rfl ?_
                refine St.p rfl rfl ?_
                refine St.buildSlice rfl rfl rfl rfl rfl rfl rfl rfl fun g4 => ?_
                obtain ⟨l1, hl1, h2⟩ := bnd_e h2
                refine St.app (E := ei64) hl1 rfl rfl rfl (.s .z) rfl rfl rfl rfl rfl rfl rfl rfl (srcB (.head _) rfl rfl) rfl rfl fun A8 c8 => ?_
                refine St.p rfl rfl ?_
                refine St.done ?_
                refine St.blkN ?_
                refine St.thenN ?_
                refine St.prune (Γ' := [(1, _), (5, _), (6, _), (7, _), (26, _), (27, _)]) ⟨rfl, rfl, rfl, rfl, rfl, rfl, trivial⟩ (.k (.d (.k (.k (.k (.k .z)))))) ?_
                refine St.region ?_
                refine St.p rfl rfl ?_
                refine St.p rfl rfl ?_
                refine St.done ?_
                injection h2 with h2
                subst h2
                refine St.thenN ?_
                exact St.again _ (A8, c8) hm2 trivial ⟨rfl, rfl, rfl, rfl, rfl, rfl, trivial⟩ (fun _ w => ((.k (.k (.k (.k (.k .z))))) : Keep _ _).sat w)
              · replace h2 := bif_f hb6 h2
                refine St.skip ?_
                refine St.blkN ?_
                refine St.thenN ?_
                refine St.prune (Γ' := [(1, _), (5, _), (6, _), (7, _), (26, _), (27, _)]) ⟨rfl, rfl, rfl, rfl, rfl, rfl, trivial⟩ (.k (.k (.k (.k (.k .z))))) ?_
                refine St.region ?_
                refine St.p rfl rfl ?_
                refine St.p rfl rfl ?_
                refine St.done ?_
                injection h2 with h2
                subst h2
                refine St.thenN ?_
                exact St.again _ ((some ⟨g3, 0, none⟩), c6) hm2 trivial ⟨rfl, rfl, rfl, rfl, rfl, rfl, trivial⟩ (fun _ w => ((.k (.k (.k (.k (.k .z))))) : Keep _ _).sat w)
          · replace h2 := bif_f hb3 h2
            refine St.exit ?_
            repeat (first | refine St.thenX ?_ | refine St.blkMiss rfl ?_)
            refine St.blkHit ?_
            injection h2 with h2
            subst h2
            have ho := hd2 _ rfl
            subst ho
            refine St.thenN ?_
            exact St.hereE (A6, c6) ⟨rfl, rfl, rfl, rfl, trivial⟩ (fun _ w => ((.k (.k (.k (.k (.k .z))))) : Keep _ _).sat w)
        · rintro ⟨A7, c7⟩
          refine St.blkN ?_
          refine St.thenN ?_
          refine St.region ?_
          iterate 3 refine St.p rfl rfl ?_
          refine St.done ?_
          injection h1 with h1
          subst h1
          refine St.thenN ?_
          exact St.again _ (A7, c7) hm1 trivial ⟨rfl, rfl, rfl, rfl, trivial⟩ (fun _ w => ((.k (.k (.k (.k (.k .z))))) : Keep _ _).sat w)
      · replace h1 := bif_f hb2 h1
        refine St.exit ?_
        repeat (first | refine St.thenX ?_ | refine St.blkMiss rfl ?_)
        refine St.blkHit ?_
        injection h1 with h1
        subst h1
        have ho := hd1 _ rfl
        subst ho
        refine St.thenN ?_
        exact St.hereE (A4, c4) ⟨rfl, trivial⟩ (fun _ w => ((.k (.d (.d (.d (.d .z))))) : Keep _ _).sat w)
    · rintro ⟨A5, c5⟩
      refine St.seq ?_
      refine St.region ?_
      refine St.p rfl rfl ?_
      obtain ⟨r5, hr5, h⟩ := bnd_e h
      refine St.call (c_sortI hr5) ent46 rfl rfl rfl (fun _ w => (w.front .z)) ?_
      rintro _ _ ⟨rfl, rfl⟩
      refine St.asrt (F' := .res (OwnL ei64 3 A5 c5 r5) :: R) (fun _ w => w) ?_
      obtain ⟨l2, hl2, h⟩ := bnd_e h
      refine St.slots (Γ' := [(6, .slice A5 r5.length c5), (58, .slice A5 r5.length c5), (59, _)]) ⟨sl_chk hl2, sl_chk hl2, rfl, trivial⟩ ?_
      refine St.done ?_
      refine St.thenN ?_
      refine St.prune (Γ' := [(6, _)]) ⟨rfl, trivial⟩ (.k .z) ?_
      refine St.seq ?_
      refine St.region ?_
      iterate 3 refine St.p rfl rfl ?_
      refine St.done ?_
      refine St.thenN ?_
      refine St.prune (Γ' := [(2, _), (3, _)]) ⟨rfl, rfl, trivial⟩ (.k .z) ?_
      refine St.ret ?_
      repeat (first | refine St.thenR ?_ | refine St.blkR ?_)
      injection h with h
      subst h
      exact St.finR Try.results23 (.tmp rfl (.tmp rfl .nil)) rfl [.res (OwnL ei64 3 A5 c5 r5)] ⟨A5, c5, rfl, rfl⟩ (fun _ w => ((.k .z) : Keep _ _).sat w)

end Go.Proofs.Yteaoblglgcpdnaa
