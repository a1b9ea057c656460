/-
  Models of functions of the program, and that the functions compute them.
  Conditions: none.
-/
import Derived.Test.YtcjhemblnemhfaaGen2
namespace Go.Proofs.Ytcjhemblnemhfaa
open Go
set_option linter.unusedVariables false

set_option maxHeartbeats 4000000 in
theorem c_field_Codes_Change {c_p0 : T_Codes} {d_p1 : T_Device} {A1 : Option Addr} {c1 : Nat} {A2 : Option Addr} {c2 : Nat} {A3 : Option Addr} {c3 : Nat} {gb1 : Nat} {r : (T_Codes × T_Device × Int)} (h : m_field_Codes_Change c_p0 d_p1 = some r) :
    Fun Try.prog 50 [.pointer (some ⟨gb1, 0, none⟩), .agg (bx_T_Device d_p1 A2 c2 A3 c3).toArray] [.ro (SlL eu8 A1 c1 c_p0.L), .ro (SlL eu8 A2 c2 d_p1.Slots.e0.Image.Data), .ro (SlL eu8 A3 c3 d_p1.Slots.e1.Image.Data), .res (Box gb1 63 [.slice A1 c_p0.L.length c1, .int .i64 c_p0.At])] (fun v_ F_ => ∃ (A1 : Option Addr) (c1 : Nat) (A2 : Option Addr) (c2 : Nat) (A3 : Option Addr) (c3 : Nat), v_ = .tuple #[.agg (bx_T_Device r.2.1 A2 c2 A3 c3).toArray, .int .i64 r.2.2] ∧ F_ = [.ro (SlL eu8 A1 c1 r.1.L), .ro (SlL eu8 A2 c2 r.2.1.Slots.e0.Image.Data), .ro (SlL eu8 A3 c3 r.2.1.Slots.e1.Image.Data), .res (Box gb1 63 [.slice A1 r.1.L.length c1, .int .i64 r.1.At])]) := by
  unfold m_field_Codes_Change at h
  refine Fun.intro Try.func50 rfl rfl rfl fun w R => ?_
  refine St.seq ?_
  refine St.region ?_
  refine St.box rfl rfl fun g1 => ?_
  refine St.alloc rfl rfl fun g2 => ?_
  refine St.p rfl rfl ?_
  refine St.done ?_
  refine St.thenN ?_
  refine St.prune (Γ' := [(0, _), (3, _), (4, _)]) ⟨rfl, rfl, rfl, trivial⟩ (.k (.k (.k (.k (.k (.k .z)))))) ?_
  refine St.seq ?_
  obtain ⟨r1, hr1, h⟩ := bnd_e h
  obtain ⟨r2, hr2, h⟩ := bnd_e h
  obtain ⟨r3, hr3, h⟩ := bnd_e h
  obtain ⟨l1, hl1, h⟩ := bnd_e h
  refine St.regionX (iL [(.fl, 0), (.fl, 1), (.fl, 2), (.fl, 4), (.fl, 8)] (.alt (iL [(.ef, 3)] (.alt (iL [(.ef, 5), (.fl, 6)] (.alt (iL [(.ef, 7)] (.alt (iL [(.ef, 9)] (.alt (iL [(.ef, 10), (.fl, 11)] (iL [(.ef, 12)] (iL [(.ef, 13)] .nil))) (iL [(.ef, 12)] (iL [(.ef, 10), (.fl, 11)] (iL [(.ef, 13)] .nil))))) (iL [(.ef, 12)] (iL [(.ef, 9)] (iL [(.ef, 10), (.fl, 11)] (iL [(.ef, 13)] .nil)))))) (.alt (iL [(.ef, 9)] (.alt (iL [(.ef, 7)] (.alt (iL [(.ef, 10), (.fl, 11)] (iL [(.ef, 12)] (iL [(.ef, 13)] .nil))) (iL [(.ef, 12)] (iL [(.ef, 10), (.fl, 11)] (iL [(.ef, 13)] .nil))))) (iL [(.ef, 12)] (iL [(.ef, 7)] (iL [(.ef, 10), (.fl, 11)] (iL [(.ef, 13)] .nil)))))) (iL [(.ef, 12)] (.alt (iL [(.ef, 7)] (iL [(.ef, 9)] (iL [(.ef, 10), (.fl, 11)] (iL [(.ef, 13)] .nil)))) (iL [(.ef, 9)] (iL [(.ef, 7)] (iL [(.ef, 10), (.fl, 11)] (iL [(.ef, 13)] .nil))))))))) (iL [(.ef, 12)] (iL [(.ef, 5), (.fl, 6)] (.alt (iL [(.ef, 7)] (iL [(.ef, 9)] (iL [(.ef, 10), (.fl, 11)] (iL [(.ef, 13)] .nil)))) (iL [(.ef, 9)] (iL [(.ef, 7)] (iL [(.ef, 10), (.fl, 11)] (iL [(.ef, 13)] .nil))))))))) (iL [(.ef, 12)] (iL [(.ef, 3)] (iL [(.ef, 5), (.fl, 6)] (.alt (iL [(.ef, 7)] (iL [(.ef, 9)] (iL [(.ef, 10), (.fl, 11)] (iL [(.ef, 13)] .nil)))) (iL [(.ef, 9)] (iL [(.ef, 7)] (iL [(.ef, 10), (.fl, 11)] (iL [(.ef, 13)] .nil)))))))))) (.res (Box g2 35 [.string (⟨#[]⟩), .string (⟨#[]⟩), .int .i64 0, .int .i64 0, .int .i64 0, .slice none 0 0, .int .u32 0, .string (⟨#[]⟩), .int .i64 0, .int .i64 0, .int .i64 0, .slice none 0 0, .int .u32 0, .int .i64 0, .int .i64 0, .bool false]) :: .res (Box g1 35 (bx_T_Device d_p1 A2 c2 A3 c3)) :: .ro (SlL eu8 A1 c1 c_p0.L) :: .ro (SlL eu8 A2 c2 d_p1.Slots.e0.Image.Data) :: .ro (SlL eu8 A3 c3 d_p1.Slots.e1.Image.Data) :: R) mixed (by kernel_rfl) (fun _ w => ((.k (.k (.k (.k (.k (.d .z)))))) : Keep _ _).sat w) ?_
  refine St.share (Y := ?Ynd1_0) (fun (e : Nat × Option Addr × Nat × Option Addr × Nat × Nat × Option Addr × Nat × Option Addr × Nat × Option Addr × Nat) => [(0, .pointer (some ⟨gb1, 0, none⟩)), (3, .pointer (some ⟨g1, 0, none⟩)), (4, .pointer (some ⟨g2, 0, none⟩)), (6, .pointer (some ⟨e.2.2.2.2.2.1, 0, none⟩)), (9, .pointer (some ⟨g1, 0, none⟩)), (10, .string d_p1.Name), (11, .pointer (some ⟨gb1, 0, none⟩)), (12, .agg #[.int .i64 r1.2.Major, .int .i64 r1.2.Minor, .int .i64 r1.2.Patch]), (13, .pointer (some ⟨gb1, 0, none⟩)), (14, .int .i64 r2.2), (15, .int .u8 (IntKind.wrap .u8 r2.2)), (16, .slice (some ⟨e.1, 0, none⟩) ([IntKind.wrap .u8 r2.2]).length ([IntKind.wrap .u8 r2.2] : List Int).length), (17, .pointer (some ⟨gb1, 0, none⟩)), (18, .slice e.2.1 r3.2.length e.2.2.1), (19, .slice e.2.2.2.1 l1.length e.2.2.2.2.1), (20, .agg #[.string d_p1.Name, .int .i64 r1.2.Major, .int .i64 r1.2.Minor, .int .i64 r1.2.Patch, .slice e.2.2.2.1 l1.length e.2.2.2.2.1])]) (fun e => .res (Box e.2.2.2.2.2.1 30 [.string (⟨#[]⟩), .int .i64 0, .int .i64 0, .int .i64 0, .slice none 0 0]) :: .res (OwnL eu8 5 e.2.2.2.1 e.2.2.2.2.1 l1) :: .ro (SlL eu8 e.2.1 e.2.2.1 r3.2) :: .ro (SlL eu8 e.2.2.2.2.2.2.1 e.2.2.2.2.2.2.2.1 r3.1.L) :: .res (Box gb1 63 [.slice e.2.2.2.2.2.2.1 r3.1.L.length e.2.2.2.2.2.2.2.1, .int .i64 r3.1.At]) :: .ro (SlL eu8 e.2.2.2.2.2.2.2.2.1 e.2.2.2.2.2.2.2.2.2.1 r2.1.L) :: .ro (SlL eu8 e.2.2.2.2.2.2.2.2.2.2.1 e.2.2.2.2.2.2.2.2.2.2.2 r1.1.L) :: .res (Box g2 35 [.string (⟨#[]⟩), .string (⟨#[]⟩), .int .i64 0, .int .i64 0, .int .i64 0, .slice none 0 0, .int .u32 0, .string (⟨#[]⟩), .int .i64 0, .int .i64 0, .int .i64 0, .slice none 0 0, .int .u32 0, .int .i64 0, .int .i64 0, .bool false]) :: .res (Box g1 35 (bx_T_Device d_p1 A2 c2 A3 c3)) :: .ro (SlL eu8 A1 c1 c_p0.L) :: .ro (SlL eu8 A2 c2 d_p1.Slots.e0.Image.Data) :: .ro (SlL eu8 A3 c3 d_p1.Slots.e1.Image.Data) :: R) (fun hnd1_0 => ?mnd1_0) ?tnd1_0
  case mnd1_0 =>
    refine St.share (Y := ?Ynd1_1) (fun (e : Nat × Option Addr × Nat × Nat × Option Addr × Nat × Option Addr × Nat × Option Addr × Nat) => [(0, .pointer (some ⟨gb1, 0, none⟩)), (3, .pointer (some ⟨g1, 0, none⟩)), (4, .pointer (some ⟨g2, 0, none⟩)), (6, .pointer (some ⟨e.2.2.2.1, 0, none⟩)), (9, .pointer (some ⟨g1, 0, none⟩)), (10, .string d_p1.Name), (11, .pointer (some ⟨gb1, 0, none⟩)), (12, .agg #[.int .i64 r1.2.Major, .int .i64 r1.2.Minor, .int .i64 r1.2.Patch]), (13, .pointer (some ⟨gb1, 0, none⟩)), (14, .int .i64 r2.2), (15, .int .u8 (IntKind.wrap .u8 r2.2)), (16, .slice (some ⟨e.1, 0, none⟩) 1 1), (17, .pointer (some ⟨gb1, 0, none⟩)), (18, .slice e.2.1 r3.2.length e.2.2.1)]) (fun e => .res (Box e.2.2.2.1 30 [.string (⟨#[]⟩), .int .i64 0, .int .i64 0, .int .i64 0, .slice none 0 0]) :: .ro (SlL eu8 e.2.2.2.2.1 e.2.2.2.2.2.1 r3.1.L) :: .res (Box gb1 63 [.slice e.2.2.2.2.1 r3.1.L.length e.2.2.2.2.2.1, .int .i64 r3.1.At]) :: .res (OwnL eu8 5 e.2.1 e.2.2.1 r3.2) :: .res (Box e.1 5 [.int .u8 (IntKind.wrap .u8 r2.2)]) :: .ro (SlL eu8 e.2.2.2.2.2.2.1 e.2.2.2.2.2.2.2.1 r2.1.L) :: .ro (SlL eu8 e.2.2.2.2.2.2.2.2.1 e.2.2.2.2.2.2.2.2.2 r1.1.L) :: .res (Box g2 35 [.string (⟨#[]⟩), .string (⟨#[]⟩), .int .i64 0, .int .i64 0, .int .i64 0, .slice none 0 0, .int .u32 0, .string (⟨#[]⟩), .int .i64 0, .int .i64 0, .int .i64 0, .slice none 0 0, .int .u32 0, .int .i64 0, .int .i64 0, .bool false]) :: .res (Box g1 35 (bx_T_Device d_p1 A2 c2 A3 c3)) :: .ro (SlL eu8 A1 c1 c_p0.L) :: .ro (SlL eu8 A2 c2 d_p1.Slots.e0.Image.Data) :: .ro (SlL eu8 A3 c3 d_p1.Slots.e1.Image.Data) :: R) (fun hnd1_1 => ?mnd1_1) ?tnd1_1
    case mnd1_1 =>
      refine St.share (Y := ?Ynd1_2) (fun (e : Nat × Option Addr × Nat × Option Addr × Nat × Option Addr × Nat × Option Addr × Nat) => [(0, .pointer (some ⟨gb1, 0, none⟩)), (3, .pointer (some ⟨g1, 0, none⟩)), (4, .pointer (some ⟨g2, 0, none⟩)), (9, .pointer (some ⟨g1, 0, none⟩)), (10, .string d_p1.Name), (11, .pointer (some ⟨gb1, 0, none⟩)), (12, .agg #[.int .i64 r1.2.Major, .int .i64 r1.2.Minor, .int .i64 r1.2.Patch]), (13, .pointer (some ⟨gb1, 0, none⟩)), (14, .int .i64 r2.2), (15, .int .u8 (IntKind.wrap .u8 r2.2)), (16, .slice (some ⟨e.1, 0, none⟩) 1 1), (17, .pointer (some ⟨gb1, 0, none⟩)), (18, .slice e.2.1 r3.2.length e.2.2.1)]) (fun e => .ro (SlL eu8 e.2.2.2.1 e.2.2.2.2.1 r3.1.L) :: .res (Box gb1 63 [.slice e.2.2.2.1 r3.1.L.length e.2.2.2.2.1, .int .i64 r3.1.At]) :: .res (OwnL eu8 5 e.2.1 e.2.2.1 r3.2) :: .res (Box e.1 5 [.int .u8 (IntKind.wrap .u8 r2.2)]) :: .ro (SlL eu8 e.2.2.2.2.2.1 e.2.2.2.2.2.2.1 r2.1.L) :: .ro (SlL eu8 e.2.2.2.2.2.2.2.1 e.2.2.2.2.2.2.2.2 r1.1.L) :: .res (Box g2 35 [.string (⟨#[]⟩), .string (⟨#[]⟩), .int .i64 0, .int .i64 0, .int .i64 0, .slice none 0 0, .int .u32 0, .string (⟨#[]⟩), .int .i64 0, .int .i64 0, .int .i64 0, .slice none 0 0, .int .u32 0, .int .i64 0, .int .i64 0, .bool false]) :: .res (Box g1 35 (bx_T_Device d_p1 A2 c2 A3 c3)) :: .ro (SlL eu8 A1 c1 c_p0.L) :: .ro (SlL eu8 A2 c2 d_p1.Slots.e0.Image.Data) :: .ro (SlL eu8 A3 c3 d_p1.Slots.e1.Image.Data) :: R) (fun hnd1_2 => ?mnd1_2) ?tnd1_2
      case mnd1_2 =>
        refine St.share (Y := ?Ynd1_3) (fun (e : Nat × Nat × Option Addr × Nat × Option Addr × Nat) => [(0, .pointer (some ⟨gb1, 0, none⟩)), (3, .pointer (some ⟨g1, 0, none⟩)), (4, .pointer (some ⟨g2, 0, none⟩)), (6, .pointer (some ⟨e.2.1, 0, none⟩)), (9, .pointer (some ⟨g1, 0, none⟩)), (10, .string d_p1.Name), (11, .pointer (some ⟨gb1, 0, none⟩)), (12, .agg #[.int .i64 r1.2.Major, .int .i64 r1.2.Minor, .int .i64 r1.2.Patch]), (13, .pointer (some ⟨gb1, 0, none⟩)), (14, .int .i64 r2.2), (15, .int .u8 (IntKind.wrap .u8 r2.2)), (16, .slice (some ⟨e.1, 0, none⟩) 1 1), (17, .pointer (some ⟨gb1, 0, none⟩))]) (fun e => .res (Box e.2.1 30 [.string (⟨#[]⟩), .int .i64 0, .int .i64 0, .int .i64 0, .slice none 0 0]) :: .res (Box e.1 5 [.int .u8 (IntKind.wrap .u8 r2.2)]) :: .ro (SlL eu8 e.2.2.1 e.2.2.2.1 r2.1.L) :: .res (Box gb1 63 [.slice e.2.2.1 r2.1.L.length e.2.2.2.1, .int .i64 r2.1.At]) :: .ro (SlL eu8 e.2.2.2.2.1 e.2.2.2.2.2 r1.1.L) :: .res (Box g2 35 [.string (⟨#[]⟩), .string (⟨#[]⟩), .int .i64 0, .int .i64 0, .int .i64 0, .slice none 0 0, .int .u32 0, .string (⟨#[]⟩), .int .i64 0, .int .i64 0, .int .i64 0, .slice none 0 0, .int .u32 0, .int .i64 0, .int .i64 0, .bool false]) :: .res (Box g1 35 (bx_T_Device d_p1 A2 c2 A3 c3)) :: .ro (SlL eu8 A1 c1 c_p0.L) :: .ro (SlL eu8 A2 c2 d_p1.Slots.e0.Image.Data) :: .ro (SlL eu8 A3 c3 d_p1.Slots.e1.Image.Data) :: R) (fun hnd1_3 => ?mnd1_3) ?tnd1_3
        case mnd1_3 =>
          refine St.share (Y := ?Ynd1_4) (fun (e : Option Addr × Nat × Nat × Option Addr × Nat × Option Addr × Nat × Option Addr × Nat) => [(0, .pointer (some ⟨gb1, 0, none⟩)), (3, .pointer (some ⟨g1, 0, none⟩)), (4, .pointer (some ⟨g2, 0, none⟩)), (6, .pointer (some ⟨e.2.2.1, 0, none⟩)), (9, .pointer (some ⟨g1, 0, none⟩)), (10, .string d_p1.Name), (11, .pointer (some ⟨gb1, 0, none⟩)), (12, .agg #[.int .i64 r1.2.Major, .int .i64 r1.2.Minor, .int .i64 r1.2.Patch]), (13, .pointer (some ⟨gb1, 0, none⟩)), (14, .int .i64 r2.2), (15, .int .u8 (IntKind.wrap .u8 r2.2)), (17, .pointer (some ⟨gb1, 0, none⟩)), (18, .slice e.1 r3.2.length e.2.1)]) (fun e => .res (Box e.2.2.1 30 [.string (⟨#[]⟩), .int .i64 0, .int .i64 0, .int .i64 0, .slice none 0 0]) :: .ro (SlL eu8 e.2.2.2.1 e.2.2.2.2.1 r3.1.L) :: .res (Box gb1 63 [.slice e.2.2.2.1 r3.1.L.length e.2.2.2.2.1, .int .i64 r3.1.At]) :: .res (OwnL eu8 5 e.1 e.2.1 r3.2) :: .ro (SlL eu8 e.2.2.2.2.2.1 e.2.2.2.2.2.2.1 r2.1.L) :: .ro (SlL eu8 e.2.2.2.2.2.2.2.1 e.2.2.2.2.2.2.2.2 r1.1.L) :: .res (Box g2 35 [.string (⟨#[]⟩), .string (⟨#[]⟩), .int .i64 0, .int .i64 0, .int .i64 0, .slice none 0 0, .int .u32 0, .string (⟨#[]⟩), .int .i64 0, .int .i64 0, .int .i64 0, .slice none 0 0, .int .u32 0, .int .i64 0, .int .i64 0, .bool false]) :: .res (Box g1 35 (bx_T_Device d_p1 A2 c2 A3 c3)) :: .ro (SlL eu8 A1 c1 c_p0.L) :: .ro (SlL eu8 A2 c2 d_p1.Slots.e0.Image.Data) :: .ro (SlL eu8 A3 c3 d_p1.Slots.e1.Image.Data) :: R) (fun hnd1_4 => ?mnd1_4) ?tnd1_4
          case mnd1_4 =>
            refine St.share (Y := ?Ynd1_5) (fun (e : Nat × Option Addr × Nat × Option Addr × Nat) => [(0, .pointer (some ⟨gb1, 0, none⟩)), (3, .pointer (some ⟨g1, 0, none⟩)), (4, .pointer (some ⟨g2, 0, none⟩)), (6, .pointer (some ⟨e.1, 0, none⟩)), (9, .pointer (some ⟨g1, 0, none⟩)), (10, .string d_p1.Name), (11, .pointer (some ⟨gb1, 0, none⟩)), (12, .agg #[.int .i64 r1.2.Major, .int .i64 r1.2.Minor, .int .i64 r1.2.Patch]), (13, .pointer (some ⟨gb1, 0, none⟩)), (14, .int .i64 r2.2), (15, .int .u8 (IntKind.wrap .u8 r2.2)), (17, .pointer (some ⟨gb1, 0, none⟩))]) (fun e => .res (Box e.1 30 [.string (⟨#[]⟩), .int .i64 0, .int .i64 0, .int .i64 0, .slice none 0 0]) :: .ro (SlL eu8 e.2.1 e.2.2.1 r2.1.L) :: .res (Box gb1 63 [.slice e.2.1 r2.1.L.length e.2.2.1, .int .i64 r2.1.At]) :: .ro (SlL eu8 e.2.2.2.1 e.2.2.2.2 r1.1.L) :: .res (Box g2 35 [.string (⟨#[]⟩), .string (⟨#[]⟩), .int .i64 0, .int .i64 0, .int .i64 0, .slice none 0 0, .int .u32 0, .string (⟨#[]⟩), .int .i64 0, .int .i64 0, .int .i64 0, .slice none 0 0, .int .u32 0, .int .i64 0, .int .i64 0, .bool false]) :: .res (Box g1 35 (bx_T_Device d_p1 A2 c2 A3 c3)) :: .ro (SlL eu8 A1 c1 c_p0.L) :: .ro (SlL eu8 A2 c2 d_p1.Slots.e0.Image.Data) :: .ro (SlL eu8 A3 c3 d_p1.Slots.e1.Image.Data) :: R) (fun hnd1_5 => ?mnd1_5) ?tnd1_5
            case mnd1_5 =>
              refine St.share (Y := ?Ynd1_6) (fun (e : Nat × Option Addr × Nat) => [(0, .pointer (some ⟨gb1, 0, none⟩)), (3, .pointer (some ⟨g1, 0, none⟩)), (4, .pointer (some ⟨g2, 0, none⟩)), (6, .pointer (some ⟨e.1, 0, none⟩)), (9, .pointer (some ⟨g1, 0, none⟩)), (10, .string d_p1.Name), (11, .pointer (some ⟨gb1, 0, none⟩)), (12, .agg #[.int .i64 r1.2.Major, .int .i64 r1.2.Minor, .int .i64 r1.2.Patch]), (13, .pointer (some ⟨gb1, 0, none⟩)), (17, .pointer (some ⟨gb1, 0, none⟩))]) (fun e => .res (Box e.1 30 [.string (⟨#[]⟩), .int .i64 0, .int .i64 0, .int .i64 0, .slice none 0 0]) :: .ro (SlL eu8 e.2.1 e.2.2 r1.1.L) :: .res (Box gb1 63 [.slice e.2.1 r1.1.L.length e.2.2, .int .i64 r1.1.At]) :: .res (Box g2 35 [.string (⟨#[]⟩), .string (⟨#[]⟩), .int .i64 0, .int .i64 0, .int .i64 0, .slice none 0 0, .int .u32 0, .string (⟨#[]⟩), .int .i64 0, .int .i64 0, .int .i64 0, .slice none 0 0, .int .u32 0, .int .i64 0, .int .i64 0, .bool false]) :: .res (Box g1 35 (bx_T_Device d_p1 A2 c2 A3 c3)) :: .ro (SlL eu8 A1 c1 c_p0.L) :: .ro (SlL eu8 A2 c2 d_p1.Slots.e0.Image.Data) :: .ro (SlL eu8 A3 c3 d_p1.Slots.e1.Image.Data) :: R) (fun hnd1_6 => ?mnd1_6) ?tnd1_6
              case mnd1_6 =>
                refine St.xfl (fun _ h => h) (Rd.p rfl) rfl ?_
                refine St.xfl (fun _ h => h) (Rd.loadB 0 rfl (.tail _ (.head _)) rfl rfl) rfl ?_
                refine St.xfl (fun _ h => h) (Rd.p rfl) rfl ?_
                refine St.xfl (fun _ h => h) (Rd.p rfl) rfl ?_
                refine St.xfl (fun _ h => h) (Rd.p rfl) rfl ?_
                refine St.xalt ?_ ?_
                · refine St.xef ?_
                  refine St.call (c_field_Codes_plain hr1) ent49 rfl rfl rfl (fun _ w => Sat.dup (G := [.ro (SlL eu8 A1 c1 c_p0.L)]) rfl ⟨(.tail _ (.tail _ (.tail _ (.head _)))), trivial⟩ (w.front (.s (.s (.s (.s (.s .z))))))) ?_
                  rintro _ _ ⟨A4, c4, rfl, rfl⟩
                  refine St.asrt (F' := .ro (SlL eu8 A4 c4 r1.1.L) :: .res (Box gb1 63 [.slice A4 r1.1.L.length c4, .int .i64 r1.1.At]) :: .res (Box g2 35 [.string (⟨#[]⟩), .string (⟨#[]⟩), .int .i64 0, .int .i64 0, .int .i64 0, .slice none 0 0, .int .u32 0, .string (⟨#[]⟩), .int .i64 0, .int .i64 0, .int .i64 0, .slice none 0 0, .int .u32 0, .int .i64 0, .int .i64 0, .bool false]) :: .res (Box g1 35 (bx_T_Device d_p1 A2 c2 A3 c3)) :: .ro (SlL eu8 A1 c1 c_p0.L) :: .ro (SlL eu8 A2 c2 d_p1.Slots.e0.Image.Data) :: .ro (SlL eu8 A3 c3 d_p1.Slots.e1.Image.Data) :: R) (fun _ w => w) ?_
                  refine St.xk (fun _ w => ((.d (.d (.k (.k (.k (.k (.k .z))))))) : Keep _ _).sat w) ?_
                  refine St.xalt ?_ ?_
                  · refine St.xef ?_
                    refine St.call (c_field_Codes_Next hr2) ent23 rfl rfl rfl (fun _ w => Sat.dup (G := [.ro (SlL eu8 A4 c4 r1.1.L)]) rfl ⟨(.tail _ (.head _)), trivial⟩ (w.front (.s .z))) ?_
                    rintro _ _ ⟨A5, c5, rfl, rfl⟩
                    refine St.asrt (F' := .ro (SlL eu8 A5 c5 r2.1.L) :: .res (Box gb1 63 [.slice A5 r2.1.L.length c5, .int .i64 r2.1.At]) :: .ro (SlL eu8 A4 c4 r1.1.L) :: .res (Box g2 35 [.string (⟨#[]⟩), .string (⟨#[]⟩), .int .i64 0, .int .i64 0, .int .i64 0, .slice none 0 0, .int .u32 0, .string (⟨#[]⟩), .int .i64 0, .int .i64 0, .int .i64 0, .slice none 0 0, .int .u32 0, .int .i64 0, .int .i64 0, .bool false]) :: .res (Box g1 35 (bx_T_Device d_p1 A2 c2 A3 c3)) :: .ro (SlL eu8 A1 c1 c_p0.L) :: .ro (SlL eu8 A2 c2 d_p1.Slots.e0.Image.Data) :: .ro (SlL eu8 A3 c3 d_p1.Slots.e1.Image.Data) :: R) (fun _ w => w) ?_
                    refine St.xk (fun _ w => ((.d (.d (.d (.k (.k (.k (.k (.k .z)))))))) : Keep _ _).sat w) ?_
                    refine St.xfl (fun _ h => h) (Rd.p rfl) rfl ?_
                    refine St.xalt ?_ ?_
                    · refine St.xef ?_
                      refine St.buildSlice rfl rfl rfl rfl rfl rfl rfl rfl fun g3 => ?_
                      refine St.xk (fun _ w => ((.d (.d (.d (.d (.k (.k (.k (.k (.k .z))))))))) : Keep _ _).sat w) ?_
                      refine St.xalt ?_ ?_
                      · refine St.xef ?_
                        refine St.call (c_field_Codes_Bytes hr3) ent12 rfl rfl rfl (fun _ w => Sat.dup (G := [.ro (SlL eu8 A5 c5 r2.1.L)]) rfl ⟨(.tail _ (.tail _ (.head _))), trivial⟩ (w.front (.s (.s .z)))) ?_
                        rintro _ _ ⟨A6, c6, A7, c7, rfl, rfl⟩
                        refine St.asrt (F' := .ro (SlL eu8 A6 c6 r3.1.L) :: .res (Box gb1 63 [.slice A6 r3.1.L.length c6, .int .i64 r3.1.At]) :: .res (OwnL eu8 5 A7 c7 r3.2) :: .res (Box g3 5 [.int .u8 (IntKind.wrap .u8 r2.2)]) :: .ro (SlL eu8 A5 c5 r2.1.L) :: .ro (SlL eu8 A4 c4 r1.1.L) :: .res (Box g2 35 [.string (⟨#[]⟩), .string (⟨#[]⟩), .int .i64 0, .int .i64 0, .int .i64 0, .slice none 0 0, .int .u32 0, .string (⟨#[]⟩), .int .i64 0, .int .i64 0, .int .i64 0, .slice none 0 0, .int .u32 0, .int .i64 0, .int .i64 0, .bool false]) :: .res (Box g1 35 (bx_T_Device d_p1 A2 c2 A3 c3)) :: .ro (SlL eu8 A1 c1 c_p0.L) :: .ro (SlL eu8 A2 c2 d_p1.Slots.e0.Image.Data) :: .ro (SlL eu8 A3 c3 d_p1.Slots.e1.Image.Data) :: R) (fun _ w => w) ?_
                        refine St.xk (fun _ w => ((.d (.d (.d (.d (.d (.d (.k (.k (.k (.k (.k .z))))))))))) : Keep _ _).sat w) ?_
                        refine hnd1_2 _ _ (g3, A7, c7, A6, c6, A5, c5, A4, c4) ?_ ?_
                        · exact ⟨rfl, rfl, rfl, rfl, rfl, rfl, rfl, rfl, rfl, rfl, rfl, rfl, rfl, trivial⟩
                        · exact fun _ w => ((.k (.k (.k (.k (.k (.k (.k (.k (.k (.k (.k .z))))))))))) : Keep _ _).sat w
                      · refine St.xef ?_
                        refine St.alloc rfl rfl fun g4 => ?_
                        refine St.xk (fun _ w => ((.d (.d (.d (.d (.d (.k (.k (.k (.k (.k .z)))))))))) : Keep _ _).sat w) ?_
                        refine hnd1_3 _ _ (g3, g4, A5, c5, A4, c4) ?_ ?_
                        · exact ⟨rfl, rfl, rfl, rfl, rfl, rfl, rfl, rfl, rfl, rfl, rfl, rfl, rfl, trivial⟩
                        · exact fun _ w => ((.k (.k (.k (.k (.k (.k (.k (.k (.k (.k .z)))))))))) : Keep _ _).sat w
                    · refine St.xalt ?_ ?_
                      · refine St.xef ?_
                        refine St.call (c_field_Codes_Bytes hr3) ent12 rfl rfl rfl (fun _ w => Sat.dup (G := [.ro (SlL eu8 A5 c5 r2.1.L)]) rfl ⟨(.tail _ (.head _)), trivial⟩ (w.front (.s .z))) ?_
                        rintro _ _ ⟨A6, c6, A7, c7, rfl, rfl⟩
                        refine St.asrt (F' := .ro (SlL eu8 A6 c6 r3.1.L) :: .res (Box gb1 63 [.slice A6 r3.1.L.length c6, .int .i64 r3.1.At]) :: .res (OwnL eu8 5 A7 c7 r3.2) :: .ro (SlL eu8 A5 c5 r2.1.L) :: .ro (SlL eu8 A4 c4 r1.1.L) :: .res (Box g2 35 [.string (⟨#[]⟩), .string (⟨#[]⟩), .int .i64 0, .int .i64 0, .int .i64 0, .slice none 0 0, .int .u32 0, .string (⟨#[]⟩), .int .i64 0, .int .i64 0, .int .i64 0, .slice none 0 0, .int .u32 0, .int .i64 0, .int .i64 0, .bool false]) :: .res (Box g1 35 (bx_T_Device d_p1 A2 c2 A3 c3)) :: .ro (SlL eu8 A1 c1 c_p0.L) :: .ro (SlL eu8 A2 c2 d_p1.Slots.e0.Image.Data) :: .ro (SlL eu8 A3 c3 d_p1.Slots.e1.Image.Data) :: R) (fun _ w => w) ?_
                        refine St.xk (fun _ w => ((.d (.d (.d (.d (.d (.k (.k (.k (.k (.k .z)))))))))) : Keep _ _).sat w) ?_
                        refine St.xalt ?_ ?_
                        · refine St.xef ?_
                          refine St.buildSlice rfl rfl rfl rfl rfl rfl rfl rfl fun g3 => ?_
                          refine St.xk (fun _ w => ((.d (.d (.d (.d (.d (.d (.k (.k (.k (.k (.k .z))))))))))) : Keep _ _).sat w) ?_
                          refine hnd1_2 _ _ (g3, A7, c7, A6, c6, A5, c5, A4, c4) ?_ ?_
                          · exact ⟨rfl, rfl, rfl, rfl, rfl, rfl, rfl, rfl, rfl, rfl, rfl, rfl, rfl, trivial⟩
                          · exact fun _ w => ((.k (.k (.k (.k (.k (.k (.k (.k (.k (.k (.k .z))))))))))) : Keep _ _).sat (((((((((((w.front (.s (.s (.s (.s (.s (.s (.s (.s (.s (.s .z))))))))))).front (.s (.s (.s (.s (.s (.s (.s (.s (.s (.s .z))))))))))).front (.s (.s (.s (.s (.s (.s (.s (.s (.s (.s .z))))))))))).front (.s (.s (.s (.s (.s (.s (.s (.s (.s (.s .z))))))))))).front (.s (.s (.s (.s (.s (.s (.s (.s (.s (.s .z))))))))))).front (.s (.s (.s (.s (.s (.s (.s (.s (.s (.s .z))))))))))).front (.s (.s (.s (.s (.s (.s (.s (.s (.s (.s .z))))))))))).front (.s (.s (.s (.s (.s (.s (.s .z)))))))).front (.s (.s (.s (.s (.s (.s (.s (.s (.s (.s .z))))))))))).front (.s (.s (.s (.s (.s (.s (.s (.s (.s (.s .z))))))))))).front (.s (.s (.s (.s (.s (.s (.s (.s (.s (.s .z)))))))))))
                        · refine St.xef ?_
                          refine St.alloc rfl rfl fun g4 => ?_
                          refine St.xk (fun _ w => ((.d (.d (.d (.d (.d (.d (.k (.k (.k (.k (.k .z))))))))))) : Keep _ _).sat w) ?_
                          refine hnd1_4 _ _ (A7, c7, g4, A6, c6, A5, c5, A4, c4) ?_ ?_
                          · exact ⟨rfl, rfl, rfl, rfl, rfl, rfl, rfl, rfl, rfl, rfl, rfl, rfl, rfl, trivial⟩
                          · exact fun _ w => ((.k (.k (.k (.k (.k (.k (.k (.k (.k (.k (.k .z))))))))))) : Keep _ _).sat w
                      · refine St.xef ?_
                        refine St.alloc rfl rfl fun g4 => ?_
                        refine St.xk (fun _ w => ((.d (.d (.d (.d (.k (.k (.k (.k (.k .z))))))))) : Keep _ _).sat w) ?_
                        refine hnd1_5 _ _ (g4, A5, c5, A4, c4) ?_ ?_
                        · exact ⟨rfl, rfl, rfl, rfl, rfl, rfl, rfl, rfl, rfl, rfl, rfl, rfl, trivial⟩
                        · exact fun _ w => ((.k (.k (.k (.k (.k (.k (.k (.k (.k .z))))))))) : Keep _ _).sat w
                  · refine St.xef ?_
                    refine St.alloc rfl rfl fun g4 => ?_
                    refine St.xk (fun _ w => ((.d (.d (.d (.k (.k (.k (.k (.k .z)))))))) : Keep _ _).sat w) ?_
                    refine hnd1_6 _ _ (g4, A4, c4) ?_ ?_
                    · exact ⟨rfl, rfl, rfl, rfl, rfl, rfl, rfl, rfl, rfl, rfl, trivial⟩
                    · exact fun _ w => ((.k (.k (.k (.k (.k (.k (.k (.k .z)))))))) : Keep _ _).sat w
                · refine St.xef ?_
                  refine St.alloc rfl rfl fun g4 => ?_
                  refine St.xk (fun _ w => ((.d (.k (.k (.k (.k (.k (.d .z))))))) : Keep _ _).sat w) ?_
                  refine St.xef ?_
                  refine St.call (c_field_Codes_plain hr1) ent49 rfl rfl rfl (fun _ w => Sat.dup (G := [.ro (SlL eu8 A1 c1 c_p0.L)]) rfl ⟨(.tail _ (.tail _ (.tail _ (.tail _ (.head _))))), trivial⟩ (w.front (.s (.s (.s (.s (.s (.s .z)))))))) ?_
                  rintro _ _ ⟨A4, c4, rfl, rfl⟩
                  refine St.asrt (F' := .ro (SlL eu8 A4 c4 r1.1.L) :: .res (Box gb1 63 [.slice A4 r1.1.L.length c4, .int .i64 r1.1.At]) :: .res (Box g4 30 [.string (⟨#[]⟩), .int .i64 0, .int .i64 0, .int .i64 0, .slice none 0 0]) :: .res (Box g2 35 [.string (⟨#[]⟩), .string (⟨#[]⟩), .int .i64 0, .int .i64 0, .int .i64 0, .slice none 0 0, .int .u32 0, .string (⟨#[]⟩), .int .i64 0, .int .i64 0, .int .i64 0, .slice none 0 0, .int .u32 0, .int .i64 0, .int .i64 0, .bool false]) :: .res (Box g1 35 (bx_T_Device d_p1 A2 c2 A3 c3)) :: .ro (SlL eu8 A1 c1 c_p0.L) :: .ro (SlL eu8 A2 c2 d_p1.Slots.e0.Image.Data) :: .ro (SlL eu8 A3 c3 d_p1.Slots.e1.Image.Data) :: R) (fun _ w => w) ?_
                  refine St.xk (fun _ w => ((.d (.d (.d (.k (.k (.k (.k (.k .z)))))))) : Keep _ _).sat w) ?_
                  refine hnd1_6 _ _ (g4, A4, c4) ?_ ?_
                  · exact ⟨rfl, rfl, rfl, rfl, rfl, rfl, rfl, rfl, rfl, rfl, trivial⟩
                  · exact fun _ w => ((.k (.k (.k (.k (.k (.k (.k (.k .z)))))))) : Keep _ _).sat ((((((((w.front (.s (.s (.s (.s (.s (.s (.s .z)))))))).front (.s (.s (.s (.s (.s (.s (.s .z)))))))).front (.s (.s (.s (.s (.s (.s (.s .z)))))))).front (.s (.s (.s (.s (.s (.s (.s .z)))))))).front (.s (.s (.s (.s (.s (.s (.s .z)))))))).front (.s (.s (.s (.s (.s (.s .z))))))).front (.s (.s (.s (.s (.s (.s .z))))))).front (.s (.s (.s (.s (.s (.s (.s .z))))))))
              case tnd1_6 =>
                rintro ⟨g4, A4, c4⟩
                refine St.asrt (F' := .res (Box g4 30 [.string (⟨#[]⟩), .int .i64 0, .int .i64 0, .int .i64 0, .slice none 0 0]) :: .ro (SlL eu8 A4 c4 r1.1.L) :: .res (Box gb1 63 [.slice A4 r1.1.L.length c4, .int .i64 r1.1.At]) :: .res (Box g2 35 [.string (⟨#[]⟩), .string (⟨#[]⟩), .int .i64 0, .int .i64 0, .int .i64 0, .slice none 0 0, .int .u32 0, .string (⟨#[]⟩), .int .i64 0, .int .i64 0, .int .i64 0, .slice none 0 0, .int .u32 0, .int .i64 0, .int .i64 0, .bool false]) :: .res (Box g1 35 (bx_T_Device d_p1 A2 c2 A3 c3)) :: .ro (SlL eu8 A1 c1 c_p0.L) :: .ro (SlL eu8 A2 c2 d_p1.Slots.e0.Image.Data) :: .ro (SlL eu8 A3 c3 d_p1.Slots.e1.Image.Data) :: R) (fun _ w => w) ?_
                refine St.xef ?_
                refine St.call (c_field_Codes_Next hr2) ent23 rfl rfl rfl (fun _ w => Sat.dup (G := [.ro (SlL eu8 A4 c4 r1.1.L)]) rfl ⟨(.tail _ (.tail _ (.head _))), trivial⟩ (w.front (.s (.s .z)))) ?_
                rintro _ _ ⟨A5, c5, rfl, rfl⟩
                refine St.asrt (F' := .ro (SlL eu8 A5 c5 r2.1.L) :: .res (Box gb1 63 [.slice A5 r2.1.L.length c5, .int .i64 r2.1.At]) :: .res (Box g4 30 [.string (⟨#[]⟩), .int .i64 0, .int .i64 0, .int .i64 0, .slice none 0 0]) :: .ro (SlL eu8 A4 c4 r1.1.L) :: .res (Box g2 35 [.string (⟨#[]⟩), .string (⟨#[]⟩), .int .i64 0, .int .i64 0, .int .i64 0, .slice none 0 0, .int .u32 0, .string (⟨#[]⟩), .int .i64 0, .int .i64 0, .int .i64 0, .slice none 0 0, .int .u32 0, .int .i64 0, .int .i64 0, .bool false]) :: .res (Box g1 35 (bx_T_Device d_p1 A2 c2 A3 c3)) :: .ro (SlL eu8 A1 c1 c_p0.L) :: .ro (SlL eu8 A2 c2 d_p1.Slots.e0.Image.Data) :: .ro (SlL eu8 A3 c3 d_p1.Slots.e1.Image.Data) :: R) (fun _ w => w) ?_
                refine St.xk (fun _ w => ((.d (.d (.d (.d (.k (.k (.k (.k (.k .z))))))))) : Keep _ _).sat w) ?_
                refine St.xfl (fun _ h => h) (Rd.p rfl) rfl ?_
                refine hnd1_5 _ _ (g4, A5, c5, A4, c4) ?_ ?_
                · exact ⟨rfl, rfl, rfl, rfl, rfl, rfl, rfl, rfl, rfl, rfl, rfl, rfl, trivial⟩
                · exact fun _ w => ((.k (.k (.k (.k (.k (.k (.k (.k (.k .z))))))))) : Keep _ _).sat (((((((((w.front (.s (.s (.s (.s (.s (.s (.s (.s .z))))))))).front (.s (.s (.s (.s (.s (.s (.s (.s .z))))))))).front (.s (.s (.s (.s (.s (.s (.s (.s .z))))))))).front (.s (.s (.s (.s (.s (.s (.s (.s .z))))))))).front (.s (.s (.s (.s (.s (.s (.s (.s .z))))))))).front (.s (.s (.s (.s (.s (.s (.s (.s .z))))))))).front (.s (.s (.s (.s (.s (.s (.s .z)))))))).front (.s (.s (.s (.s (.s (.s (.s .z)))))))).front (.s (.s (.s (.s (.s (.s (.s (.s .z)))))))))
            case tnd1_5 =>
              rintro ⟨g4, A5, c5, A4, c4⟩
              refine St.asrt (F' := .res (Box g4 30 [.string (⟨#[]⟩), .int .i64 0, .int .i64 0, .int .i64 0, .slice none 0 0]) :: .ro (SlL eu8 A5 c5 r2.1.L) :: .res (Box gb1 63 [.slice A5 r2.1.L.length c5, .int .i64 r2.1.At]) :: .ro (SlL eu8 A4 c4 r1.1.L) :: .res (Box g2 35 [.string (⟨#[]⟩), .string (⟨#[]⟩), .int .i64 0, .int .i64 0, .int .i64 0, .slice none 0 0, .int .u32 0, .string (⟨#[]⟩), .int .i64 0, .int .i64 0, .int .i64 0, .slice none 0 0, .int .u32 0, .int .i64 0, .int .i64 0, .bool false]) :: .res (Box g1 35 (bx_T_Device d_p1 A2 c2 A3 c3)) :: .ro (SlL eu8 A1 c1 c_p0.L) :: .ro (SlL eu8 A2 c2 d_p1.Slots.e0.Image.Data) :: .ro (SlL eu8 A3 c3 d_p1.Slots.e1.Image.Data) :: R) (fun _ w => w) ?_
              refine St.xalt ?_ ?_
              · refine St.xef ?_
                refine St.buildSlice rfl rfl rfl rfl rfl rfl rfl rfl fun g3 => ?_
                refine St.xk (fun _ w => ((.d (.d (.d (.d (.d (.k (.k (.k (.k (.k .z)))))))))) : Keep _ _).sat w) ?_
                refine hnd1_3 _ _ (g3, g4, A5, c5, A4, c4) ?_ ?_
                · exact ⟨rfl, rfl, rfl, rfl, rfl, rfl, rfl, rfl, rfl, rfl, rfl, rfl, rfl, trivial⟩
                · exact fun _ w => ((.k (.k (.k (.k (.k (.k (.k (.k (.k (.k .z)))))))))) : Keep _ _).sat ((((((((((w.front (.s (.s (.s (.s (.s (.s (.s (.s (.s .z)))))))))).front (.s (.s (.s (.s (.s (.s (.s (.s (.s .z)))))))))).front (.s (.s (.s (.s (.s (.s (.s (.s (.s .z)))))))))).front (.s (.s (.s (.s (.s (.s (.s (.s (.s .z)))))))))).front (.s (.s (.s (.s (.s (.s (.s (.s (.s .z)))))))))).front (.s (.s (.s (.s (.s (.s (.s (.s (.s .z)))))))))).front (.s (.s (.s (.s (.s (.s (.s (.s (.s .z)))))))))).front (.s (.s (.s (.s (.s (.s (.s (.s (.s .z)))))))))).front (.s (.s (.s (.s (.s (.s (.s (.s .z))))))))).front (.s (.s (.s (.s (.s (.s (.s (.s (.s .z))))))))))
              · refine St.xef ?_
                refine St.call (c_field_Codes_Bytes hr3) ent12 rfl rfl rfl (fun _ w => Sat.dup (G := [.ro (SlL eu8 A5 c5 r2.1.L)]) rfl ⟨(.tail _ (.tail _ (.head _))), trivial⟩ (w.front (.s (.s .z)))) ?_
                rintro _ _ ⟨A6, c6, A7, c7, rfl, rfl⟩
                refine St.asrt (F' := .ro (SlL eu8 A6 c6 r3.1.L) :: .res (Box gb1 63 [.slice A6 r3.1.L.length c6, .int .i64 r3.1.At]) :: .res (OwnL eu8 5 A7 c7 r3.2) :: .res (Box g4 30 [.string (⟨#[]⟩), .int .i64 0, .int .i64 0, .int .i64 0, .slice none 0 0]) :: .ro (SlL eu8 A5 c5 r2.1.L) :: .ro (SlL eu8 A4 c4 r1.1.L) :: .res (Box g2 35 [.string (⟨#[]⟩), .string (⟨#[]⟩), .int .i64 0, .int .i64 0, .int .i64 0, .slice none 0 0, .int .u32 0, .string (⟨#[]⟩), .int .i64 0, .int .i64 0, .int .i64 0, .slice none 0 0, .int .u32 0, .int .i64 0, .int .i64 0, .bool false]) :: .res (Box g1 35 (bx_T_Device d_p1 A2 c2 A3 c3)) :: .ro (SlL eu8 A1 c1 c_p0.L) :: .ro (SlL eu8 A2 c2 d_p1.Slots.e0.Image.Data) :: .ro (SlL eu8 A3 c3 d_p1.Slots.e1.Image.Data) :: R) (fun _ w => w) ?_
                refine St.xk (fun _ w => ((.d (.d (.d (.d (.d (.d (.k (.k (.k (.k (.k .z))))))))))) : Keep _ _).sat w) ?_
                refine hnd1_4 _ _ (A7, c7, g4, A6, c6, A5, c5, A4, c4) ?_ ?_
                · exact ⟨rfl, rfl, rfl, rfl, rfl, rfl, rfl, rfl, rfl, rfl, rfl, rfl, rfl, trivial⟩
                · exact fun _ w => ((.k (.k (.k (.k (.k (.k (.k (.k (.k (.k (.k .z))))))))))) : Keep _ _).sat (((((((((((w.front (.s (.s (.s (.s (.s (.s (.s (.s (.s (.s .z))))))))))).front (.s (.s (.s (.s (.s (.s (.s (.s (.s (.s .z))))))))))).front (.s (.s (.s (.s (.s (.s (.s (.s (.s (.s .z))))))))))).front (.s (.s (.s (.s (.s (.s (.s (.s (.s (.s .z))))))))))).front (.s (.s (.s (.s (.s (.s (.s (.s (.s (.s .z))))))))))).front (.s (.s (.s (.s (.s (.s (.s (.s (.s (.s .z))))))))))).front (.s (.s (.s (.s (.s (.s (.s (.s (.s (.s .z))))))))))).front (.s (.s (.s (.s (.s (.s (.s (.s (.s .z)))))))))).front (.s (.s (.s (.s (.s (.s (.s (.s (.s .z)))))))))).front (.s (.s (.s (.s (.s (.s (.s (.s (.s .z)))))))))).front (.s (.s (.s (.s (.s (.s (.s (.s (.s (.s .z)))))))))))
          case tnd1_4 =>
            rintro ⟨A7, c7, g4, A6, c6, A5, c5, A4, c4⟩
            refine St.asrt (F' := .res (Box g4 30 [.string (⟨#[]⟩), .int .i64 0, .int .i64 0, .int .i64 0, .slice none 0 0]) :: .ro (SlL eu8 A6 c6 r3.1.L) :: .res (Box gb1 63 [.slice A6 r3.1.L.length c6, .int .i64 r3.1.At]) :: .res (OwnL eu8 5 A7 c7 r3.2) :: .ro (SlL eu8 A5 c5 r2.1.L) :: .ro (SlL eu8 A4 c4 r1.1.L) :: .res (Box g2 35 [.string (⟨#[]⟩), .string (⟨#[]⟩), .int .i64 0, .int .i64 0, .int .i64 0, .slice none 0 0, .int .u32 0, .string (⟨#[]⟩), .int .i64 0, .int .i64 0, .int .i64 0, .slice none 0 0, .int .u32 0, .int .i64 0, .int .i64 0, .bool false]) :: .res (Box g1 35 (bx_T_Device d_p1 A2 c2 A3 c3)) :: .ro (SlL eu8 A1 c1 c_p0.L) :: .ro (SlL eu8 A2 c2 d_p1.Slots.e0.Image.Data) :: .ro (SlL eu8 A3 c3 d_p1.Slots.e1.Image.Data) :: R) (fun _ w => w) ?_
            refine St.xef ?_
            refine St.buildSlice rfl rfl rfl rfl rfl rfl rfl rfl fun g3 => ?_
            refine St.xk (fun _ w => ((.d (.d (.d (.d (.d (.d (.d (.k (.k (.k (.k (.k .z)))))))))))) : Keep _ _).sat w) ?_
            refine hnd1_1 _ _ (g3, A7, c7, g4, A6, c6, A5, c5, A4, c4) ?_ ?_
            · exact ⟨rfl, rfl, rfl, rfl, rfl, rfl, rfl, rfl, rfl, rfl, rfl, rfl, rfl, rfl, trivial⟩
            · exact fun _ w => ((.k (.k (.k (.k (.k (.k (.k (.k (.k (.k (.k (.k .z)))))))))))) : Keep _ _).sat ((((((((((((w.front (.s (.s (.s (.s (.s (.s (.s (.s (.s (.s (.s .z)))))))))))).front (.s (.s (.s (.s (.s (.s (.s (.s (.s (.s (.s .z)))))))))))).front (.s (.s (.s (.s (.s (.s (.s (.s (.s (.s (.s .z)))))))))))).front (.s (.s (.s (.s (.s (.s (.s (.s (.s (.s (.s .z)))))))))))).front (.s (.s (.s (.s (.s (.s (.s (.s (.s (.s (.s .z)))))))))))).front (.s (.s (.s (.s (.s (.s (.s (.s (.s (.s (.s .z)))))))))))).front (.s (.s (.s (.s (.s (.s (.s (.s (.s (.s (.s .z)))))))))))).front (.s (.s (.s (.s (.s (.s (.s .z)))))))).front (.s (.s (.s (.s (.s (.s (.s (.s (.s (.s (.s .z)))))))))))).front (.s (.s (.s (.s (.s (.s (.s (.s (.s (.s (.s .z)))))))))))).front (.s (.s (.s (.s (.s (.s (.s (.s (.s (.s (.s .z)))))))))))).front (.s (.s (.s (.s (.s (.s (.s (.s (.s (.s (.s .z))))))))))))
        case tnd1_3 =>
          rintro ⟨g3, g4, A5, c5, A4, c4⟩
          refine St.asrt (F' := .res (Box g4 30 [.string (⟨#[]⟩), .int .i64 0, .int .i64 0, .int .i64 0, .slice none 0 0]) :: .res (Box g3 5 [.int .u8 (IntKind.wrap .u8 r2.2)]) :: .ro (SlL eu8 A5 c5 r2.1.L) :: .res (Box gb1 63 [.slice A5 r2.1.L.length c5, .int .i64 r2.1.At]) :: .ro (SlL eu8 A4 c4 r1.1.L) :: .res (Box g2 35 [.string (⟨#[]⟩), .string (⟨#[]⟩), .int .i64 0, .int .i64 0, .int .i64 0, .slice none 0 0, .int .u32 0, .string (⟨#[]⟩), .int .i64 0, .int .i64 0, .int .i64 0, .slice none 0 0, .int .u32 0, .int .i64 0, .int .i64 0, .bool false]) :: .res (Box g1 35 (bx_T_Device d_p1 A2 c2 A3 c3)) :: .ro (SlL eu8 A1 c1 c_p0.L) :: .ro (SlL eu8 A2 c2 d_p1.Slots.e0.Image.Data) :: .ro (SlL eu8 A3 c3 d_p1.Slots.e1.Image.Data) :: R) (fun _ w => w) ?_
          refine St.xef ?_
          refine St.call (c_field_Codes_Bytes hr3) ent12 rfl rfl rfl (fun _ w => Sat.dup (G := [.ro (SlL eu8 A5 c5 r2.1.L)]) rfl ⟨(.tail _ (.tail _ (.tail _ (.head _)))), trivial⟩ (w.front (.s (.s (.s .z))))) ?_
          rintro _ _ ⟨A6, c6, A7, c7, rfl, rfl⟩
          refine St.asrt (F' := .ro (SlL eu8 A6 c6 r3.1.L) :: .res (Box gb1 63 [.slice A6 r3.1.L.length c6, .int .i64 r3.1.At]) :: .res (OwnL eu8 5 A7 c7 r3.2) :: .res (Box g4 30 [.string (⟨#[]⟩), .int .i64 0, .int .i64 0, .int .i64 0, .slice none 0 0]) :: .res (Box g3 5 [.int .u8 (IntKind.wrap .u8 r2.2)]) :: .ro (SlL eu8 A5 c5 r2.1.L) :: .ro (SlL eu8 A4 c4 r1.1.L) :: .res (Box g2 35 [.string (⟨#[]⟩), .string (⟨#[]⟩), .int .i64 0, .int .i64 0, .int .i64 0, .slice none 0 0, .int .u32 0, .string (⟨#[]⟩), .int .i64 0, .int .i64 0, .int .i64 0, .slice none 0 0, .int .u32 0, .int .i64 0, .int .i64 0, .bool false]) :: .res (Box g1 35 (bx_T_Device d_p1 A2 c2 A3 c3)) :: .ro (SlL eu8 A1 c1 c_p0.L) :: .ro (SlL eu8 A2 c2 d_p1.Slots.e0.Image.Data) :: .ro (SlL eu8 A3 c3 d_p1.Slots.e1.Image.Data) :: R) (fun _ w => w) ?_
          refine St.xk (fun _ w => ((.d (.d (.d (.d (.d (.d (.d (.k (.k (.k (.k (.k .z)))))))))))) : Keep _ _).sat w) ?_
          refine hnd1_1 _ _ (g3, A7, c7, g4, A6, c6, A5, c5, A4, c4) ?_ ?_
          · exact ⟨rfl, rfl, rfl, rfl, rfl, rfl, rfl, rfl, rfl, rfl, rfl, rfl, rfl, rfl, trivial⟩
          · exact fun _ w => ((.k (.k (.k (.k (.k (.k (.k (.k (.k (.k (.k (.k .z)))))))))))) : Keep _ _).sat ((((((((((((w.front (.s (.s (.s (.s (.s (.s (.s (.s (.s (.s (.s .z)))))))))))).front (.s (.s (.s (.s (.s (.s (.s (.s (.s (.s (.s .z)))))))))))).front (.s (.s (.s (.s (.s (.s (.s (.s (.s (.s (.s .z)))))))))))).front (.s (.s (.s (.s (.s (.s (.s (.s (.s (.s (.s .z)))))))))))).front (.s (.s (.s (.s (.s (.s (.s (.s (.s (.s (.s .z)))))))))))).front (.s (.s (.s (.s (.s (.s (.s (.s (.s (.s (.s .z)))))))))))).front (.s (.s (.s (.s (.s (.s (.s (.s (.s (.s (.s .z)))))))))))).front (.s (.s (.s (.s (.s (.s (.s (.s (.s (.s (.s .z)))))))))))).front (.s (.s (.s (.s (.s (.s (.s (.s (.s (.s .z))))))))))).front (.s (.s (.s (.s (.s (.s (.s (.s (.s (.s .z))))))))))).front (.s (.s (.s (.s (.s (.s (.s (.s (.s (.s .z))))))))))).front (.s (.s (.s (.s (.s (.s (.s (.s (.s (.s (.s .z))))))))))))
      case tnd1_2 =>
        rintro ⟨g3, A7, c7, A6, c6, A5, c5, A4, c4⟩
        refine St.asrt (F' := .ro (SlL eu8 A6 c6 r3.1.L) :: .res (Box gb1 63 [.slice A6 r3.1.L.length c6, .int .i64 r3.1.At]) :: .res (OwnL eu8 5 A7 c7 r3.2) :: .res (Box g3 5 [.int .u8 (IntKind.wrap .u8 r2.2)]) :: .ro (SlL eu8 A5 c5 r2.1.L) :: .ro (SlL eu8 A4 c4 r1.1.L) :: .res (Box g2 35 [.string (⟨#[]⟩), .string (⟨#[]⟩), .int .i64 0, .int .i64 0, .int .i64 0, .slice none 0 0, .int .u32 0, .string (⟨#[]⟩), .int .i64 0, .int .i64 0, .int .i64 0, .slice none 0 0, .int .u32 0, .int .i64 0, .int .i64 0, .bool false]) :: .res (Box g1 35 (bx_T_Device d_p1 A2 c2 A3 c3)) :: .ro (SlL eu8 A1 c1 c_p0.L) :: .ro (SlL eu8 A2 c2 d_p1.Slots.e0.Image.Data) :: .ro (SlL eu8 A3 c3 d_p1.Slots.e1.Image.Data) :: R) (fun _ w => w) ?_
        refine St.xalt ?_ ?_
        · refine St.xef ?_
          refine St.asrt (fun _ w => (w.front (.s (.s .z))).meltL) ?_
          refine St.asrt (fun _ w => (w.front (.s (.s (.s .z)))).litL (E := eu8) (e := 5) [IntKind.wrap .u8 r2.2] rfl rfl) ?_
          refine St.app (E := eu8) hl1 rfl rfl rfl .z rfl rfl rfl rfl rfl rfl rfl rfl (srcL (.tail _ (.head _))) rfl rfl fun A8 c8 => ?_
          refine St.xk (fun _ w => ((.d (.d (.d (.d (.d (.d (.k (.k (.k (.k (.k .z))))))))))) : Keep _ _).sat w) ?_
          refine St.xfl (fun _ h => h) (Rd.p rfl) rfl ?_
          refine St.xef ?_
          refine St.alloc rfl rfl fun g4 => ?_
          refine St.xk (fun _ w => ((.d (.d (.d (.d (.d (.d (.d (.k (.k (.k (.k (.k .z)))))))))))) : Keep _ _).sat w) ?_
          refine hnd1_0 _ _ (g3, A7, c7, A8, c8, g4, A6, c6, A5, c5, A4, c4) ?_ ?_
          · exact ⟨rfl, rfl, rfl, rfl, rfl, rfl, rfl, rfl, rfl, rfl, rfl, rfl, rfl, rfl, rfl, rfl, trivial⟩
          · exact fun _ w => ((.k (.k (.k (.k (.k (.k (.k (.k (.k (.k (.k (.k .z)))))))))))) : Keep _ _).sat w
        · refine St.xef ?_
          refine St.alloc rfl rfl fun g4 => ?_
          refine St.xk (fun _ w => ((.d (.d (.d (.d (.d (.d (.d (.k (.k (.k (.k (.k .z)))))))))))) : Keep _ _).sat w) ?_
          refine hnd1_1 _ _ (g3, A7, c7, g4, A6, c6, A5, c5, A4, c4) ?_ ?_
          · exact ⟨rfl, rfl, rfl, rfl, rfl, rfl, rfl, rfl, rfl, rfl, rfl, rfl, rfl, rfl, trivial⟩
          · exact fun _ w => ((.k (.k (.k (.k (.k (.k (.k (.k (.k (.k (.k (.k .z)))))))))))) : Keep _ _).sat w
    case tnd1_1 =>
      rintro ⟨g3, A7, c7, g4, A6, c6, A5, c5, A4, c4⟩
      refine St.asrt (F' := .res (Box g4 30 [.string (⟨#[]⟩), .int .i64 0, .int .i64 0, .int .i64 0, .slice none 0 0]) :: .ro (SlL eu8 A6 c6 r3.1.L) :: .res (Box gb1 63 [.slice A6 r3.1.L.length c6, .int .i64 r3.1.At]) :: .res (OwnL eu8 5 A7 c7 r3.2) :: .res (Box g3 5 [.int .u8 (IntKind.wrap .u8 r2.2)]) :: .ro (SlL eu8 A5 c5 r2.1.L) :: .ro (SlL eu8 A4 c4 r1.1.L) :: .res (Box g2 35 [.string (⟨#[]⟩), .string (⟨#[]⟩), .int .i64 0, .int .i64 0, .int .i64 0, .slice none 0 0, .int .u32 0, .string (⟨#[]⟩), .int .i64 0, .int .i64 0, .int .i64 0, .slice none 0 0, .int .u32 0, .int .i64 0, .int .i64 0, .bool false]) :: .res (Box g1 35 (bx_T_Device d_p1 A2 c2 A3 c3)) :: .ro (SlL eu8 A1 c1 c_p0.L) :: .ro (SlL eu8 A2 c2 d_p1.Slots.e0.Image.Data) :: .ro (SlL eu8 A3 c3 d_p1.Slots.e1.Image.Data) :: R) (fun _ w => w) ?_
      refine St.xef ?_
      refine St.asrt (fun _ w => (w.front (.s (.s (.s .z)))).meltL) ?_
      refine St.asrt (fun _ w => (w.front (.s (.s (.s (.s .z))))).litL (E := eu8) (e := 5) [IntKind.wrap .u8 r2.2] rfl rfl) ?_
      refine St.app (E := eu8) hl1 rfl rfl rfl .z rfl rfl rfl rfl rfl rfl rfl rfl (srcL (.tail _ (.head _))) rfl rfl fun A8 c8 => ?_
      refine St.xk (fun _ w => ((.d (.d (.d (.d (.d (.d (.d (.k (.k (.k (.k (.k .z)))))))))))) : Keep _ _).sat w) ?_
      refine St.xfl (fun _ h => h) (Rd.p rfl) rfl ?_
      refine hnd1_0 _ _ (g3, A7, c7, A8, c8, g4, A6, c6, A5, c5, A4, c4) ?_ ?_
      · exact ⟨rfl, rfl, rfl, rfl, rfl, rfl, rfl, rfl, rfl, rfl, rfl, rfl, rfl, rfl, rfl, rfl, trivial⟩
      · exact fun _ w => ((.k (.k (.k (.k (.k (.k (.k (.k (.k (.k (.k (.k .z)))))))))))) : Keep _ _).sat ((((((((((((w.front (.s (.s (.s (.s (.s (.s (.s (.s (.s (.s (.s .z)))))))))))).front (.s (.s (.s (.s (.s (.s (.s (.s (.s (.s (.s .z)))))))))))).front (.s (.s (.s (.s (.s (.s (.s (.s (.s (.s (.s .z)))))))))))).front (.s (.s (.s (.s (.s (.s (.s (.s (.s (.s (.s .z)))))))))))).front (.s (.s (.s (.s (.s (.s (.s (.s (.s (.s (.s .z)))))))))))).front (.s (.s (.s (.s (.s (.s (.s (.s (.s (.s (.s .z)))))))))))).front (.s (.s (.s (.s (.s (.s (.s (.s (.s (.s (.s .z)))))))))))).front (.s (.s (.s (.s (.s (.s (.s (.s (.s (.s (.s .z)))))))))))).front (.s (.s (.s (.s (.s (.s (.s (.s (.s (.s (.s .z)))))))))))).front (.s (.s (.s (.s (.s (.s (.s (.s (.s (.s .z))))))))))).front (.s (.s (.s (.s (.s (.s (.s (.s (.s (.s .z))))))))))).front (.s (.s (.s (.s (.s (.s (.s (.s (.s (.s (.s .z))))))))))))
  case tnd1_0 =>
    rintro ⟨g3, A7, c7, A8, c8, g4, A6, c6, A5, c5, A4, c4⟩
    refine St.asrt (F' := .res (Box g4 30 [.string (⟨#[]⟩), .int .i64 0, .int .i64 0, .int .i64 0, .slice none 0 0]) :: .res (OwnL eu8 5 A8 c8 l1) :: .ro (SlL eu8 A7 c7 r3.2) :: .ro (SlL eu8 A6 c6 r3.1.L) :: .res (Box gb1 63 [.slice A6 r3.1.L.length c6, .int .i64 r3.1.At]) :: .ro (SlL eu8 A5 c5 r2.1.L) :: .ro (SlL eu8 A4 c4 r1.1.L) :: .res (Box g2 35 [.string (⟨#[]⟩), .string (⟨#[]⟩), .int .i64 0, .int .i64 0, .int .i64 0, .slice none 0 0, .int .u32 0, .string (⟨#[]⟩), .int .i64 0, .int .i64 0, .int .i64 0, .slice none 0 0, .int .u32 0, .int .i64 0, .int .i64 0, .bool false]) :: .res (Box g1 35 (bx_T_Device d_p1 A2 c2 A3 c3)) :: .ro (SlL eu8 A1 c1 c_p0.L) :: .ro (SlL eu8 A2 c2 d_p1.Slots.e0.Image.Data) :: .ro (SlL eu8 A3 c3 d_p1.Slots.e1.Image.Data) :: R) (fun _ w => w) ?_
    refine St.xef ?_
    refine St.store 0 rfl rfl rfl rfl rfl rfl .z rfl ?_
    refine St.xk (fun _ w => ((.d (.d (.d (.d (.d (.d (.d (.k (.k (.k (.k (.k .z)))))))))))) : Keep _ _).sat w) ?_
    refine St.xdone ?_
    refine St.thenN ?_
    refine St.prune (Γ' := [(0, _), (3, _), (4, _), (6, _)]) ⟨rfl, rfl, rfl, rfl, trivial⟩ (.k (.k (.d (.k (.k (.d (.d (.k (.k (.d (.k (.k .z)))))))))))) ?_
    refine St.seq ?_
    refine St.seq ?_
    refine St.region ?_
    refine St.p rfl rfl ?_
    obtain ⟨r4, hr4, h⟩ := bnd_e h
    refine St.call (c_field_Codes_Next hr4) ent23 rfl rfl rfl (fun _ w => Sat.dup (G := [.ro (SlL eu8 A6 c6 r3.1.L)]) rfl ⟨(.tail _ (.tail _ (.tail _ (.head _)))), trivial⟩ (w.front (.s (.s (.s .z))))) ?_
    rintro _ _ ⟨A9, c9, rfl, rfl⟩
    refine St.asrt (F' := .ro (SlL eu8 A9 c9 r4.1.L) :: .res (Box gb1 63 [.slice A9 r4.1.L.length c9, .int .i64 r4.1.At]) :: .res (Box g4 30 [.string d_p1.Name, .int .i64 r1.2.Major, .int .i64 r1.2.Minor, .int .i64 r1.2.Patch, .slice A8 l1.length c8]) :: .res (OwnL eu8 5 A8 c8 l1) :: .ro (SlL eu8 A6 c6 r3.1.L) :: .res (Box g2 35 [.string (⟨#[]⟩), .string (⟨#[]⟩), .int .i64 0, .int .i64 0, .int .i64 0, .slice none 0 0, .int .u32 0, .string (⟨#[]⟩), .int .i64 0, .int .i64 0, .int .i64 0, .slice none 0 0, .int .u32 0, .int .i64 0, .int .i64 0, .bool false]) :: .res (Box g1 35 (bx_T_Device d_p1 A2 c2 A3 c3)) :: .ro (SlL eu8 A2 c2 d_p1.Slots.e0.Image.Data) :: .ro (SlL eu8 A3 c3 d_p1.Slots.e1.Image.Data) :: R) (fun _ w => w) ?_
    refine St.done ?_
    refine St.thenN ?_
    refine St.prune (Γ' := [(0, _), (3, _), (4, _), (6, _), (22, _)]) ⟨rfl, rfl, rfl, rfl, rfl, trivial⟩ (.k (.k (.k (.k (.d (.k (.k (.k (.k .z))))))))) ?_
    refine St.block ?_
    refine St.seq ?_
    refine St.region ?_
    refine St.p rfl rfl ?_
    refine St.p rfl rfl ?_
    refine St.done ?_
    refine St.thenN ?_
    refine St.prune (Γ' := [(0, _), (3, _), (4, _), (6, _), (22, _), (23, _)]) ⟨rfl, rfl, rfl, rfl, rfl, rfl, trivial⟩ (.k (.k (.k (.k (.k (.k (.k (.k .z)))))))) ?_
    refine St.cond _ rfl (fun hb1 => ?_) (fun hb1 => ?_)
    · replace h := bif_t hb1 h
      refine St.seq ?_
      refine St.region ?_
      refine St.loadB 0 rfl rfl (.tail _ (.tail _ (.tail _ (.tail _ (.tail _ (.head _)))))) rfl rfl ?_
      obtain ⟨r5, hr5, h⟩ := bnd_e h
      refine St.call (c_ref29_Erase hr5) ent62 rfl rfl rfl (fun _ w => Sat.dup (G := [.ro (SlL eu8 A2 c2 d_p1.Slots.e0.Image.Data), .ro (SlL eu8 A3 c3 d_p1.Slots.e1.Image.Data)]) rfl ⟨(.tail _ (.tail _ (.tail _ (.tail _ (.tail _ (.tail _ (.head _))))))), (.tail _ (.tail _ (.tail _ (.tail _ (.tail _ (.tail _ (.tail _ (.head _)))))))), trivial⟩ w) ?_
      rintro _ _ ⟨A10, c10, A11, c11, rfl, rfl⟩
      refine St.asrt (F' := .ro (SlL eu8 A10 c10 r5.1.Slots.e0.Image.Data) :: .ro (SlL eu8 A11 c11 r5.1.Slots.e1.Image.Data) :: .ro (SlL eu8 A9 c9 r4.1.L) :: .res (Box gb1 63 [.slice A9 r4.1.L.length c9, .int .i64 r4.1.At]) :: .res (Box g4 30 [.string d_p1.Name, .int .i64 r1.2.Major, .int .i64 r1.2.Minor, .int .i64 r1.2.Patch, .slice A8 l1.length c8]) :: .res (OwnL eu8 5 A8 c8 l1) :: .res (Box g2 35 [.string (⟨#[]⟩), .string (⟨#[]⟩), .int .i64 0, .int .i64 0, .int .i64 0, .slice none 0 0, .int .u32 0, .string (⟨#[]⟩), .int .i64 0, .int .i64 0, .int .i64 0, .slice none 0 0, .int .u32 0, .int .i64 0, .int .i64 0, .bool false]) :: .res (Box g1 35 (bx_T_Device d_p1 A2 c2 A3 c3)) :: .ro (SlL eu8 A2 c2 d_p1.Slots.e0.Image.Data) :: .ro (SlL eu8 A3 c3 d_p1.Slots.e1.Image.Data) :: R) (fun _ w => w) ?_
      refine St.p rfl rfl ?_
      refine St.p rfl rfl ?_
      refine St.store 0 rfl rfl rfl rfl rfl rfl (.s (.s (.s (.s (.s (.s .z)))))) rfl ?_
      refine St.p rfl rfl ?_
      refine St.done ?_
      refine St.thenN ?_
      refine St.prune (Γ' := [(4, _), (5, _)]) ⟨rfl, rfl, trivial⟩ (.k (.k (.k (.k (.k (.d (.d (.d (.d (.d .z)))))))))) ?_
      refine St.ret ?_
      repeat (first | refine St.thenR ?_ | refine St.blkR ?_)
      injection h with h
      subst h
      exact St.finR Try.results50 (.cell rfl (.head _) rfl (.tmp rfl .nil)) rfl [.ro (SlL eu8 A9 c9 r4.1.L), .ro (SlL eu8 A10 c10 r5.1.Slots.e0.Image.Data), .ro (SlL eu8 A11 c11 r5.1.Slots.e1.Image.Data), .res (Box gb1 63 [.slice A9 r4.1.L.length c9, .int .i64 r4.1.At])] ⟨A9, c9, A10, c10, A11, c11, rfl, rfl⟩ (fun _ w => ((.k (.k (.k (.k (.d (.d (.d (.d .z)))))))) : Keep _ _).sat (Sat.dup (G := [.ro (SlL eu8 A9 c9 r4.1.L), .ro (SlL eu8 A10 c10 r5.1.Slots.e0.Image.Data), .ro (SlL eu8 A11 c11 r5.1.Slots.e1.Image.Data)]) rfl ⟨(.tail _ (.tail _ (.tail _ (.tail _ (.head _))))), (.tail _ (.tail _ (.head _))), (.tail _ (.tail _ (.tail _ (.head _)))), trivial⟩ (w.front (.s (.s (.s (.s .z)))))))
    · replace h := bif_f hb1 h
      refine St.seq ?_
      refine St.region ?_
      refine St.p rfl rfl ?_
      refine St.p rfl rfl ?_
      refine St.done ?_
      refine St.thenN ?_
      refine St.prune (Γ' := [(0, _), (3, _), (4, _), (6, _), (22, _), (29, _)]) ⟨rfl, rfl, rfl, rfl, rfl, rfl, trivial⟩ (.k (.k (.k (.k (.k (.k (.k (.k .z)))))))) ?_
      refine St.cond _ rfl (fun hb2 => ?_) (fun hb2 => ?_)
      · replace h := bif_t hb2 h
        refine St.seq ?_
        obtain ⟨r6, hr6, h⟩ := bnd_e h
        obtain ⟨r7, hr7, h⟩ := bnd_e h
        refine St.regionX (iL [(.fl, 0), (.fl, 2), (.fl, 3)] (.alt (iL [(.ef, 1)] (iL [(.ef, 4), (.fl, 5), (.fl, 6)] (iL [(.ef, 7)] (iL [(.ef, 8), (.fl, 9), (.fl, 10)] (iL [(.ef, 11), (.fl, 12)] .nil))))) (iL [(.ef, 4), (.fl, 5), (.fl, 6)] (.alt (iL [(.ef, 1)] (iL [(.ef, 7)] (iL [(.ef, 8), (.fl, 9), (.fl, 10)] (iL [(.ef, 11), (.fl, 12)] .nil)))) (iL [(.ef, 7)] (iL [(.ef, 1)] (iL [(.ef, 8), (.fl, 9), (.fl, 10)] (iL [(.ef, 11), (.fl, 12)] .nil)))))))) (.ro (SlL eu8 A9 c9 r4.1.L) :: .res (Box g1 35 (bx_T_Device d_p1 A2 c2 A3 c3)) :: .ro (SlL eu8 A2 c2 d_p1.Slots.e0.Image.Data) :: .ro (SlL eu8 A3 c3 d_p1.Slots.e1.Image.Data) :: R) mixed (by kernel_rfl) (fun _ w => ((.k (.d (.d (.d (.d (.k (.k (.k .z)))))))) : Keep _ _).sat w) ?_
        refine St.share (Y := ?Ynd2_0) (fun (e : Option Addr × Nat) => [(0, .pointer (some ⟨gb1, 0, none⟩)), (3, .pointer (some ⟨g1, 0, none⟩)), (4, .pointer (some ⟨g2, 0, none⟩)), (6, .pointer (some ⟨g4, 0, none⟩)), (22, .int .i64 r4.2), (29, .bool (r4.2 == 1)), (31, .agg (bx_T_Device d_p1 A2 c2 A3 c3).toArray), (32, .agg #[.string d_p1.Name, .int .i64 r1.2.Major, .int .i64 r1.2.Minor, .int .i64 r1.2.Patch, .slice A8 l1.length c8]), (33, .pointer (some ⟨gb1, 0, none⟩)), (34, .pointer (some ⟨g4, 4, none⟩)), (35, .slice A8 l1.length c8), (36, .int .i64 (l1.length : Int)), (37, .int .i64 (IntKind.wrap .i64 ((l1.length : Int) + 1))), (38, .int .i64 r6.2)]) (fun e => .ro (SlL eu8 e.1 e.2 r6.1.L) :: .res (Box gb1 63 [.slice e.1 r6.1.L.length e.2, .int .i64 r6.1.At]) :: .ro (SlL eu8 A9 c9 r4.1.L) :: .res (Box g4 30 [.string d_p1.Name, .int .i64 r1.2.Major, .int .i64 r1.2.Minor, .int .i64 r1.2.Patch, .slice A8 l1.length c8]) :: .res (OwnL eu8 5 A8 c8 l1) :: .res (Box g2 35 [.string (⟨#[]⟩), .string (⟨#[]⟩), .int .i64 0, .int .i64 0, .int .i64 0, .slice none 0 0, .int .u32 0, .string (⟨#[]⟩), .int .i64 0, .int .i64 0, .int .i64 0, .slice none 0 0, .int .u32 0, .int .i64 0, .int .i64 0, .bool false]) :: .res (Box g1 35 (bx_T_Device d_p1 A2 c2 A3 c3)) :: .ro (SlL eu8 A2 c2 d_p1.Slots.e0.Image.Data) :: .ro (SlL eu8 A3 c3 d_p1.Slots.e1.Image.Data) :: R) (fun hnd2_0 => ?mnd2_0) ?tnd2_0
        case mnd2_0 =>
          refine St.share (Y := ?Ynd2_1) (fun (e : Unit) => [(0, .pointer (some ⟨gb1, 0, none⟩)), (3, .pointer (some ⟨g1, 0, none⟩)), (4, .pointer (some ⟨g2, 0, none⟩)), (6, .pointer (some ⟨g4, 0, none⟩)), (22, .int .i64 r4.2), (29, .bool (r4.2 == 1)), (31, .agg (bx_T_Device d_p1 A2 c2 A3 c3).toArray), (32, .agg #[.string d_p1.Name, .int .i64 r1.2.Major, .int .i64 r1.2.Minor, .int .i64 r1.2.Patch, .slice A8 l1.length c8]), (33, .pointer (some ⟨gb1, 0, none⟩)), (34, .pointer (some ⟨g4, 4, none⟩)), (35, .slice A8 l1.length c8), (36, .int .i64 (l1.length : Int)), (37, .int .i64 (IntKind.wrap .i64 ((l1.length : Int) + 1)))]) (fun e => .ro (SlL eu8 A9 c9 r4.1.L) :: .res (Box gb1 63 [.slice A9 r4.1.L.length c9, .int .i64 r4.1.At]) :: .res (Box g4 30 [.string d_p1.Name, .int .i64 r1.2.Major, .int .i64 r1.2.Minor, .int .i64 r1.2.Patch, .slice A8 l1.length c8]) :: .res (OwnL eu8 5 A8 c8 l1) :: .res (Box g2 35 [.string (⟨#[]⟩), .string (⟨#[]⟩), .int .i64 0, .int .i64 0, .int .i64 0, .slice none 0 0, .int .u32 0, .string (⟨#[]⟩), .int .i64 0, .int .i64 0, .int .i64 0, .slice none 0 0, .int .u32 0, .int .i64 0, .int .i64 0, .bool false]) :: .res (Box g1 35 (bx_T_Device d_p1 A2 c2 A3 c3)) :: .ro (SlL eu8 A2 c2 d_p1.Slots.e0.Image.Data) :: .ro (SlL eu8 A3 c3 d_p1.Slots.e1.Image.Data) :: R) (fun hnd2_1 => ?mnd2_1) ?tnd2_1
          case mnd2_1 =>
            refine St.xfl (fun _ h => h) (Rd.loadB 0 rfl (.tail _ (.head _)) rfl rfl) rfl ?_
            refine St.xfl (fun _ h => h) (Rd.p rfl) rfl ?_
            refine St.xfl (fun _ h => h) (Rd.p rfl) rfl ?_
            refine St.xalt ?_ ?_
            · refine St.xef ?_
              refine St.loadB 0 rfl rfl (.tail _ (.tail _ (.head _))) rfl rfl ?_
              refine St.xk (fun _ w => ((.k (.d (.d (.d (.d (.k (.k (.k .z)))))))) : Keep _ _).sat w) ?_
              refine St.xef ?_
              refine St.loadB 4 rfl rfl (.tail _ (.tail _ (.head _))) rfl rfl ?_
              refine St.xk (fun _ w => ((.k (.d (.d (.d (.d (.k (.k (.k .z)))))))) : Keep _ _).sat w) ?_
              refine St.xfl (fun _ h => h) (Rd.p rfl) rfl ?_
              refine St.xfl (fun _ h => h) (Rd.p rfl) rfl ?_
              refine hnd2_1 _ _ () ?_ ?_
              · exact ⟨rfl, rfl, rfl, rfl, rfl, rfl, rfl, rfl, rfl, rfl, rfl, rfl, rfl, trivial⟩
              · exact fun _ w => ((.k (.k (.k (.k (.k (.k (.k (.k .z)))))))) : Keep _ _).sat w
            · refine St.xef ?_
              refine St.loadB 4 rfl rfl (.tail _ (.tail _ (.head _))) rfl rfl ?_
              refine St.xk (fun _ w => ((.k (.d (.d (.d (.d (.k (.k (.k .z)))))))) : Keep _ _).sat w) ?_
              refine St.xfl (fun _ h => h) (Rd.p rfl) rfl ?_
              refine St.xfl (fun _ h => h) (Rd.p rfl) rfl ?_
              refine St.xalt ?_ ?_
              · refine St.xef ?_
                refine St.loadB 0 rfl rfl (.tail _ (.tail _ (.head _))) rfl rfl ?_
                refine St.xk (fun _ w => ((.k (.d (.d (.d (.d (.k (.k (.k .z)))))))) : Keep _ _).sat w) ?_
                refine hnd2_1 _ _ () ?_ ?_
                · exact ⟨rfl, rfl, rfl, rfl, rfl, rfl, rfl, rfl, rfl, rfl, rfl, rfl, rfl, trivial⟩
                · exact fun _ w => ((.k (.k (.k (.k (.k (.k (.k (.k .z)))))))) : Keep _ _).sat w
              · refine St.xef ?_
                refine St.call (c_field_Codes_Next hr6) ent23 rfl rfl rfl (fun _ w => Sat.dup (G := [.ro (SlL eu8 A9 c9 r4.1.L)]) rfl ⟨(.tail _ (.head _)), trivial⟩ (w.front (.s .z))) ?_
                rintro _ _ ⟨A12, c12, rfl, rfl⟩
                refine St.asrt (F' := .ro (SlL eu8 A12 c12 r6.1.L) :: .res (Box gb1 63 [.slice A12 r6.1.L.length c12, .int .i64 r6.1.At]) :: .ro (SlL eu8 A9 c9 r4.1.L) :: .res (Box g4 30 [.string d_p1.Name, .int .i64 r1.2.Major, .int .i64 r1.2.Minor, .int .i64 r1.2.Patch, .slice A8 l1.length c8]) :: .res (OwnL eu8 5 A8 c8 l1) :: .res (Box g2 35 [.string (⟨#[]⟩), .string (⟨#[]⟩), .int .i64 0, .int .i64 0, .int .i64 0, .slice none 0 0, .int .u32 0, .string (⟨#[]⟩), .int .i64 0, .int .i64 0, .int .i64 0, .slice none 0 0, .int .u32 0, .int .i64 0, .int .i64 0, .bool false]) :: .res (Box g1 35 (bx_T_Device d_p1 A2 c2 A3 c3)) :: .ro (SlL eu8 A2 c2 d_p1.Slots.e0.Image.Data) :: .ro (SlL eu8 A3 c3 d_p1.Slots.e1.Image.Data) :: R) (fun _ w => w) ?_
                refine St.xk (fun _ w => ((.d (.d (.k (.d (.d (.d (.k (.k (.k .z))))))))) : Keep _ _).sat w) ?_
                refine St.xef ?_
                refine St.loadB 0 rfl rfl (.tail _ (.tail _ (.tail _ (.head _)))) rfl rfl ?_
                refine St.xk (fun _ w => ((.d (.d (.k (.d (.d (.d (.k (.k (.k .z))))))))) : Keep _ _).sat w) ?_
                refine hnd2_0 _ _ (A12, c12) ?_ ?_
                · exact ⟨rfl, rfl, rfl, rfl, rfl, rfl, rfl, rfl, rfl, rfl, rfl, rfl, rfl, rfl, trivial⟩
                · exact fun _ w => ((.k (.k (.k (.k (.k (.k (.k (.k (.k .z))))))))) : Keep _ _).sat w
          case tnd2_1 =>
            rintro ⟨⟩
            refine St.asrt (F' := .ro (SlL eu8 A9 c9 r4.1.L) :: .res (Box gb1 63 [.slice A9 r4.1.L.length c9, .int .i64 r4.1.At]) :: .res (Box g4 30 [.string d_p1.Name, .int .i64 r1.2.Major, .int .i64 r1.2.Minor, .int .i64 r1.2.Patch, .slice A8 l1.length c8]) :: .res (OwnL eu8 5 A8 c8 l1) :: .res (Box g2 35 [.string (⟨#[]⟩), .string (⟨#[]⟩), .int .i64 0, .int .i64 0, .int .i64 0, .slice none 0 0, .int .u32 0, .string (⟨#[]⟩), .int .i64 0, .int .i64 0, .int .i64 0, .slice none 0 0, .int .u32 0, .int .i64 0, .int .i64 0, .bool false]) :: .res (Box g1 35 (bx_T_Device d_p1 A2 c2 A3 c3)) :: .ro (SlL eu8 A2 c2 d_p1.Slots.e0.Image.Data) :: .ro (SlL eu8 A3 c3 d_p1.Slots.e1.Image.Data) :: R) (fun _ w => w) ?_
            refine St.xef ?_
            refine St.call (c_field_Codes_Next hr6) ent23 rfl rfl rfl (fun _ w => Sat.dup (G := [.ro (SlL eu8 A9 c9 r4.1.L)]) rfl ⟨(.tail _ (.head _)), trivial⟩ (w.front (.s .z))) ?_
            rintro _ _ ⟨A12, c12, rfl, rfl⟩
            refine St.asrt (F' := .ro (SlL eu8 A12 c12 r6.1.L) :: .res (Box gb1 63 [.slice A12 r6.1.L.length c12, .int .i64 r6.1.At]) :: .ro (SlL eu8 A9 c9 r4.1.L) :: .res (Box g4 30 [.string d_p1.Name, .int .i64 r1.2.Major, .int .i64 r1.2.Minor, .int .i64 r1.2.Patch, .slice A8 l1.length c8]) :: .res (OwnL eu8 5 A8 c8 l1) :: .res (Box g2 35 [.string (⟨#[]⟩), .string (⟨#[]⟩), .int .i64 0, .int .i64 0, .int .i64 0, .slice none 0 0, .int .u32 0, .string (⟨#[]⟩), .int .i64 0, .int .i64 0, .int .i64 0, .slice none 0 0, .int .u32 0, .int .i64 0, .int .i64 0, .bool false]) :: .res (Box g1 35 (bx_T_Device d_p1 A2 c2 A3 c3)) :: .ro (SlL eu8 A2 c2 d_p1.Slots.e0.Image.Data) :: .ro (SlL eu8 A3 c3 d_p1.Slots.e1.Image.Data) :: R) (fun _ w => w) ?_
            refine St.xk (fun _ w => ((.d (.d (.k (.d (.d (.d (.k (.k (.k .z))))))))) : Keep _ _).sat w) ?_
            refine hnd2_0 _ _ (A12, c12) ?_ ?_
            · exact ⟨rfl, rfl, rfl, rfl, rfl, rfl, rfl, rfl, rfl, rfl, rfl, rfl, rfl, rfl, trivial⟩
            · exact fun _ w => ((.k (.k (.k (.k (.k (.k (.k (.k (.k .z))))))))) : Keep _ _).sat w
        case tnd2_0 =>
          rintro ⟨A12, c12⟩
          refine St.asrt (F' := .ro (SlL eu8 A12 c12 r6.1.L) :: .res (Box gb1 63 [.slice A12 r6.1.L.length c12, .int .i64 r6.1.At]) :: .ro (SlL eu8 A9 c9 r4.1.L) :: .res (Box g4 30 [.string d_p1.Name, .int .i64 r1.2.Major, .int .i64 r1.2.Minor, .int .i64 r1.2.Patch, .slice A8 l1.length c8]) :: .res (OwnL eu8 5 A8 c8 l1) :: .res (Box g2 35 [.string (⟨#[]⟩), .string (⟨#[]⟩), .int .i64 0, .int .i64 0, .int .i64 0, .slice none 0 0, .int .u32 0, .string (⟨#[]⟩), .int .i64 0, .int .i64 0, .int .i64 0, .slice none 0 0, .int .u32 0, .int .i64 0, .int .i64 0, .bool false]) :: .res (Box g1 35 (bx_T_Device d_p1 A2 c2 A3 c3)) :: .ro (SlL eu8 A2 c2 d_p1.Slots.e0.Image.Data) :: .ro (SlL eu8 A3 c3 d_p1.Slots.e1.Image.Data) :: R) (fun _ w => w) ?_
          refine St.xef ?_
          refine St.asrt (fun _ w => (w.front (.s (.s (.s (.s .z))))).meltL) ?_
          refine St.call (c_ref29_Write hr7) ent35 rfl rfl rfl (fun _ w => Sat.dup (G := [.ro (SlL eu8 A2 c2 d_p1.Slots.e0.Image.Data), .ro (SlL eu8 A3 c3 d_p1.Slots.e1.Image.Data), .ro (SlL eu8 A8 c8 l1)]) rfl ⟨(.tail _ (.tail _ (.tail _ (.tail _ (.tail _ (.tail _ (.tail _ (.head _)))))))), (.tail _ (.tail _ (.tail _ (.tail _ (.tail _ (.tail _ (.tail _ (.tail _ (.head _))))))))), (.head _), trivial⟩ w) ?_
          rintro _ _ ⟨A13, c13, A14, c14, rfl, rfl⟩
          refine St.asrt (F' := .ro (SlL eu8 A13 c13 r7.1.Slots.e0.Image.Data) :: .ro (SlL eu8 A14 c14 r7.1.Slots.e1.Image.Data) :: .ro (SlL eu8 A8 c8 l1) :: .ro (SlL eu8 A12 c12 r6.1.L) :: .res (Box gb1 63 [.slice A12 r6.1.L.length c12, .int .i64 r6.1.At]) :: .ro (SlL eu8 A9 c9 r4.1.L) :: .res (Box g4 30 [.string d_p1.Name, .int .i64 r1.2.Major, .int .i64 r1.2.Minor, .int .i64 r1.2.Patch, .slice A8 l1.length c8]) :: .res (Box g2 35 [.string (⟨#[]⟩), .string (⟨#[]⟩), .int .i64 0, .int .i64 0, .int .i64 0, .slice none 0 0, .int .u32 0, .string (⟨#[]⟩), .int .i64 0, .int .i64 0, .int .i64 0, .slice none 0 0, .int .u32 0, .int .i64 0, .int .i64 0, .bool false]) :: .res (Box g1 35 (bx_T_Device d_p1 A2 c2 A3 c3)) :: .ro (SlL eu8 A2 c2 d_p1.Slots.e0.Image.Data) :: .ro (SlL eu8 A3 c3 d_p1.Slots.e1.Image.Data) :: R) (fun _ w => w) ?_
          refine St.xk (fun _ w => ((.d (.d (.d (.d (.d (.k (.d (.d (.k (.k (.k .z))))))))))) : Keep _ _).sat w) ?_
          refine St.xfl (fun _ h => h) (Rd.p rfl) rfl ?_
          refine St.xfl (fun _ h => h) (Rd.p rfl) rfl ?_
          refine St.xef ?_
          refine St.store 0 rfl rfl rfl rfl rfl rfl (.s (.s (.s (.s (.s (.s (.s .z))))))) rfl ?_
          refine St.xk (fun _ w => ((.d (.d (.d (.d (.d (.d (.k (.d (.k (.k (.k .z))))))))))) : Keep _ _).sat w) ?_
          refine St.xfl (fun _ h => h) (Rd.p rfl) rfl ?_
          refine St.xdone ?_
          refine St.thenN ?_
          refine St.prune (Γ' := [(4, _), (5, _)]) ⟨rfl, rfl, trivial⟩ (.k (.k (.k (.d (.k (.k (.d (.d (.d (.d (.d .z))))))))))) ?_
          refine St.ret ?_
          repeat (first | refine St.thenR ?_ | refine St.blkR ?_)
          injection h with h
          subst h
          exact St.finR Try.results50 (.cell rfl (.head _) rfl (.tmp rfl .nil)) rfl [.ro (SlL eu8 A12 c12 r6.1.L), .ro (SlL eu8 A13 c13 r7.1.Slots.e0.Image.Data), .ro (SlL eu8 A14 c14 r7.1.Slots.e1.Image.Data), .res (Box gb1 63 [.slice A12 r6.1.L.length c12, .int .i64 r6.1.At])] ⟨A12, c12, A13, c13, A14, c14, rfl, rfl⟩ (fun _ w => ((.k (.k (.k (.k (.d (.d (.d (.d .z)))))))) : Keep _ _).sat (Sat.dup (G := [.ro (SlL eu8 A12 c12 r6.1.L), .ro (SlL eu8 A13 c13 r7.1.Slots.e0.Image.Data), .ro (SlL eu8 A14 c14 r7.1.Slots.e1.Image.Data)]) rfl ⟨(.tail _ (.tail _ (.tail _ (.tail _ (.head _))))), (.tail _ (.tail _ (.head _))), (.tail _ (.tail _ (.tail _ (.head _)))), trivial⟩ (w.front (.s (.s (.s (.s .z)))))))
      · replace h := bif_f hb2 h
        refine St.seq ?_
        obtain ⟨o1, hj1, h⟩ := bnd_e h
        refine St.cutE (fun (e1 : Unit) => [(0, .pointer (some ⟨gb1, 0, none⟩)), (3, .pointer (some ⟨g1, 0, none⟩)), (4, .pointer (some ⟨g2, 0, none⟩)), (6, .pointer (some ⟨g4, 0, none⟩)), (22, .int .i64 r4.2), (42, .bool o1)]) (fun e1 => .ro (SlL eu8 A9 c9 r4.1.L) :: .res (Box gb1 63 [.slice A9 r4.1.L.length c9, .int .i64 r4.1.At]) :: .res (Box g4 30 [.string d_p1.Name, .int .i64 r1.2.Major, .int .i64 r1.2.Minor, .int .i64 r1.2.Patch, .slice A8 l1.length c8]) :: .res (OwnL eu8 5 A8 c8 l1) :: .res (Box g2 35 [.string (⟨#[]⟩), .string (⟨#[]⟩), .int .i64 0, .int .i64 0, .int .i64 0, .slice none 0 0, .int .u32 0, .string (⟨#[]⟩), .int .i64 0, .int .i64 0, .int .i64 0, .slice none 0 0, .int .u32 0, .int .i64 0, .int .i64 0, .bool false]) :: .res (Box g1 35 (bx_T_Device d_p1 A2 c2 A3 c3)) :: .ro (SlL eu8 A2 c2 d_p1.Slots.e0.Image.Data) :: .ro (SlL eu8 A3 c3 d_p1.Slots.e1.Image.Data) :: R) ?_ ?_
        · refine St.seq ?_
          refine St.region ?_
          refine St.p rfl rfl ?_
          refine St.p rfl rfl ?_
          refine St.done ?_
          refine St.thenN ?_
          refine St.prune (Γ' := [(0, _), (3, _), (4, _), (6, _), (22, _), (42, _)]) ⟨rfl, rfl, rfl, rfl, rfl, rfl, trivial⟩ (.k (.k (.k (.k (.k (.k (.k (.k .z)))))))) ?_
          refine St.cond _ rfl (fun hb3 => ?_) (fun hb3 => ?_)
          · replace hj1 := bif_t hb3 hj1
            refine St.skip ?_
            injection hj1 with hj1
            subst hj1
            refine St.thenN ?_
            exact St.hereE () ⟨rfl, rfl, rfl, rfl, rfl, rfl, trivial⟩ (fun _ w => ((.k (.k (.k (.k (.k (.k (.k (.k .z)))))))) : Keep _ _).sat w)
          · replace hj1 := bif_f hb3 hj1
            refine St.region ?_
            refine St.p rfl rfl ?_
            refine St.p rfl rfl ?_
            refine St.done ?_
            injection hj1 with hj1
            subst hj1
            refine St.thenN ?_
            exact St.hereE () ⟨rfl, rfl, rfl, rfl, rfl, rfl, trivial⟩ (fun _ w => ((.k (.k (.k (.k (.k (.k (.k (.k .z)))))))) : Keep _ _).sat w)
        · rintro e1
          refine St.cond _ rfl (fun hb4 => ?_) (fun hb4 => ?_)
          · replace h := bif_t hb4 h
            refine St.seq ?_
            refine St.region ?_
            refine St.loadB 0 rfl rfl (.tail _ (.tail _ (.tail _ (.tail _ (.tail _ (.head _)))))) rfl rfl ?_
            refine St.loadB 0 rfl rfl (.tail _ (.tail _ (.head _))) rfl rfl ?_
            refine St.p rfl rfl ?_
            refine St.loadB 4 rfl rfl (.tail _ (.tail _ (.head _))) rfl rfl ?_
            refine St.p rfl rfl ?_
            refine St.asrt (fun _ w => (w.front (.s (.s (.s .z)))).meltL) ?_
            obtain ⟨r8, hr8, h⟩ := bnd_e h
            refine St.call (c_ref29_Write hr8) ent35 rfl rfl rfl (fun _ w => Sat.dup (G := [.ro (SlL eu8 A2 c2 d_p1.Slots.e0.Image.Data), .ro (SlL eu8 A3 c3 d_p1.Slots.e1.Image.Data), .ro (SlL eu8 A8 c8 l1)]) rfl ⟨(.tail _ (.tail _ (.tail _ (.tail _ (.tail _ (.tail _ (.head _))))))), (.tail _ (.tail _ (.tail _ (.tail _ (.tail _ (.tail _ (.tail _ (.head _)))))))), (.head _), trivial⟩ w) ?_
            rintro _ _ ⟨A15, c15, A16, c16, rfl, rfl⟩
            refine St.asrt (F' := .ro (SlL eu8 A15 c15 r8.1.Slots.e0.Image.Data) :: .ro (SlL eu8 A16 c16 r8.1.Slots.e1.Image.Data) :: .ro (SlL eu8 A8 c8 l1) :: .ro (SlL eu8 A9 c9 r4.1.L) :: .res (Box gb1 63 [.slice A9 r4.1.L.length c9, .int .i64 r4.1.At]) :: .res (Box g4 30 [.string d_p1.Name, .int .i64 r1.2.Major, .int .i64 r1.2.Minor, .int .i64 r1.2.Patch, .slice A8 l1.length c8]) :: .res (Box g2 35 [.string (⟨#[]⟩), .string (⟨#[]⟩), .int .i64 0, .int .i64 0, .int .i64 0, .slice none 0 0, .int .u32 0, .string (⟨#[]⟩), .int .i64 0, .int .i64 0, .int .i64 0, .slice none 0 0, .int .u32 0, .int .i64 0, .int .i64 0, .bool false]) :: .res (Box g1 35 (bx_T_Device d_p1 A2 c2 A3 c3)) :: .ro (SlL eu8 A2 c2 d_p1.Slots.e0.Image.Data) :: .ro (SlL eu8 A3 c3 d_p1.Slots.e1.Image.Data) :: R) (fun _ w => w) ?_
            iterate 3 refine St.p rfl rfl ?_
            refine St.alloc rfl rfl fun g5 => ?_
            refine St.store 0 rfl rfl rfl rfl rfl rfl .z rfl ?_
            refine St.p rfl rfl ?_
            refine St.done ?_
            refine St.thenN ?_
            refine St.prune (Γ' := [(4, _), (6, _), (7, _), (8, _)]) ⟨rfl, rfl, rfl, rfl, trivial⟩ (.k (.k (.k (.k (.k (.k (.k (.k (.d (.d (.d .z))))))))))) ?_
            refine St.seq ?_
            refine St.seq ?_
            refine St.region ?_
            refine St.p rfl rfl ?_
            refine St.p rfl rfl ?_
            refine St.done ?_
            refine St.thenN ?_
            refine St.prune (Γ' := [(4, _), (6, _), (7, _), (8, _), (55, _)]) ⟨rfl, rfl, rfl, rfl, rfl, trivial⟩ (.k (.k (.k (.k (.k (.k (.k (.k .z)))))))) ?_
            refine St.cond _ rfl (fun hb5 => ?_) (fun hb5 => ?_)
            · replace h := bif_t hb5 h
              refine St.seq ?_
              refine St.region ?_
              refine St.loadB 0 rfl rfl (.head _) rfl rfl ?_
              refine St.p rfl rfl ?_
              refine St.store 0 rfl rfl rfl rfl rfl rfl (.s (.s (.s (.s (.s (.s (.s .z))))))) rfl ?_
              refine St.p rfl rfl ?_
              refine St.done ?_
              refine St.thenN ?_
              refine St.prune (Γ' := [(4, _), (5, _)]) ⟨rfl, rfl, trivial⟩ (.k (.d (.k (.k (.d (.k (.k (.d .z)))))))) ?_
              refine St.ret ?_
              repeat (first | refine St.thenR ?_ | refine St.blkR ?_)
              injection h with h
              subst h
              exact St.finR Try.results50 (.cell rfl (.head _) rfl (.tmp rfl .nil)) rfl [.ro (SlL eu8 A9 c9 r4.1.L), .ro (SlL eu8 A15 c15 r8.1.Slots.e0.Image.Data), .ro (SlL eu8 A16 c16 r8.1.Slots.e1.Image.Data), .res (Box gb1 63 [.slice A9 r4.1.L.length c9, .int .i64 r4.1.At])] ⟨A9, c9, A15, c15, A16, c16, rfl, rfl⟩ (fun _ w => ((.k (.k (.k (.k (.d (.d (.d (.d .z)))))))) : Keep _ _).sat (Sat.dup (G := [.ro (SlL eu8 A9 c9 r4.1.L), .ro (SlL eu8 A15 c15 r8.1.Slots.e0.Image.Data), .ro (SlL eu8 A16 c16 r8.1.Slots.e1.Image.Data)]) rfl ⟨(.tail _ (.tail _ (.tail _ (.tail _ (.head _))))), (.tail _ (.tail _ (.head _))), (.tail _ (.tail _ (.tail _ (.head _)))), trivial⟩ (w.front (.s (.s (.s (.s .z)))))))
            · replace h := bif_f hb5 h
              refine St.skip ?_
              refine St.thenN ?_
              refine St.prune (Γ' := [(4, _), (6, _), (7, _)]) ⟨rfl, rfl, rfl, trivial⟩ (.k (.k (.k (.k (.k (.k (.k (.k .z)))))))) ?_
              refine St.seq ?_
              refine St.regionX (iL [(.fx, 0), (.fx, 1), (.qc, 2), (.ef, 3), (.fl, 4), (.fl, 5), (.ef, 6), (.fl, 7)] .nil) (.res (Box g5 35 (bx_T_Device r8.1 A15 c15 A16 c16)) :: .ro (SlL eu8 A15 c15 r8.1.Slots.e0.Image.Data) :: .ro (SlL eu8 A16 c16 r8.1.Slots.e1.Image.Data) :: .ro (SlL eu8 A8 c8 l1) :: .ro (SlL eu8 A9 c9 r4.1.L) :: .res (Box gb1 63 [.slice A9 r4.1.L.length c9, .int .i64 r4.1.At]) :: .res (Box g4 30 [.string d_p1.Name, .int .i64 r1.2.Major, .int .i64 r1.2.Minor, .int .i64 r1.2.Patch, .slice A8 l1.length c8]) :: R) mixed (by kernel_rfl) (fun _ w => ((.k (.k (.k (.k (.k (.k (.k (.d .z)))))))) : Keep _ _).sat w) ?_
              refine St.xfx (Rd.loadB 0 rfl (.head _) rfl rfl) rfl ?_
              refine St.xfx (Rd.loadB 0 rfl (.tail _ (.tail _ (.tail _ (.tail _ (.tail _ (.tail _ (.head _))))))) rfl rfl) rfl ?_
              obtain ⟨r9, hr9, h⟩ := bnd_e h
              refine St.xqc (fun _ h => h) (c_field_sum hr9) ent71 rfl rfl rfl rfl ⟨(.tail _ (.tail _ (.tail _ (.head _)))), trivial⟩ ?_
              refine St.xef ?_
              obtain ⟨r10, hr10, h⟩ := bnd_e h
              refine St.call (c_ref29_Finish hr10) ent36 rfl rfl rfl (fun _ w => Sat.dup (G := [.ro (SlL eu8 A15 c15 r8.1.Slots.e0.Image.Data), .ro (SlL eu8 A16 c16 r8.1.Slots.e1.Image.Data)]) rfl ⟨(.tail _ (.head _)), (.tail _ (.tail _ (.head _))), trivial⟩ w) ?_
              rintro _ _ ⟨A17, c17, A18, c18, rfl, rfl⟩
              refine St.asrt (F' := .ro (SlL eu8 A17 c17 r10.1.Slots.e0.Image.Data) :: .ro (SlL eu8 A18 c18 r10.1.Slots.e1.Image.Data) :: .res (Box g5 35 (bx_T_Device r8.1 A15 c15 A16 c16)) :: .ro (SlL eu8 A15 c15 r8.1.Slots.e0.Image.Data) :: .ro (SlL eu8 A16 c16 r8.1.Slots.e1.Image.Data) :: .ro (SlL eu8 A8 c8 l1) :: .ro (SlL eu8 A9 c9 r4.1.L) :: .res (Box gb1 63 [.slice A9 r4.1.L.length c9, .int .i64 r4.1.At]) :: .res (Box g4 30 [.string d_p1.Name, .int .i64 r1.2.Major, .int .i64 r1.2.Minor, .int .i64 r1.2.Patch, .slice A8 l1.length c8]) :: .res (Box g2 35 [.string (⟨#[]⟩), .string (⟨#[]⟩), .int .i64 0, .int .i64 0, .int .i64 0, .slice none 0 0, .int .u32 0, .string (⟨#[]⟩), .int .i64 0, .int .i64 0, .int .i64 0, .slice none 0 0, .int .u32 0, .int .i64 0, .int .i64 0, .bool false]) :: R) (fun _ w => w) ?_
              refine St.xk (fun _ w => ((.d (.d (.k (.k (.k (.k (.k (.k (.k (.d .z)))))))))) : Keep _ _).sat w) ?_
              refine St.xfl (fun _ h => h) (Rd.p rfl) rfl ?_
              refine St.xfl (fun _ h => h) (Rd.p rfl) rfl ?_
              refine St.xef ?_
              refine St.store 0 rfl rfl rfl rfl rfl rfl (.s (.s (.s (.s (.s (.s (.s (.s (.s .z))))))))) rfl ?_
              refine St.xk (fun _ w => ((.d (.d (.d (.k (.k (.k (.k (.k (.k (.k .z)))))))))) : Keep _ _).sat w) ?_
              refine St.xfl (fun _ h => h) (Rd.p rfl) rfl ?_
              refine St.xdone ?_
              refine St.thenN ?_
              refine St.prune (Γ' := [(4, _), (5, _)]) ⟨rfl, rfl, trivial⟩ (.k (.k (.k (.d (.d (.d (.d (.k (.k (.d .z)))))))))) ?_
              refine St.ret ?_
              repeat (first | refine St.thenR ?_ | refine St.blkR ?_)
              injection h with h
              subst h
              exact St.finR Try.results50 (.cell rfl (.head _) rfl (.tmp rfl .nil)) rfl [.ro (SlL eu8 A9 c9 r4.1.L), .ro (SlL eu8 A17 c17 r10.1.Slots.e0.Image.Data), .ro (SlL eu8 A18 c18 r10.1.Slots.e1.Image.Data), .res (Box gb1 63 [.slice A9 r4.1.L.length c9, .int .i64 r4.1.At])] ⟨A9, c9, A17, c17, A18, c18, rfl, rfl⟩ (fun _ w => ((.k (.k (.k (.k (.d (.d (.d (.d .z)))))))) : Keep _ _).sat (Sat.dup (G := [.ro (SlL eu8 A9 c9 r4.1.L), .ro (SlL eu8 A17 c17 r10.1.Slots.e0.Image.Data), .ro (SlL eu8 A18 c18 r10.1.Slots.e1.Image.Data)]) rfl ⟨(.tail _ (.tail _ (.tail _ (.tail _ (.head _))))), (.tail _ (.tail _ (.head _))), (.tail _ (.tail _ (.tail _ (.head _)))), trivial⟩ (w.front (.s (.s (.s (.s .z)))))))
          · replace h := bif_f hb4 h
            refine St.seq ?_
            refine St.region ?_
            refine St.p rfl rfl ?_
            refine St.p rfl rfl ?_
            refine St.done ?_
            refine St.thenN ?_
            refine St.prune (Γ' := [(0, _), (3, _), (4, _), (22, _), (64, _)]) ⟨rfl, rfl, rfl, rfl, rfl, trivial⟩ (.k (.k (.d (.d (.k (.k (.k (.k .z)))))))) ?_
            refine St.cond _ rfl (fun hb6 => ?_) (fun hb6 => ?_)
            · replace h := bif_t hb6 h
              refine St.seq ?_
              refine St.region ?_
              refine St.loadB 0 rfl rfl (.tail _ (.tail _ (.tail _ (.head _)))) rfl rfl ?_
              obtain ⟨r11, hr11, h⟩ := bnd_e h
              refine St.call (c_ref29_Switch hr11) ent63 rfl rfl rfl (fun _ w => Sat.dup (G := [.ro (SlL eu8 A2 c2 d_p1.Slots.e0.Image.Data), .ro (SlL eu8 A3 c3 d_p1.Slots.e1.Image.Data)]) rfl ⟨(.tail _ (.tail _ (.tail _ (.tail _ (.head _))))), (.tail _ (.tail _ (.tail _ (.tail _ (.tail _ (.head _)))))), trivial⟩ w) ?_
              rintro _ _ ⟨A19, c19, A20, c20, rfl, rfl⟩
              refine St.asrt (F' := .ro (SlL eu8 A19 c19 r11.1.Slots.e0.Image.Data) :: .ro (SlL eu8 A20 c20 r11.1.Slots.e1.Image.Data) :: .ro (SlL eu8 A9 c9 r4.1.L) :: .res (Box gb1 63 [.slice A9 r4.1.L.length c9, .int .i64 r4.1.At]) :: .res (Box g2 35 [.string (⟨#[]⟩), .string (⟨#[]⟩), .int .i64 0, .int .i64 0, .int .i64 0, .slice none 0 0, .int .u32 0, .string (⟨#[]⟩), .int .i64 0, .int .i64 0, .int .i64 0, .slice none 0 0, .int .u32 0, .int .i64 0, .int .i64 0, .bool false]) :: .res (Box g1 35 (bx_T_Device d_p1 A2 c2 A3 c3)) :: .ro (SlL eu8 A2 c2 d_p1.Slots.e0.Image.Data) :: .ro (SlL eu8 A3 c3 d_p1.Slots.e1.Image.Data) :: R) (fun _ w => w) ?_
              refine St.p rfl rfl ?_
              refine St.p rfl rfl ?_
              refine St.store 0 rfl rfl rfl rfl rfl rfl (.s (.s (.s (.s .z)))) rfl ?_
              refine St.p rfl rfl ?_
              refine St.done ?_
              refine St.thenN ?_
              refine St.prune (Γ' := [(4, _), (5, _)]) ⟨rfl, rfl, trivial⟩ (.k (.k (.k (.k (.k (.d (.d (.d .z)))))))) ?_
              refine St.ret ?_
              repeat (first | refine St.thenR ?_ | refine St.blkR ?_)
              injection h with h
              subst h
              exact St.finR Try.results50 (.cell rfl (.head _) rfl (.tmp rfl .nil)) rfl [.ro (SlL eu8 A9 c9 r4.1.L), .ro (SlL eu8 A19 c19 r11.1.Slots.e0.Image.Data), .ro (SlL eu8 A20 c20 r11.1.Slots.e1.Image.Data), .res (Box gb1 63 [.slice A9 r4.1.L.length c9, .int .i64 r4.1.At])] ⟨A9, c9, A19, c19, A20, c20, rfl, rfl⟩ (fun _ w => ((.k (.k (.k (.k (.d (.d (.d (.d .z)))))))) : Keep _ _).sat (Sat.dup (G := [.ro (SlL eu8 A9 c9 r4.1.L), .ro (SlL eu8 A19 c19 r11.1.Slots.e0.Image.Data), .ro (SlL eu8 A20 c20 r11.1.Slots.e1.Image.Data)]) rfl ⟨(.tail _ (.tail _ (.tail _ (.tail _ (.head _))))), (.tail _ (.tail _ (.head _))), (.tail _ (.tail _ (.tail _ (.head _)))), trivial⟩ (w.front (.s (.s (.s (.s .z)))))))
            · replace h := bif_f hb6 h
              refine St.seq ?_
              refine St.region ?_
              refine St.p rfl rfl ?_
              refine St.p rfl rfl ?_
              refine St.done ?_
              refine St.thenN ?_
              refine St.prune (Γ' := [(0, _), (3, _), (4, _), (22, _), (70, _)]) ⟨rfl, rfl, rfl, rfl, rfl, trivial⟩ (.k (.k (.k (.k (.k (.k .z)))))) ?_
              refine St.cond _ rfl (fun hb7 => ?_) (fun hb7 => ?_)
              · replace h := bif_t hb7 h
                refine St.seq ?_
                refine St.region ?_
                refine St.loadB 0 rfl rfl (.tail _ (.tail _ (.tail _ (.head _)))) rfl rfl ?_
                obtain ⟨r12, hr12, h⟩ := bnd_e h
                refine St.call (c_ref29_Confirm hr12) ent64 rfl rfl rfl (fun _ w => Sat.dup (G := [.ro (SlL eu8 A2 c2 d_p1.Slots.e0.Image.Data), .ro (SlL eu8 A3 c3 d_p1.Slots.e1.Image.Data)]) rfl ⟨(.tail _ (.tail _ (.tail _ (.tail _ (.head _))))), (.tail _ (.tail _ (.tail _ (.tail _ (.tail _ (.head _)))))), trivial⟩ w) ?_
                rintro _ _ ⟨A21, c21, A22, c22, rfl, rfl⟩
                refine St.asrt (F' := .ro (SlL eu8 A21 c21 r12.1.Slots.e0.Image.Data) :: .ro (SlL eu8 A22 c22 r12.1.Slots.e1.Image.Data) :: .ro (SlL eu8 A9 c9 r4.1.L) :: .res (Box gb1 63 [.slice A9 r4.1.L.length c9, .int .i64 r4.1.At]) :: .res (Box g2 35 [.string (⟨#[]⟩), .string (⟨#[]⟩), .int .i64 0, .int .i64 0, .int .i64 0, .slice none 0 0, .int .u32 0, .string (⟨#[]⟩), .int .i64 0, .int .i64 0, .int .i64 0, .slice none 0 0, .int .u32 0, .int .i64 0, .int .i64 0, .bool false]) :: .res (Box g1 35 (bx_T_Device d_p1 A2 c2 A3 c3)) :: .ro (SlL eu8 A2 c2 d_p1.Slots.e0.Image.Data) :: .ro (SlL eu8 A3 c3 d_p1.Slots.e1.Image.Data) :: R) (fun _ w => w) ?_
                refine St.p rfl rfl ?_
                refine St.p rfl rfl ?_
                refine St.store 0 rfl rfl rfl rfl rfl rfl (.s (.s (.s (.s .z)))) rfl ?_
                refine St.p rfl rfl ?_
                refine St.done ?_
                refine St.thenN ?_
                refine St.prune (Γ' := [(4, _), (5, _)]) ⟨rfl, rfl, trivial⟩ (.k (.k (.k (.k (.k (.d (.d (.d .z)))))))) ?_
                refine St.ret ?_
                repeat (first | refine St.thenR ?_ | refine St.blkR ?_)
                injection h with h
                subst h
                exact St.finR Try.results50 (.cell rfl (.head _) rfl (.tmp rfl .nil)) rfl [.ro (SlL eu8 A9 c9 r4.1.L), .ro (SlL eu8 A21 c21 r12.1.Slots.e0.Image.Data), .ro (SlL eu8 A22 c22 r12.1.Slots.e1.Image.Data), .res (Box gb1 63 [.slice A9 r4.1.L.length c9, .int .i64 r4.1.At])] ⟨A9, c9, A21, c21, A22, c22, rfl, rfl⟩ (fun _ w => ((.k (.k (.k (.k (.d (.d (.d (.d .z)))))))) : Keep _ _).sat (Sat.dup (G := [.ro (SlL eu8 A9 c9 r4.1.L), .ro (SlL eu8 A21 c21 r12.1.Slots.e0.Image.Data), .ro (SlL eu8 A22 c22 r12.1.Slots.e1.Image.Data)]) rfl ⟨(.tail _ (.tail _ (.tail _ (.tail _ (.head _))))), (.tail _ (.tail _ (.head _))), (.tail _ (.tail _ (.tail _ (.head _)))), trivial⟩ (w.front (.s (.s (.s (.s .z)))))))
              · replace h := bif_f hb7 h
                refine St.seq ?_
                refine St.region ?_
                refine St.p rfl rfl ?_
                refine St.p rfl rfl ?_
                refine St.done ?_
                refine St.thenN ?_
                refine St.prune (Γ' := [(0, _), (3, _), (4, _), (76, _)]) ⟨rfl, rfl, rfl, rfl, trivial⟩ (.k (.k (.k (.k (.k (.k .z)))))) ?_
                refine St.cond _ rfl (fun hb8 => ?_) (fun hb8 => ?_)
                · replace h := bif_t hb8 h
                  refine St.seq ?_
                  refine St.regionX (iL [(.fl, 0), (.fl, 1), (.fl, 2), (.fx, 3), (.fl, 5), (.ef, 4), (.ef, 6), (.fl, 7), (.ef, 8), (.ef, 9), (.fl, 10)] .nil) (.ro (SlL eu8 A9 c9 r4.1.L) :: .res (Box g1 35 (bx_T_Device d_p1 A2 c2 A3 c3)) :: .ro (SlL eu8 A2 c2 d_p1.Slots.e0.Image.Data) :: .ro (SlL eu8 A3 c3 d_p1.Slots.e1.Image.Data) :: R) mixed (by kernel_rfl) (fun _ w => ((.k (.d (.d (.k (.k (.k .z)))))) : Keep _ _).sat w) ?_
                  refine St.xfl (fun _ h => h) (Rd.loadB 0 rfl (.tail _ (.head _)) rfl rfl) rfl ?_
                  refine St.xfl (fun _ h => h) (Rd.p rfl) rfl ?_
                  refine St.xfl (fun _ h => h) (Rd.p rfl) rfl ?_
                  refine St.xfx (Rd.loadB 0 rfl (.tail _ (.tail _ (.tail _ (.head _)))) rfl rfl) rfl ?_
                  refine St.xfl (fun _ h => h) (Rd.p rfl) rfl ?_
                  refine St.xef ?_
                  obtain ⟨r13, hr13, h⟩ := bnd_e h
                  refine St.call (c_field_Codes_Image hr13) ent22 rfl rfl rfl (fun _ w => Sat.dup (G := [.ro (SlL eu8 A9 c9 r4.1.L)]) rfl ⟨(.tail _ (.head _)), trivial⟩ (w.front (.s .z))) ?_
                  rintro _ _ ⟨A23, c23, A24, c24, rfl, rfl⟩
                  refine St.asrt (F' := .ro (SlL eu8 A23 c23 r13.1.L) :: .ro (SlL eu8 A24 c24 r13.2.Data) :: .res (Box gb1 63 [.slice A23 r13.1.L.length c23, .int .i64 r13.1.At]) :: .ro (SlL eu8 A9 c9 r4.1.L) :: .res (Box g2 35 [.string (⟨#[]⟩), .string (⟨#[]⟩), .int .i64 0, .int .i64 0, .int .i64 0, .slice none 0 0, .int .u32 0, .string (⟨#[]⟩), .int .i64 0, .int .i64 0, .int .i64 0, .slice none 0 0, .int .u32 0, .int .i64 0, .int .i64 0, .bool false]) :: .res (Box g1 35 (bx_T_Device d_p1 A2 c2 A3 c3)) :: .ro (SlL eu8 A2 c2 d_p1.Slots.e0.Image.Data) :: .ro (SlL eu8 A3 c3 d_p1.Slots.e1.Image.Data) :: R) (fun _ w => w) ?_
                  refine St.xk (fun _ w => ((.d (.d (.d (.k (.d (.k (.k (.k .z)))))))) : Keep _ _).sat w) ?_
                  refine St.xef ?_
                  obtain ⟨r14, hr14, h⟩ := bnd_e h
                  refine St.call (c_field_Codes_Next hr14) ent23 rfl rfl rfl (fun _ w => Sat.dup (G := [.ro (SlL eu8 A23 c23 r13.1.L)]) rfl ⟨(.tail _ (.head _)), trivial⟩ (w.front (.s (.s .z)))) ?_
                  rintro _ _ ⟨A25, c25, rfl, rfl⟩
                  refine St.asrt (F' := .ro (SlL eu8 A25 c25 r14.1.L) :: .res (Box gb1 63 [.slice A25 r14.1.L.length c25, .int .i64 r14.1.At]) :: .ro (SlL eu8 A23 c23 r13.1.L) :: .ro (SlL eu8 A24 c24 r13.2.Data) :: .ro (SlL eu8 A9 c9 r4.1.L) :: .res (Box g2 35 [.string (⟨#[]⟩), .string (⟨#[]⟩), .int .i64 0, .int .i64 0, .int .i64 0, .slice none 0 0, .int .u32 0, .string (⟨#[]⟩), .int .i64 0, .int .i64 0, .int .i64 0, .slice none 0 0, .int .u32 0, .int .i64 0, .int .i64 0, .bool false]) :: .res (Box g1 35 (bx_T_Device d_p1 A2 c2 A3 c3)) :: .ro (SlL eu8 A2 c2 d_p1.Slots.e0.Image.Data) :: .ro (SlL eu8 A3 c3 d_p1.Slots.e1.Image.Data) :: R) (fun _ w => w) ?_
                  refine St.xk (fun _ w => ((.d (.d (.d (.d (.k (.d (.k (.k (.k .z))))))))) : Keep _ _).sat w) ?_
                  refine St.xfl (fun _ h => h) (Rd.p rfl) rfl ?_
                  refine St.xef ?_
                  obtain ⟨r15, hr15, h⟩ := bnd_e h
                  refine St.call (c_ref29_Spoil hr15) ent37 rfl rfl rfl (fun _ w => Sat.dup (G := [.ro (SlL eu8 A2 c2 d_p1.Slots.e0.Image.Data), .ro (SlL eu8 A3 c3 d_p1.Slots.e1.Image.Data), .ro (SlL eu8 A24 c24 r13.2.Data)]) rfl ⟨(.tail _ (.tail _ (.tail _ (.tail _ (.tail _ (.tail _ (.tail _ (.head _)))))))), (.tail _ (.tail _ (.tail _ (.tail _ (.tail _ (.tail _ (.tail _ (.tail _ (.head _))))))))), (.tail _ (.tail _ (.tail _ (.head _)))), trivial⟩ w) ?_
                  rintro _ _ ⟨A26, c26, A27, c27, rfl, rfl⟩
                  refine St.asrt (F' := .ro (SlL eu8 A26 c26 r15.Slots.e0.Image.Data) :: .ro (SlL eu8 A27 c27 r15.Slots.e1.Image.Data) :: .ro (SlL eu8 A25 c25 r14.1.L) :: .res (Box gb1 63 [.slice A25 r14.1.L.length c25, .int .i64 r14.1.At]) :: .ro (SlL eu8 A23 c23 r13.1.L) :: .ro (SlL eu8 A24 c24 r13.2.Data) :: .ro (SlL eu8 A9 c9 r4.1.L) :: .res (Box g2 35 [.string (⟨#[]⟩), .string (⟨#[]⟩), .int .i64 0, .int .i64 0, .int .i64 0, .slice none 0 0, .int .u32 0, .string (⟨#[]⟩), .int .i64 0, .int .i64 0, .int .i64 0, .slice none 0 0, .int .u32 0, .int .i64 0, .int .i64 0, .bool false]) :: .res (Box g1 35 (bx_T_Device d_p1 A2 c2 A3 c3)) :: .ro (SlL eu8 A2 c2 d_p1.Slots.e0.Image.Data) :: .ro (SlL eu8 A3 c3 d_p1.Slots.e1.Image.Data) :: R) (fun _ w => w) ?_
                  refine St.xk (fun _ w => ((.d (.d (.d (.d (.d (.d (.k (.d (.k (.k (.k .z))))))))))) : Keep _ _).sat w) ?_
                  refine St.xef ?_
                  refine St.store 0 rfl rfl rfl rfl rfl rfl (.s (.s (.s (.s (.s (.s (.s .z))))))) rfl ?_
                  refine St.xk (fun _ w => ((.d (.d (.d (.d (.d (.d (.d (.k (.k (.k (.k .z))))))))))) : Keep _ _).sat w) ?_
                  refine St.xfl (fun _ h => h) (Rd.p rfl) rfl ?_
                  refine St.xdone ?_
                  refine St.thenN ?_
                  refine St.prune (Γ' := [(4, _), (5, _)]) ⟨rfl, rfl, trivial⟩ (.k (.k (.k (.k (.k (.d (.d (.d (.d (.d (.d .z))))))))))) ?_
                  refine St.ret ?_
                  repeat (first | refine St.thenR ?_ | refine St.blkR ?_)
                  injection h with h
                  subst h
                  exact St.finR Try.results50 (.cell rfl (.head _) rfl (.tmp rfl .nil)) rfl [.ro (SlL eu8 A25 c25 r14.1.L), .ro (SlL eu8 A26 c26 r15.Slots.e0.Image.Data), .ro (SlL eu8 A27 c27 r15.Slots.e1.Image.Data), .res (Box gb1 63 [.slice A25 r14.1.L.length c25, .int .i64 r14.1.At])] ⟨A25, c25, A26, c26, A27, c27, rfl, rfl⟩ (fun _ w => ((.k (.k (.k (.k (.d (.d (.d (.d .z)))))))) : Keep _ _).sat (Sat.dup (G := [.ro (SlL eu8 A25 c25 r14.1.L), .ro (SlL eu8 A26 c26 r15.Slots.e0.Image.Data), .ro (SlL eu8 A27 c27 r15.Slots.e1.Image.Data)]) rfl ⟨(.tail _ (.tail _ (.tail _ (.tail _ (.head _))))), (.tail _ (.tail _ (.head _))), (.tail _ (.tail _ (.tail _ (.head _)))), trivial⟩ (w.front (.s (.s (.s (.s .z)))))))
                · replace h := bif_f hb8 h
                  refine St.skip ?_
                  refine St.blkN ?_
                  refine St.thenN ?_
                  refine St.prune (Γ' := [(3, _), (4, _)]) ⟨rfl, rfl, trivial⟩ (.k (.k (.k (.k (.k (.k .z)))))) ?_
                  refine St.seq ?_
                  refine St.region ?_
                  refine St.loadB 0 rfl rfl (.tail _ (.tail _ (.tail _ (.head _)))) rfl rfl ?_
                  obtain ⟨r16, hr16, h⟩ := bnd_e h
                  refine St.call (c_ref29_Boot hr16) ent38 rfl rfl rfl (fun _ w => Sat.dup (G := [.ro (SlL eu8 A2 c2 d_p1.Slots.e0.Image.Data), .ro (SlL eu8 A3 c3 d_p1.Slots.e1.Image.Data)]) rfl ⟨(.tail _ (.tail _ (.tail _ (.tail _ (.head _))))), (.tail _ (.tail _ (.tail _ (.tail _ (.tail _ (.head _)))))), trivial⟩ w) ?_
                  rintro _ _ ⟨A28, c28, A29, c29, rfl, rfl⟩
                  refine St.asrt (F' := .ro (SlL eu8 A28 c28 r16.Slots.e0.Image.Data) :: .ro (SlL eu8 A29 c29 r16.Slots.e1.Image.Data) :: .ro (SlL eu8 A9 c9 r4.1.L) :: .res (Box gb1 63 [.slice A9 r4.1.L.length c9, .int .i64 r4.1.At]) :: .res (Box g2 35 [.string (⟨#[]⟩), .string (⟨#[]⟩), .int .i64 0, .int .i64 0, .int .i64 0, .slice none 0 0, .int .u32 0, .string (⟨#[]⟩), .int .i64 0, .int .i64 0, .int .i64 0, .slice none 0 0, .int .u32 0, .int .i64 0, .int .i64 0, .bool false]) :: .res (Box g1 35 (bx_T_Device d_p1 A2 c2 A3 c3)) :: .ro (SlL eu8 A2 c2 d_p1.Slots.e0.Image.Data) :: .ro (SlL eu8 A3 c3 d_p1.Slots.e1.Image.Data) :: R) (fun _ w => w) ?_
                  refine St.store 0 rfl rfl rfl rfl rfl rfl (.s (.s (.s (.s .z)))) rfl ?_
                  refine St.p rfl rfl ?_
                  refine St.done ?_
                  refine St.thenN ?_
                  refine St.prune (Γ' := [(4, _), (5, _)]) ⟨rfl, rfl, trivial⟩ (.k (.k (.k (.k (.k (.d (.d (.d .z)))))))) ?_
                  refine St.ret ?_
                  repeat (first | refine St.thenR ?_ | refine St.blkR ?_)
                  injection h with h
                  subst h
                  exact St.finR Try.results50 (.cell rfl (.head _) rfl (.tmp rfl .nil)) rfl [.ro (SlL eu8 A9 c9 r4.1.L), .ro (SlL eu8 A28 c28 r16.Slots.e0.Image.Data), .ro (SlL eu8 A29 c29 r16.Slots.e1.Image.Data), .res (Box gb1 63 [.slice A9 r4.1.L.length c9, .int .i64 r4.1.At])] ⟨A9, c9, A28, c28, A29, c29, rfl, rfl⟩ (fun _ w => ((.k (.k (.k (.k (.d (.d (.d (.d .z)))))))) : Keep _ _).sat (Sat.dup (G := [.ro (SlL eu8 A9 c9 r4.1.L), .ro (SlL eu8 A28 c28 r16.Slots.e0.Image.Data), .ro (SlL eu8 A29 c29 r16.Slots.e1.Image.Data)]) rfl ⟨(.tail _ (.tail _ (.tail _ (.tail _ (.head _))))), (.tail _ (.tail _ (.head _))), (.tail _ (.tail _ (.tail _ (.head _)))), trivial⟩ (w.front (.s (.s (.s (.s .z)))))))

theorem ent18 : Ent Try.prog 18 := ⟨_, Try.func18, by kernel_rfl, by kernel_rfl⟩

noncomputable def m_field_Codes_Device (c_p0 : T_Codes) (name : ByteArray) : Option (T_Codes × T_Device) :=
  bnd (m_field_Codes_plain c_p0) fun r1 => bnd (m_field_Codes_Next r1.1 4) fun r2 => bnd (m_ref29_New (⟨name, r1.2, [IntKind.wrap .u8 r2.2]⟩ : T_Image)) fun r3 => bnd (m_field_Codes_Next r2.1 7) fun r4 => bnd (loopM (τ := T_Device × List Int × Int) (fun (s1 : T_Device × Int × List Int × Int) => bif decide (s1.2.1 > 0) then (bnd (m_field_Codes_Change (⟨s1.2.2.1, s1.2.2.2⟩ : T_Codes) s1.1) fun r5 => bif (r5.2.2 == 0) then (some (.next (r5.2.1, IntKind.wrap .i64 (s1.2.1 - 1), r5.1.L, r5.1.At))) else (some (.next (s1.1, IntKind.wrap .i64 (s1.2.1 - 1), r5.1.L, r5.1.At)))) else (some (.done (s1.1, s1.2.2.1, s1.2.2.2)))) (r3.1, r4.2, r4.1.L, r4.1.At)) fun o1 => some ((⟨o1.2.1, o1.2.2⟩ : T_Codes), o1.1)

theorem c_field_Codes_Device {c_p0 : T_Codes} {name : ByteArray} {A1 : Option Addr} {c1 : Nat} {gb1 : Nat} {r : (T_Codes × T_Device)} (h : m_field_Codes_Device c_p0 name = some r) :
    Fun Try.prog 18 [.pointer (some ⟨gb1, 0, none⟩), .string name] [.ro (SlL eu8 A1 c1 c_p0.L), .res (Box gb1 63 [.slice A1 c_p0.L.length c1, .int .i64 c_p0.At])] (fun v_ F_ => ∃ (A1 : Option Addr) (c1 : Nat) (A2 : Option Addr) (c2 : Nat) (A3 : Option Addr) (c3 : Nat), v_ = .agg (bx_T_Device r.2 A2 c2 A3 c3).toArray ∧ F_ = [.ro (SlL eu8 A1 c1 r.1.L), .ro (SlL eu8 A2 c2 r.2.Slots.e0.Image.Data), .ro (SlL eu8 A3 c3 r.2.Slots.e1.Image.Data), .res (Box gb1 63 [.slice A1 r.1.L.length c1, .int .i64 r.1.At])]) := by
  unfold m_field_Codes_Device at h
  refine Fun.intro Try.func18 rfl rfl rfl fun w R => ?_
  refine St.seq ?_
  refine St.region ?_
  refine St.alloc rfl rfl fun g1 => ?_
  refine St.done ?_
  refine St.thenN ?_
  refine St.seq ?_
  refine St.region ?_
  refine St.p rfl rfl ?_
  refine St.p rfl rfl ?_
  obtain ⟨r1, hr1, h⟩ := bnd_e h
  refine St.call (c_field_Codes_plain hr1) ent49 rfl rfl rfl (fun _ w => Sat.dup (G := [.ro (SlL eu8 A1 c1 c_p0.L)]) rfl ⟨(.tail _ (.tail _ (.head _))), trivial⟩ (w.front (.s (.s .z)))) ?_
  rintro _ _ ⟨A2, c2, rfl, rfl⟩
  refine St.asrt (F' := .ro (SlL eu8 A2 c2 r1.1.L) :: .res (Box gb1 63 [.slice A2 r1.1.L.length c2, .int .i64 r1.1.At]) :: .res (Box g1 35 [.string (⟨#[]⟩), .string (⟨#[]⟩), .int .i64 0, .int .i64 0, .int .i64 0, .slice none 0 0, .int .u32 0, .string (⟨#[]⟩), .int .i64 0, .int .i64 0, .int .i64 0, .slice none 0 0, .int .u32 0, .int .i64 0, .int .i64 0, .bool false]) :: .ro (SlL eu8 A1 c1 c_p0.L) :: R) (fun _ w => w) ?_
  refine St.p rfl rfl ?_
  obtain ⟨r2, hr2, h⟩ := bnd_e h
  refine St.call (c_field_Codes_Next hr2) ent23 rfl rfl rfl (fun _ w => Sat.dup (G := [.ro (SlL eu8 A2 c2 r1.1.L)]) rfl ⟨(.tail _ (.head _)), trivial⟩ (w.front (.s .z))) ?_
  rintro _ _ ⟨A3, c3, rfl, rfl⟩
  refine St.asrt (F' := .ro (SlL eu8 A3 c3 r2.1.L) :: .res (Box gb1 63 [.slice A3 r2.1.L.length c3, .int .i64 r2.1.At]) :: .ro (SlL eu8 A2 c2 r1.1.L) :: .res (Box g1 35 [.string (⟨#[]⟩), .string (⟨#[]⟩), .int .i64 0, .int .i64 0, .int .i64 0, .slice none 0 0, .int .u32 0, .string (⟨#[]⟩), .int .i64 0, .int .i64 0, .int .i64 0, .slice none 0 0, .int .u32 0, .int .i64 0, .int .i64 0, .bool false]) :: .ro (SlL eu8 A1 c1 c_p0.L) :: R) (fun _ w => w) ?_
  refine St.p rfl rfl ?_
  refine St.buildSlice rfl rfl rfl rfl rfl rfl rfl rfl fun g2 => ?_
  refine St.p rfl rfl ?_
  refine St.asrt (fun _ w => (w.front .z).litL (E := eu8) (e := 5) [IntKind.wrap .u8 r2.2] rfl rfl) ?_
  refine St.asrt (fun _ w => (w.front .z).meltL) ?_
  obtain ⟨r3, hr3, h⟩ := bnd_e h
  refine St.call (c_ref29_New hr3) ent29 rfl rfl rfl (fun _ w => Sat.dup (G := [.ro (SlL eu8 (some ⟨g2, 0, none⟩) ([IntKind.wrap .u8 r2.2] : List Int).length ([IntKind.wrap .u8 r2.2]))]) rfl ⟨(.head _), trivial⟩ w) ?_
  rintro _ _ ⟨A4, c4, A5, c5, rfl, rfl⟩
  refine St.asrt (F' := .ro (SlL eu8 A4 c4 r3.1.Slots.e0.Image.Data) :: .ro (SlL eu8 A5 c5 r3.1.Slots.e1.Image.Data) :: .ro (SlL eu8 (some ⟨g2, 0, none⟩) ([IntKind.wrap .u8 r2.2] : List Int).length ([IntKind.wrap .u8 r2.2])) :: .ro (SlL eu8 A3 c3 r2.1.L) :: .res (Box gb1 63 [.slice A3 r2.1.L.length c3, .int .i64 r2.1.At]) :: .ro (SlL eu8 A2 c2 r1.1.L) :: .res (Box g1 35 [.string (⟨#[]⟩), .string (⟨#[]⟩), .int .i64 0, .int .i64 0, .int .i64 0, .slice none 0 0, .int .u32 0, .string (⟨#[]⟩), .int .i64 0, .int .i64 0, .int .i64 0, .slice none 0 0, .int .u32 0, .int .i64 0, .int .i64 0, .bool false]) :: .ro (SlL eu8 A1 c1 c_p0.L) :: R) (fun _ w => w) ?_
  iterate 3 refine St.p rfl rfl ?_
  refine St.alloc rfl rfl fun g3 => ?_
  refine St.store 0 rfl rfl rfl rfl rfl rfl .z rfl ?_
  refine St.p rfl rfl ?_
  refine St.done ?_
  refine St.thenN ?_
  refine St.prune (Γ' := [(0, _), (4, _), (5, _)]) ⟨rfl, rfl, rfl, trivial⟩ (.k (.k (.k (.d (.k (.k (.d (.k (.d .z))))))))) ?_
  refine St.seq ?_
  refine St.seq ?_
  refine St.region ?_
  refine St.p rfl rfl ?_
  obtain ⟨r4, hr4, h⟩ := bnd_e h
  refine St.call (c_field_Codes_Next hr4) ent23 rfl rfl rfl (fun _ w => Sat.dup (G := [.ro (SlL eu8 A3 c3 r2.1.L)]) rfl ⟨(.tail _ (.tail _ (.tail _ (.tail _ (.head _))))), trivial⟩ (w.front (.s (.s (.s (.s .z)))))) ?_
  rintro _ _ ⟨A6, c6, rfl, rfl⟩
  refine St.asrt (F' := .ro (SlL eu8 A6 c6 r4.1.L) :: .res (Box gb1 63 [.slice A6 r4.1.L.length c6, .int .i64 r4.1.At]) :: .res (Box g3 35 (bx_T_Device r3.1 A4 c4 A5 c5)) :: .ro (SlL eu8 A4 c4 r3.1.Slots.e0.Image.Data) :: .ro (SlL eu8 A5 c5 r3.1.Slots.e1.Image.Data) :: .ro (SlL eu8 A3 c3 r2.1.L) :: .res (Box g1 35 [.string (⟨#[]⟩), .string (⟨#[]⟩), .int .i64 0, .int .i64 0, .int .i64 0, .slice none 0 0, .int .u32 0, .string (⟨#[]⟩), .int .i64 0, .int .i64 0, .int .i64 0, .slice none 0 0, .int .u32 0, .int .i64 0, .int .i64 0, .bool false]) :: R) (fun _ w => w) ?_
  refine St.p rfl rfl ?_
  refine St.done ?_
  refine St.thenN ?_
  refine St.prune (Γ' := [(0, _), (4, _), (5, _), (7, _)]) ⟨rfl, rfl, rfl, rfl, trivial⟩ (.k (.k (.k (.k (.k (.d (.k .z))))))) ?_
  obtain ⟨o1, hl1, h⟩ := bnd_e h
  refine St.cutE (fun (e2 : Option Addr × Nat × Option Addr × Nat × Option Addr × Nat) => [(4, .pointer (some ⟨g1, 0, none⟩)), (5, .pointer (some ⟨g3, 0, none⟩))]) (fun e2 => .ro (SlL eu8 e2.2.2.2.2.1 e2.2.2.2.2.2 o1.2.1) :: .ro (SlL eu8 e2.2.2.1 e2.2.2.2.1 o1.1.Slots.e1.Image.Data) :: .ro (SlL eu8 e2.1 e2.2.1 o1.1.Slots.e0.Image.Data) :: .res (Box gb1 63 [.slice e2.2.2.2.2.1 o1.2.1.length e2.2.2.2.2.2, .int .i64 o1.2.2]) :: .res (Box g3 35 (bx_T_Device o1.1 e2.1 e2.2.1 e2.2.2.1 e2.2.2.2.1)) :: .res (Box g1 35 [.string (⟨#[]⟩), .string (⟨#[]⟩), .int .i64 0, .int .i64 0, .int .i64 0, .slice none 0 0, .int .u32 0, .string (⟨#[]⟩), .int .i64 0, .int .i64 0, .int .i64 0, .slice none 0 0, .int .u32 0, .int .i64 0, .int .i64 0, .bool false]) :: R) ?_ ?_
  · refine St.block ?_
    refine St.loop hl1 (fun (s1 : T_Device × Int × List Int × Int) (e1 : Option Addr × Nat × Option Addr × Nat × Option Addr × Nat) => [(0, .pointer (some ⟨gb1, 0, none⟩)), (4, .pointer (some ⟨g1, 0, none⟩)), (5, .pointer (some ⟨g3, 0, none⟩)), (7, .int .i64 s1.2.1)]) (fun s1 e1 => .ro (SlL eu8 e1.2.2.2.2.1 e1.2.2.2.2.2 s1.2.2.1) :: .ro (SlL eu8 e1.2.2.1 e1.2.2.2.1 s1.1.Slots.e1.Image.Data) :: .ro (SlL eu8 e1.1 e1.2.1 s1.1.Slots.e0.Image.Data) :: .res (Box gb1 63 [.slice e1.2.2.2.2.1 s1.2.2.1.length e1.2.2.2.2.2, .int .i64 s1.2.2.2]) :: .res (Box g3 35 (bx_T_Device s1.1 e1.1 e1.2.1 e1.2.2.1 e1.2.2.2.1)) :: .res (Box g1 35 [.string (⟨#[]⟩), .string (⟨#[]⟩), .int .i64 0, .int .i64 0, .int .i64 0, .slice none 0 0, .int .u32 0, .string (⟨#[]⟩), .int .i64 0, .int .i64 0, .int .i64 0, .slice none 0 0, .int .u32 0, .int .i64 0, .int .i64 0, .bool false]) :: R) (fun _ _ => True) (A4, c4, A5, c5, A6, c6) trivial ⟨rfl, rfl, rfl, rfl, trivial⟩ (fun _ w => ((.k (.k (.k (.k (.k (.k .z)))))) : Keep _ _).sat ((((((w.front (.s (.s (.s (.s (.s .z)))))).front (.s (.s (.s .z)))).front (.s (.s (.s .z)))).front (.s (.s (.s (.s .z))))).front (.s (.s (.s (.s (.s .z)))))).front (.s (.s (.s (.s (.s .z))))))) ?_
    rintro s1 ⟨A7, c7, A8, c8, A9, c9⟩ - hit1
    obtain ⟨st1, hm1, hd1⟩ := iter_e hit1
    have h1 := hm1
    refine St.seq ?_
    refine St.seq ?_
    refine St.region ?_
    refine St.p rfl rfl ?_
    refine St.p rfl rfl ?_
    refine St.done ?_
    refine St.thenN ?_
    refine St.prune (Γ' := [(0, _), (4, _), (5, _), (7, _), (25, _)]) ⟨rfl, rfl, rfl, rfl, rfl, trivial⟩ (.k (.k (.k (.k (.k (.k .z)))))) ?_
    refine St.cond _ rfl (fun hb1 => ?_) (fun hb1 => ?_)
    · replace h1 := bif_t hb1 h1
      refine St.skip ?_
      refine St.thenN ?_
      refine St.prune (Γ' := [(0, _), (4, _), (5, _), (7, _)]) ⟨rfl, rfl, rfl, rfl, trivial⟩ (.k (.k (.k (.k (.k (.k .z)))))) ?_
      refine St.seq ?_
      refine St.block ?_
      refine St.seq ?_
      refine St.region ?_
      refine St.p rfl rfl ?_
      refine St.loadB 0 rfl rfl (.tail _ (.tail _ (.tail _ (.tail _ (.head _))))) rfl rfl ?_
      obtain ⟨r5, hr5, h1⟩ := bnd_e h1
      refine St.call (c_field_Codes_Change hr5) ent50 rfl rfl rfl (fun _ w => Sat.dup (G := [.ro (SlL eu8 A9 c9 s1.2.2.1), .ro (SlL eu8 A7 c7 s1.1.Slots.e0.Image.Data), .ro (SlL eu8 A8 c8 s1.1.Slots.e1.Image.Data)]) rfl ⟨(.tail _ (.head _)), (.tail _ (.tail _ (.tail _ (.head _)))), (.tail _ (.tail _ (.head _))), trivial⟩ (w.front (.s (.s (.s .z))))) ?_
      rintro _ _ ⟨A13, c13, A14, c14, A15, c15, rfl, rfl⟩
      refine St.asrt (F' := .ro (SlL eu8 A13 c13 r5.1.L) :: .ro (SlL eu8 A14 c14 r5.2.1.Slots.e0.Image.Data) :: .ro (SlL eu8 A15 c15 r5.2.1.Slots.e1.Image.Data) :: .res (Box gb1 63 [.slice A13 r5.1.L.length c13, .int .i64 r5.1.At]) :: .ro (SlL eu8 A9 c9 s1.2.2.1) :: .ro (SlL eu8 A8 c8 s1.1.Slots.e1.Image.Data) :: .ro (SlL eu8 A7 c7 s1.1.Slots.e0.Image.Data) :: .res (Box g3 35 (bx_T_Device s1.1 A7 c7 A8 c8)) :: .res (Box g1 35 [.string (⟨#[]⟩), .string (⟨#[]⟩), .int .i64 0, .int .i64 0, .int .i64 0, .slice none 0 0, .int .u32 0, .string (⟨#[]⟩), .int .i64 0, .int .i64 0, .int .i64 0, .slice none 0 0, .int .u32 0, .int .i64 0, .int .i64 0, .bool false]) :: R) (fun _ w => w) ?_
      iterate 3 refine St.p rfl rfl ?_
      refine St.alloc rfl rfl fun g4 => ?_
      refine St.store 0 rfl rfl rfl rfl rfl rfl .z rfl ?_
      refine St.p rfl rfl ?_
      refine St.done ?_
      refine St.thenN ?_
      refine St.prune (Γ' := [(0, _), (4, _), (5, _), (7, _), (8, _), (9, _)]) ⟨rfl, rfl, rfl, rfl, rfl, rfl, trivial⟩ (.k (.k (.k (.k (.k (.d (.k (.k (.k (.k .z)))))))))) ?_
      refine St.seq ?_
      refine St.region ?_
      refine St.p rfl rfl ?_
      refine St.p rfl rfl ?_
      refine St.done ?_
      refine St.thenN ?_
      refine St.prune (Γ' := [(0, _), (4, _), (5, _), (7, _), (8, _), (35, _)]) ⟨rfl, rfl, rfl, rfl, rfl, rfl, trivial⟩ (.k (.k (.k (.k (.k (.k (.k (.k (.k .z))))))))) ?_
      refine St.cond _ rfl (fun hb2 => ?_) (fun hb2 => ?_)
      · replace h1 := bif_t hb2 h1
        refine St.region ?_
        refine St.loadB 0 rfl rfl (.head _) rfl rfl ?_
        refine St.store 0 rfl rfl rfl rfl rfl rfl (.s (.s (.s (.s (.s (.s (.s .z))))))) rfl ?_
        refine St.done ?_
        refine St.blkN ?_
        refine St.thenN ?_
        refine St.prune (Γ' := [(0, _), (4, _), (5, _), (7, _)]) ⟨rfl, rfl, rfl, rfl, trivial⟩ (.k (.d (.k (.k (.k (.k (.d (.d (.k .z))))))))) ?_
        refine St.region ?_
        iterate 3 refine St.p rfl rfl ?_
        refine St.done ?_
        injection h1 with h1
        subst h1
        refine St.thenN ?_
        exact St.again _ (A14, c14, A15, c15, A13, c13) hm1 trivial ⟨rfl, rfl, rfl, rfl, trivial⟩ (fun _ w => ((.k (.k (.k (.k (.k (.k .z)))))) : Keep _ _).sat ((((((w.front (.s (.s (.s (.s (.s .z)))))).front (.s .z)).front (.s (.s (.s (.s (.s .z)))))).front (.s (.s (.s (.s .z))))).front (.s (.s (.s (.s (.s .z)))))).front (.s (.s (.s (.s (.s .z)))))))
      · replace h1 := bif_f hb2 h1
        refine St.skip ?_
        refine St.blkN ?_
        refine St.thenN ?_
        refine St.prune (Γ' := [(0, _), (4, _), (5, _), (7, _)]) ⟨rfl, rfl, rfl, rfl, trivial⟩ (.d (.k (.d (.d (.k (.k (.k (.k (.k .z))))))))) ?_
        refine St.region ?_
        iterate 3 refine St.p rfl rfl ?_
        refine St.done ?_
        injection h1 with h1
        subst h1
        refine St.thenN ?_
        exact St.again _ (A7, c7, A8, c8, A13, c13) hm1 trivial ⟨rfl, rfl, rfl, rfl, trivial⟩ (fun _ w => ((.k (.k (.k (.k (.k (.k .z)))))) : Keep _ _).sat ((((((w.front (.s (.s (.s (.s (.s .z)))))).front (.s (.s (.s (.s (.s .z)))))).front (.s (.s (.s .z)))).front (.s (.s (.s (.s (.s .z)))))).front (.s (.s (.s (.s (.s .z)))))).front (.s (.s (.s (.s (.s .z)))))))
    · replace h1 := bif_f hb1 h1
      refine St.exit ?_
      repeat (first | refine St.thenX ?_ | refine St.blkMiss rfl ?_)
      refine St.blkHit ?_
      injection h1 with h1
      subst h1
      have ho := hd1 _ rfl
      subst ho
      refine St.thenN ?_
      exact St.hereE (A7, c7, A8, c8, A9, c9) ⟨rfl, rfl, trivial⟩ (fun _ w => ((.k (.k (.k (.k (.k (.k .z)))))) : Keep _ _).sat w)
  · rintro ⟨A10, c10, A11, c11, A12, c12⟩
    refine St.seq ?_
    refine St.region ?_
    refine St.loadB 0 rfl rfl (.tail _ (.tail _ (.tail _ (.tail _ (.head _))))) rfl rfl ?_
    refine St.store 0 rfl rfl rfl rfl rfl rfl (.s (.s (.s (.s (.s .z))))) rfl ?_
    refine St.done ?_
    refine St.thenN ?_
    refine St.prune (Γ' := [(4, _)]) ⟨rfl, trivial⟩ (.k (.k (.k (.k (.k (.d .z)))))) ?_
    refine St.ret ?_
    repeat (first | refine St.thenR ?_ | refine St.blkR ?_)
    injection h with h
    subst h
    exact St.finR Try.results18 (.cell rfl (.head _) rfl .nil) rfl [.ro (SlL eu8 A12 c12 o1.2.1), .ro (SlL eu8 A10 c10 o1.1.Slots.e0.Image.Data), .ro (SlL eu8 A11 c11 o1.1.Slots.e1.Image.Data), .res (Box gb1 63 [.slice A12 o1.2.1.length c12, .int .i64 o1.2.2])] ⟨A12, c12, A10, c10, A11, c11, rfl, rfl⟩ (fun _ w => ((.k (.k (.k (.k (.d (.d (.d (.d .z)))))))) : Keep _ _).sat (Sat.dup (G := [.ro (SlL eu8 A12 c12 o1.2.1), .ro (SlL eu8 A10 c10 o1.1.Slots.e0.Image.Data), .ro (SlL eu8 A11 c11 o1.1.Slots.e1.Image.Data)]) rfl ⟨(.tail _ (.tail _ (.head _))), (.tail _ (.tail _ (.tail _ (.tail _ (.head _))))), (.tail _ (.tail _ (.tail _ (.head _)))), trivial⟩ (w.front (.s (.s (.s (.s .z)))))))

theorem ent19 : Ent Try.prog 19 := ⟨_, Try.func19, by kernel_rfl, by kernel_rfl⟩

noncomputable def m_bank_Erase (d_p0 : T_Device) : Option (T_Device × Int) :=
  bnd (m_bank_writable d_p0) fun r1 => bif (r1 != 0) then (some ((⟨⟨#[]⟩, (⟨(⟨(⟨⟨#[]⟩, (⟨0, 0, 0⟩ : T_Version), []⟩ : T_Image), 0⟩ : T_Slot), (⟨(⟨⟨#[]⟩, (⟨0, 0, 0⟩ : T_Version), []⟩ : T_Image), 0⟩ : T_Slot)⟩ : (Arr2 T_Slot)), 0, 0, false⟩ : T_Device), r1)) else (bnd (m_bank_copied d_p0) fun r2 => bnd (m_bank_other r2) fun r3 => bnd (elt [r2.Slots.e0, r2.Slots.e1] r3) fun x1 => bnd (Arr2.set r2.Slots r3 (⟨(⟨⟨#[]⟩, (⟨0, 0, 0⟩ : T_Version), []⟩ : T_Image), 0⟩ : T_Slot)) fun z1 => some ((⟨r2.Name, z1, r2.Active, r2.Running, r2.Trial⟩ : T_Device), 0))

theorem c_bank_Erase {d_p0 : T_Device} {A1 : Option Addr} {c1 : Nat} {A2 : Option Addr} {c2 : Nat} {r : (T_Device × Int)} (h : m_bank_Erase d_p0 = some r) :
    Fun Try.prog 19 [.agg (bx_T_Device d_p0 A1 c1 A2 c2).toArray] [.ro (SlL eu8 A1 c1 d_p0.Slots.e0.Image.Data), .ro (SlL eu8 A2 c2 d_p0.Slots.e1.Image.Data)] (fun v_ F_ => ∃ (A1 : Option Addr) (c1 : Nat) (A2 : Option Addr) (c2 : Nat), v_ = .tuple #[.agg (bx_T_Device r.1 A1 c1 A2 c2).toArray, .int .i64 r.2] ∧ F_ = [.ro (SlL eu8 A1 c1 r.1.Slots.e0.Image.Data), .ro (SlL eu8 A2 c2 r.1.Slots.e1.Image.Data)]) := by
  unfold m_bank_Erase at h
  refine Fun.intro Try.func19 rfl rfl rfl fun w R => ?_
  refine St.seq ?_
  refine St.region ?_
  refine St.box rfl rfl fun g1 => ?_
  refine St.alloc rfl rfl fun g2 => ?_
  refine St.p rfl rfl ?_
  refine St.done ?_
  refine St.thenN ?_
  refine St.prune (Γ' := [(1, _), (2, _)]) ⟨rfl, rfl, trivial⟩ (.k (.k (.k (.k .z)))) ?_
  refine St.seq ?_
  refine St.seq ?_
  refine St.region ?_
  refine St.loadB 0 rfl rfl (.tail _ (.head _)) rfl rfl ?_
  obtain ⟨r1, hr1, h⟩ := bnd_e h
  refine St.callV (c_bank_writable hr1) ent43 rfl rfl rfl rfl ⟨(.tail _ (.tail _ (.head _))), (.tail _ (.tail _ (.tail _ (.head _)))), trivial⟩ ?_
  refine St.p rfl rfl ?_
  refine St.done ?_
  refine St.thenN ?_
  refine St.prune (Γ' := [(1, _), (2, _), (4, _)]) ⟨rfl, rfl, rfl, trivial⟩ (.k (.k (.k (.k .z)))) ?_
  refine St.seq ?_
  refine St.region ?_
  refine St.p rfl rfl ?_
  refine St.p rfl rfl ?_
  refine St.done ?_
  refine St.thenN ?_
  refine St.prune (Γ' := [(1, _), (2, _), (4, _), (9, _)]) ⟨rfl, rfl, rfl, rfl, trivial⟩ (.k (.k (.k (.k .z)))) ?_
  refine St.cond _ rfl (fun hb1 => ?_) (fun hb1 => ?_)
  · replace h := bif_t hb1 h
    refine St.seq ?_
    refine St.region ?_
    refine St.p rfl rfl ?_
    refine St.p rfl rfl ?_
    refine St.store 0 rfl rfl rfl rfl rfl rfl .z rfl ?_
    refine St.p rfl rfl ?_
    refine St.done ?_
    refine St.thenN ?_
    refine St.prune (Γ' := [(2, _), (3, _)]) ⟨rfl, rfl, trivial⟩ (.k (.d (.d (.d .z)))) ?_
    refine St.ret ?_
    repeat (first | refine St.thenR ?_ | refine St.blkR ?_)
    refine St.asrt (fun _ w => w.nilSl (cod eu8)) ?_
    refine St.asrt (fun _ w => w.nilSl (cod eu8)) ?_
    injection h with h
    subst h
    exact St.finR Try.results19 (.cell rfl (.tail _ (.tail _ (.head _))) rfl (.tmp rfl .nil)) rfl [.ro (SlL eu8 none 0 ([] : List Int)), .ro (SlL eu8 none 0 ([] : List Int))] ⟨none, 0, none, 0, rfl, rfl⟩ (fun _ w => ((.k (.k (.d (.d (.d .z))))) : Keep _ _).sat (Sat.dup (G := [.ro (SlL eu8 none 0 ([] : List Int)), .ro (SlL eu8 none 0 ([] : List Int))]) rfl ⟨(.head _), (.head _), trivial⟩ w))
  · replace h := bif_f hb1 h
    refine St.skip ?_
    refine St.thenN ?_
    refine St.prune (Γ' := [(1, _), (2, _)]) ⟨rfl, rfl, trivial⟩ (.k (.k (.k (.k .z)))) ?_
    refine St.seq ?_
    refine St.region ?_
    refine St.loadB 0 rfl rfl (.tail _ (.head _)) rfl rfl ?_
    obtain ⟨r2, hr2, h⟩ := bnd_e h
    refine St.call (c_bank_copied hr2) ent44 rfl rfl rfl (fun _ w => Sat.dup (G := [.ro (SlL eu8 A1 c1 d_p0.Slots.e0.Image.Data), .ro (SlL eu8 A2 c2 d_p0.Slots.e1.Image.Data)]) rfl ⟨(.tail _ (.tail _ (.head _))), (.tail _ (.tail _ (.tail _ (.head _)))), trivial⟩ w) ?_
    rintro _ _ ⟨A3, c3, A4, c4, rfl, rfl⟩
    refine St.asrt (F' := .ro (SlL eu8 A3 c3 r2.Slots.e0.Image.Data) :: .ro (SlL eu8 A4 c4 r2.Slots.e1.Image.Data) :: .res (Box g2 35 [.string (⟨#[]⟩), .string (⟨#[]⟩), .int .i64 0, .int .i64 0, .int .i64 0, .slice none 0 0, .int .u32 0, .string (⟨#[]⟩), .int .i64 0, .int .i64 0, .int .i64 0, .slice none 0 0, .int .u32 0, .int .i64 0, .int .i64 0, .bool false]) :: .res (Box g1 35 (bx_T_Device d_p0 A1 c1 A2 c2)) :: .ro (SlL eu8 A1 c1 d_p0.Slots.e0.Image.Data) :: .ro (SlL eu8 A2 c2 d_p0.Slots.e1.Image.Data) :: R) (fun _ w => w) ?_
    refine St.alloc rfl rfl fun g3 => ?_
    refine St.store 0 rfl rfl rfl rfl rfl rfl .z rfl ?_
    refine St.done ?_
    refine St.thenN ?_
    refine St.prune (Γ' := [(2, _), (5, _)]) ⟨rfl, rfl, trivial⟩ (.k (.k (.k (.k (.d (.d (.d .z))))))) ?_
    refine St.seq ?_
    refine St.region ?_
    obtain ⟨r3, hr3, h⟩ := bnd_e h
    refine St.call (c_bank_other hr3) ent45 rfl rfl rfl (fun _ w => Sat.dup (G := [.ro (SlL eu8 A3 c3 r2.Slots.e0.Image.Data), .ro (SlL eu8 A4 c4 r2.Slots.e1.Image.Data)]) rfl ⟨(.tail _ (.head _)), (.tail _ (.tail _ (.head _))), trivial⟩ (w.front .z)) ?_
    rintro _ _ ⟨rfl, rfl⟩
    refine St.asrt (F' := .res (Box g3 35 (bx_T_Device r2 A3 c3 A4 c4)) :: .ro (SlL eu8 A3 c3 r2.Slots.e0.Image.Data) :: .ro (SlL eu8 A4 c4 r2.Slots.e1.Image.Data) :: .res (Box g2 35 [.string (⟨#[]⟩), .string (⟨#[]⟩), .int .i64 0, .int .i64 0, .int .i64 0, .slice none 0 0, .int .u32 0, .string (⟨#[]⟩), .int .i64 0, .int .i64 0, .int .i64 0, .slice none 0 0, .int .u32 0, .int .i64 0, .int .i64 0, .bool false]) :: R) (fun _ w => w) ?_
    refine St.p rfl rfl ?_
    refine St.p rfl rfl ?_
    obtain ⟨x1, hx1, h⟩ := bnd_e h
    refine St.asrt (fun _ w => w.nilSl (cod eu8)) ?_
    obtain ⟨z1, hz1, h⟩ := bnd_e h
    refine St.stP (ls := l_T_Slot) 0 [.string r2.Name] [.int .i64 r2.Active, .int .i64 r2.Running, .bool r2.Trial] [(r2.Slots.e0, ((A3, c3), ())), (r2.Slots.e1, ((A4, c4), ()))] (fun ex => ((none, 0), ())) hx1 (Arr2.set_e hz1) rfl rfl (.s .z) rfl rfl rfl ⟨(.tail _ (.head _)), (.tail _ (.tail _ (.head _))), trivial⟩ rfl rfl rfl rfl (fun _ => rfl) (fun _ => ⟨(.tail _ (.head _)), trivial⟩) fun ye1 hye1 => ?_
    obtain ⟨ex1, ex2, rfl⟩ := pairs2 hye1
    obtain ⟨⟨A5, c5⟩, _⟩ := ex1
    obtain ⟨⟨A6, c6⟩, _⟩ := ex2
    refine St.asrt (F' := .res (Box g3 35 [.string r2.Name, .string z1.e0.Image.Name, .int .i64 z1.e0.Image.Version.Major, .int .i64 z1.e0.Image.Version.Minor, .int .i64 z1.e0.Image.Version.Patch, .slice A5 z1.e0.Image.Data.length c5, .int .u32 z1.e0.Sum, .string z1.e1.Image.Name, .int .i64 z1.e1.Image.Version.Major, .int .i64 z1.e1.Image.Version.Minor, .int .i64 z1.e1.Image.Version.Patch, .slice A6 z1.e1.Image.Data.length c6, .int .u32 z1.e1.Sum, .int .i64 r2.Active, .int .i64 r2.Running, .bool r2.Trial]) :: .ro (SlL eu8 A5 c5 z1.e0.Image.Data) :: .ro (SlL eu8 A6 c6 z1.e1.Image.Data) :: .ro (SlL eu8 none 0 ([] : List Int)) :: .ro (SlL eu8 A3 c3 r2.Slots.e0.Image.Data) :: .ro (SlL eu8 A4 c4 r2.Slots.e1.Image.Data) :: .res (Box g2 35 [.string (⟨#[]⟩), .string (⟨#[]⟩), .int .i64 0, .int .i64 0, .int .i64 0, .slice none 0 0, .int .u32 0, .string (⟨#[]⟩), .int .i64 0, .int .i64 0, .int .i64 0, .slice none 0 0, .int .u32 0, .int .i64 0, .int .i64 0, .bool false]) :: R) (fun _ w => w) ?_
    refine St.done ?_
    refine St.thenN ?_
    refine St.prune (Γ' := [(2, _), (5, _)]) ⟨rfl, rfl, trivial⟩ (.k (.k (.k (.d (.d (.d (.k .z))))))) ?_
    refine St.seq ?_
    refine St.region ?_
    refine St.loadB 0 rfl rfl (.head _) rfl rfl ?_
    refine St.store 0 rfl rfl rfl rfl rfl rfl (.s (.s (.s .z))) rfl ?_
    refine St.p rfl rfl ?_
    refine St.done ?_
    refine St.thenN ?_
    refine St.prune (Γ' := [(2, _), (3, _)]) ⟨rfl, rfl, trivial⟩ (.k (.d (.k (.k .z)))) ?_
    refine St.ret ?_
    repeat (first | refine St.thenR ?_ | refine St.blkR ?_)
    injection h with h
    subst h
    exact St.finR Try.results19 (.cell rfl (.head _) rfl (.tmp rfl .nil)) rfl [.ro (SlL eu8 A5 c5 z1.e0.Image.Data), .ro (SlL eu8 A6 c6 z1.e1.Image.Data)] ⟨A5, c5, A6, c6, rfl, rfl⟩ (fun _ w => ((.k (.k (.d (.d (.d .z))))) : Keep _ _).sat (Sat.dup (G := [.ro (SlL eu8 A5 c5 z1.e0.Image.Data), .ro (SlL eu8 A6 c6 z1.e1.Image.Data)]) rfl ⟨(.tail _ (.head _)), (.tail _ (.tail _ (.head _))), trivial⟩ w))

theorem ent24 : Ent Try.prog 24 := ⟨_, Try.func24, by kernel_rfl, by kernel_rfl⟩

noncomputable def m_bank_Spoil (d_p0 : T_Device) (i_p1 : T_Image) (sum : Int) : Option T_Device :=
  bnd (m_bank_Valid d_p0) fun r1 => bif !r1 then (some (⟨⟨#[]⟩, (⟨(⟨(⟨⟨#[]⟩, (⟨0, 0, 0⟩ : T_Version), []⟩ : T_Image), 0⟩ : T_Slot), (⟨(⟨⟨#[]⟩, (⟨0, 0, 0⟩ : T_Version), []⟩ : T_Image), 0⟩ : T_Slot)⟩ : (Arr2 T_Slot)), 0, 0, false⟩ : T_Device)) else (bnd (m_bank_copied d_p0) fun r2 => bnd (m_bank_writable d_p0) fun r3 => bif (r3 == 0) then (bnd (m_bank_other r2) fun r4 => bnd (m_bank_image i_p1) fun r5 => bnd (elt [r2.Slots.e0, r2.Slots.e1] r4) fun x1 => bnd (Arr2.set r2.Slots r4 (⟨r5, sum⟩ : T_Slot)) fun z1 => bnd (m_bank_Boot (⟨r2.Name, z1, r2.Active, r2.Running, r2.Trial⟩ : T_Device)) fun r6 => some r6) else (bnd (m_bank_Boot r2) fun r7 => some r7))

theorem c_bank_Spoil {d_p0 : T_Device} {i_p1 : T_Image} {sum : Int} {A1 : Option Addr} {c1 : Nat} {A2 : Option Addr} {c2 : Nat} {A3 : Option Addr} {c3 : Nat} {r : T_Device} (h : m_bank_Spoil d_p0 i_p1 sum = some r) :
    Fun Try.prog 24 [.agg (bx_T_Device d_p0 A1 c1 A2 c2).toArray, .agg (bx_T_Image i_p1 A3 c3).toArray, .int .u32 sum] [.ro (SlL eu8 A1 c1 d_p0.Slots.e0.Image.Data), .ro (SlL eu8 A2 c2 d_p0.Slots.e1.Image.Data), .ro (SlL eu8 A3 c3 i_p1.Data)] (fun v_ F_ => ∃ (A1 : Option Addr) (c1 : Nat) (A2 : Option Addr) (c2 : Nat), v_ = .agg (bx_T_Device r A1 c1 A2 c2).toArray ∧ F_ = [.ro (SlL eu8 A1 c1 r.Slots.e0.Image.Data), .ro (SlL eu8 A2 c2 r.Slots.e1.Image.Data)]) := by
  unfold m_bank_Spoil at h
  refine Fun.intro Try.func24 rfl rfl rfl fun w R => ?_
  refine St.seq ?_
  refine St.region ?_
  refine St.box rfl rfl fun g1 => ?_
  refine St.box rfl rfl fun g2 => ?_
  refine St.alloc rfl rfl fun g3 => ?_
  refine St.done ?_
  refine St.thenN ?_
  refine St.prune (Γ' := [(2, _), (3, _), (4, _), (6, _)]) ⟨rfl, rfl, rfl, rfl, trivial⟩ (.k (.k (.k (.k (.k (.k .z)))))) ?_
  refine St.seq ?_
  refine St.seq ?_
  refine St.region ?_
  refine St.loadB 0 rfl rfl (.tail _ (.tail _ (.head _))) rfl rfl ?_
  obtain ⟨r1, hr1, h⟩ := bnd_e h
  refine St.callV (c_bank_Valid hr1) ent21 rfl rfl rfl rfl ⟨(.tail _ (.tail _ (.tail _ (.head _)))), (.tail _ (.tail _ (.tail _ (.tail _ (.head _))))), trivial⟩ ?_
  refine St.p rfl rfl ?_
  refine St.done ?_
  refine St.thenN ?_
  refine St.prune (Γ' := [(2, _), (3, _), (4, _), (6, _), (10, _)]) ⟨rfl, rfl, rfl, rfl, rfl, trivial⟩ (.k (.k (.k (.k (.k (.k .z)))))) ?_
  refine St.cond _ rfl (fun hb1 => ?_) (fun hb1 => ?_)
  · replace h := bif_t hb1 h
    refine St.seq ?_
    refine St.region ?_
    refine St.p rfl rfl ?_
    refine St.store 0 rfl rfl rfl rfl rfl rfl .z rfl ?_
    refine St.done ?_
    refine St.thenN ?_
    refine St.prune (Γ' := [(6, _)]) ⟨rfl, trivial⟩ (.k (.d (.d (.d (.d (.d .z)))))) ?_
    refine St.ret ?_
    repeat (first | refine St.thenR ?_ | refine St.blkR ?_)
    refine St.asrt (fun _ w => w.nilSl (cod eu8)) ?_
    refine St.asrt (fun _ w => w.nilSl (cod eu8)) ?_
    injection h with h
    subst h
    exact St.finR Try.results24 (.cell rfl (.tail _ (.tail _ (.head _))) rfl .nil) rfl [.ro (SlL eu8 none 0 ([] : List Int)), .ro (SlL eu8 none 0 ([] : List Int))] ⟨none, 0, none, 0, rfl, rfl⟩ (fun _ w => ((.k (.k (.d (.d (.d .z))))) : Keep _ _).sat (Sat.dup (G := [.ro (SlL eu8 none 0 ([] : List Int)), .ro (SlL eu8 none 0 ([] : List Int))]) rfl ⟨(.head _), (.head _), trivial⟩ w))
  · replace h := bif_f hb1 h
    refine St.skip ?_
    refine St.thenN ?_
    refine St.prune (Γ' := [(2, _), (3, _), (4, _), (6, _)]) ⟨rfl, rfl, rfl, rfl, trivial⟩ (.k (.k (.k (.k (.k (.k .z)))))) ?_
    refine St.seq ?_
    refine St.region ?_
    refine St.loadB 0 rfl rfl (.tail _ (.tail _ (.head _))) rfl rfl ?_
    obtain ⟨r2, hr2, h⟩ := bnd_e h
    refine St.call (c_bank_copied hr2) ent44 rfl rfl rfl (fun _ w => Sat.dup (G := [.ro (SlL eu8 A1 c1 d_p0.Slots.e0.Image.Data), .ro (SlL eu8 A2 c2 d_p0.Slots.e1.Image.Data)]) rfl ⟨(.tail _ (.tail _ (.tail _ (.head _)))), (.tail _ (.tail _ (.tail _ (.tail _ (.head _))))), trivial⟩ w) ?_
    rintro _ _ ⟨A4, c4, A5, c5, rfl, rfl⟩
    refine St.asrt (F' := .ro (SlL eu8 A4 c4 r2.Slots.e0.Image.Data) :: .ro (SlL eu8 A5 c5 r2.Slots.e1.Image.Data) :: .res (Box g3 35 [.string (⟨#[]⟩), .string (⟨#[]⟩), .int .i64 0, .int .i64 0, .int .i64 0, .slice none 0 0, .int .u32 0, .string (⟨#[]⟩), .int .i64 0, .int .i64 0, .int .i64 0, .slice none 0 0, .int .u32 0, .int .i64 0, .int .i64 0, .bool false]) :: .res (Box g2 30 (bx_T_Image i_p1 A3 c3)) :: .res (Box g1 35 (bx_T_Device d_p0 A1 c1 A2 c2)) :: .ro (SlL eu8 A1 c1 d_p0.Slots.e0.Image.Data) :: .ro (SlL eu8 A2 c2 d_p0.Slots.e1.Image.Data) :: .ro (SlL eu8 A3 c3 i_p1.Data) :: R) (fun _ w => w) ?_
    refine St.alloc rfl rfl fun g4 => ?_
    refine St.store 0 rfl rfl rfl rfl rfl rfl .z rfl ?_
    refine St.done ?_
    refine St.thenN ?_
    refine St.prune (Γ' := [(2, _), (3, _), (4, _), (6, _), (7, _)]) ⟨rfl, rfl, rfl, rfl, rfl, trivial⟩ (.k (.k (.k (.k (.k (.k (.k (.k (.k .z))))))))) ?_
    refine St.seq ?_
    refine St.seq ?_
    refine St.region ?_
    refine St.loadB 0 rfl rfl (.tail _ (.tail _ (.tail _ (.tail _ (.tail _ (.head _)))))) rfl rfl ?_
    obtain ⟨r3, hr3, h⟩ := bnd_e h
    refine St.callV (c_bank_writable hr3) ent43 rfl rfl rfl rfl ⟨(.tail _ (.tail _ (.tail _ (.tail _ (.tail _ (.tail _ (.head _))))))), (.tail _ (.tail _ (.tail _ (.tail _ (.tail _ (.tail _ (.tail _ (.head _)))))))), trivial⟩ ?_
    refine St.p rfl rfl ?_
    refine St.done ?_
    refine St.thenN ?_
    refine St.prune (Γ' := [(2, _), (4, _), (6, _), (7, _), (16, _)]) ⟨rfl, rfl, rfl, rfl, rfl, trivial⟩ (.k (.k (.k (.k (.k (.d (.d (.d (.k .z))))))))) ?_
    refine St.cond _ rfl (fun hb2 => ?_) (fun hb2 => ?_)
    · replace h := bif_t hb2 h
      refine St.regionX (iL [(.fl, 1), (.fl, 3), (.ef, 0), (.ef, 2), (.fl, 4), (.fl, 5), (.ef, 6)] .nil) (.ro (SlL eu8 A4 c4 r2.Slots.e0.Image.Data) :: .ro (SlL eu8 A5 c5 r2.Slots.e1.Image.Data) :: .res (Box g3 35 [.string (⟨#[]⟩), .string (⟨#[]⟩), .int .i64 0, .int .i64 0, .int .i64 0, .slice none 0 0, .int .u32 0, .string (⟨#[]⟩), .int .i64 0, .int .i64 0, .int .i64 0, .slice none 0 0, .int .u32 0, .int .i64 0, .int .i64 0, .bool false]) :: .res (Box g2 30 (bx_T_Image i_p1 A3 c3)) :: .ro (SlL eu8 A3 c3 i_p1.Data) :: R) mixed (by kernel_rfl) (fun _ w => ((.d (.k (.k (.k (.k (.k .z)))))) : Keep _ _).sat w) ?_
      refine St.xfl (fun _ h => h) (Rd.loadB 0 rfl (.tail _ (.tail _ (.tail _ (.head _)))) rfl rfl) rfl ?_
      refine St.xfl (fun _ h => h) (Rd.p rfl) rfl ?_
      refine St.xef ?_
      obtain ⟨r4, hr4, h⟩ := bnd_e h
      refine St.call (c_bank_other hr4) ent45 rfl rfl rfl (fun _ w => Sat.dup (G := [.ro (SlL eu8 A4 c4 r2.Slots.e0.Image.Data), .ro (SlL eu8 A5 c5 r2.Slots.e1.Image.Data)]) rfl ⟨(.tail _ (.head _)), (.tail _ (.tail _ (.head _))), trivial⟩ (w.front .z)) ?_
      rintro _ _ ⟨rfl, rfl⟩
      refine St.asrt (F' := .res (Box g4 35 (bx_T_Device r2 A4 c4 A5 c5)) :: .ro (SlL eu8 A4 c4 r2.Slots.e0.Image.Data) :: .ro (SlL eu8 A5 c5 r2.Slots.e1.Image.Data) :: .res (Box g3 35 [.string (⟨#[]⟩), .string (⟨#[]⟩), .int .i64 0, .int .i64 0, .int .i64 0, .slice none 0 0, .int .u32 0, .string (⟨#[]⟩), .int .i64 0, .int .i64 0, .int .i64 0, .slice none 0 0, .int .u32 0, .int .i64 0, .int .i64 0, .bool false]) :: .res (Box g2 30 (bx_T_Image i_p1 A3 c3)) :: .ro (SlL eu8 A3 c3 i_p1.Data) :: R) (fun _ w => w) ?_
      refine St.xk (fun _ w => ((.d (.k (.k (.k (.k (.k .z)))))) : Keep _ _).sat w) ?_
      refine St.xef ?_
      obtain ⟨r5, hr5, h⟩ := bnd_e h
      refine St.call (c_bank_image hr5) ent42 rfl rfl rfl (fun _ w => Sat.dup (G := [.ro (SlL eu8 A3 c3 i_p1.Data)]) rfl ⟨(.tail _ (.tail _ (.tail _ (.tail _ (.tail _ (.head _)))))), trivial⟩ w) ?_
      rintro _ _ ⟨A6, c6, rfl, rfl⟩
      refine St.asrt (F' := .ro (SlL eu8 A6 c6 r5.Data) :: .res (Box g4 35 (bx_T_Device r2 A4 c4 A5 c5)) :: .ro (SlL eu8 A4 c4 r2.Slots.e0.Image.Data) :: .ro (SlL eu8 A5 c5 r2.Slots.e1.Image.Data) :: .res (Box g3 35 [.string (⟨#[]⟩), .string (⟨#[]⟩), .int .i64 0, .int .i64 0, .int .i64 0, .slice none 0 0, .int .u32 0, .string (⟨#[]⟩), .int .i64 0, .int .i64 0, .int .i64 0, .slice none 0 0, .int .u32 0, .int .i64 0, .int .i64 0, .bool false]) :: .res (Box g2 30 (bx_T_Image i_p1 A3 c3)) :: .ro (SlL eu8 A3 c3 i_p1.Data) :: R) (fun _ w => w) ?_
      refine St.xk (fun _ w => ((.d (.d (.k (.k (.k (.k (.k .z))))))) : Keep _ _).sat w) ?_
      refine St.xfl (fun _ h => h) (Rd.p rfl) rfl ?_
      refine St.xfl (fun _ h => h) (Rd.p rfl) rfl ?_
      refine St.xef ?_
      obtain ⟨x1, hx1, h⟩ := bnd_e h
      obtain ⟨z1, hz1, h⟩ := bnd_e h
      refine St.stP (ls := l_T_Slot) 0 [.string r2.Name] [.int .i64 r2.Active, .int .i64 r2.Running, .bool r2.Trial] [(r2.Slots.e0, ((A4, c4), ())), (r2.Slots.e1, ((A5, c5), ()))] (fun ex => ((A6, c6), ())) hx1 (Arr2.set_e hz1) rfl rfl (.s .z) rfl rfl rfl ⟨(.tail _ (.head _)), (.tail _ (.tail _ (.head _))), trivial⟩ rfl rfl rfl rfl (fun _ => rfl) (fun _ => ⟨(.tail _ (.head _)), trivial⟩) fun ye1 hye1 => ?_
      obtain ⟨ex1, ex2, rfl⟩ := pairs2 hye1
      obtain ⟨⟨A7, c7⟩, _⟩ := ex1
      obtain ⟨⟨A8, c8⟩, _⟩ := ex2
      refine St.asrt (F' := .res (Box g4 35 [.string r2.Name, .string z1.e0.Image.Name, .int .i64 z1.e0.Image.Version.Major, .int .i64 z1.e0.Image.Version.Minor, .int .i64 z1.e0.Image.Version.Patch, .slice A7 z1.e0.Image.Data.length c7, .int .u32 z1.e0.Sum, .string z1.e1.Image.Name, .int .i64 z1.e1.Image.Version.Major, .int .i64 z1.e1.Image.Version.Minor, .int .i64 z1.e1.Image.Version.Patch, .slice A8 z1.e1.Image.Data.length c8, .int .u32 z1.e1.Sum, .int .i64 r2.Active, .int .i64 r2.Running, .bool r2.Trial]) :: .ro (SlL eu8 A7 c7 z1.e0.Image.Data) :: .ro (SlL eu8 A8 c8 z1.e1.Image.Data) :: .ro (SlL eu8 A6 c6 r5.Data) :: .ro (SlL eu8 A4 c4 r2.Slots.e0.Image.Data) :: .ro (SlL eu8 A5 c5 r2.Slots.e1.Image.Data) :: .res (Box g3 35 [.string (⟨#[]⟩), .string (⟨#[]⟩), .int .i64 0, .int .i64 0, .int .i64 0, .slice none 0 0, .int .u32 0, .string (⟨#[]⟩), .int .i64 0, .int .i64 0, .int .i64 0, .slice none 0 0, .int .u32 0, .int .i64 0, .int .i64 0, .bool false]) :: .res (Box g2 30 (bx_T_Image i_p1 A3 c3)) :: .ro (SlL eu8 A3 c3 i_p1.Data) :: R) (fun _ w => w) ?_
      refine St.xk (fun _ w => ((.d (.d (.d (.d (.k (.k (.k (.k (.k .z))))))))) : Keep _ _).sat w) ?_
      refine St.xdone ?_
      refine St.thenN ?_
      refine St.prune (Γ' := [(6, _), (7, _)]) ⟨rfl, rfl, trivial⟩ (.k (.k (.k (.d (.d (.d (.k (.d (.d .z))))))))) ?_
      refine St.seq ?_
      refine St.region ?_
      refine St.loadB 0 rfl rfl (.head _) rfl rfl ?_
      obtain ⟨r6, hr6, h⟩ := bnd_e h
      refine St.call (c_bank_Boot hr6) ent20 rfl rfl rfl (fun _ w => Sat.dup (G := [.ro (SlL eu8 A7 c7 z1.e0.Image.Data), .ro (SlL eu8 A8 c8 z1.e1.Image.Data)]) rfl ⟨(.tail _ (.head _)), (.tail _ (.tail _ (.head _))), trivial⟩ w) ?_
      rintro _ _ ⟨A9, c9, A10, c10, rfl, rfl⟩
      refine St.asrt (F' := .ro (SlL eu8 A9 c9 r6.Slots.e0.Image.Data) :: .ro (SlL eu8 A10 c10 r6.Slots.e1.Image.Data) :: .res (Box g4 35 [.string r2.Name, .string z1.e0.Image.Name, .int .i64 z1.e0.Image.Version.Major, .int .i64 z1.e0.Image.Version.Minor, .int .i64 z1.e0.Image.Version.Patch, .slice A7 z1.e0.Image.Data.length c7, .int .u32 z1.e0.Sum, .string z1.e1.Image.Name, .int .i64 z1.e1.Image.Version.Major, .int .i64 z1.e1.Image.Version.Minor, .int .i64 z1.e1.Image.Version.Patch, .slice A8 z1.e1.Image.Data.length c8, .int .u32 z1.e1.Sum, .int .i64 r2.Active, .int .i64 r2.Running, .bool r2.Trial]) :: .ro (SlL eu8 A7 c7 z1.e0.Image.Data) :: .ro (SlL eu8 A8 c8 z1.e1.Image.Data) :: .res (Box g3 35 [.string (⟨#[]⟩), .string (⟨#[]⟩), .int .i64 0, .int .i64 0, .int .i64 0, .slice none 0 0, .int .u32 0, .string (⟨#[]⟩), .int .i64 0, .int .i64 0, .int .i64 0, .slice none 0 0, .int .u32 0, .int .i64 0, .int .i64 0, .bool false]) :: R) (fun _ w => w) ?_
      refine St.store 0 rfl rfl rfl rfl rfl rfl (.s (.s (.s (.s (.s .z))))) rfl ?_
      refine St.done ?_
      refine St.thenN ?_
      refine St.prune (Γ' := [(6, _)]) ⟨rfl, trivial⟩ (.k (.k (.k (.d (.d (.d .z)))))) ?_
      refine St.ret ?_
      repeat (first | refine St.thenR ?_ | refine St.blkR ?_)
      injection h with h
      subst h
      exact St.finR Try.results24 (.cell rfl (.head _) rfl .nil) rfl [.ro (SlL eu8 A9 c9 r6.Slots.e0.Image.Data), .ro (SlL eu8 A10 c10 r6.Slots.e1.Image.Data)] ⟨A9, c9, A10, c10, rfl, rfl⟩ (fun _ w => ((.k (.k (.d (.d (.d .z))))) : Keep _ _).sat (Sat.dup (G := [.ro (SlL eu8 A9 c9 r6.Slots.e0.Image.Data), .ro (SlL eu8 A10 c10 r6.Slots.e1.Image.Data)]) rfl ⟨(.tail _ (.head _)), (.tail _ (.tail _ (.head _))), trivial⟩ w))
    · replace h := bif_f hb2 h
      refine St.skip ?_
      refine St.thenN ?_
      refine St.prune (Γ' := [(6, _), (7, _)]) ⟨rfl, rfl, trivial⟩ (.k (.k (.k (.k (.d (.d .z)))))) ?_
      refine St.seq ?_
      refine St.region ?_
      refine St.loadB 0 rfl rfl (.head _) rfl rfl ?_
      obtain ⟨r7, hr7, h⟩ := bnd_e h
      refine St.call (c_bank_Boot hr7) ent20 rfl rfl rfl (fun _ w => Sat.dup (G := [.ro (SlL eu8 A4 c4 r2.Slots.e0.Image.Data), .ro (SlL eu8 A5 c5 r2.Slots.e1.Image.Data)]) rfl ⟨(.tail _ (.head _)), (.tail _ (.tail _ (.head _))), trivial⟩ w) ?_
      rintro _ _ ⟨A11, c11, A12, c12, rfl, rfl⟩
      refine St.asrt (F' := .ro (SlL eu8 A11 c11 r7.Slots.e0.Image.Data) :: .ro (SlL eu8 A12 c12 r7.Slots.e1.Image.Data) :: .res (Box g4 35 (bx_T_Device r2 A4 c4 A5 c5)) :: .ro (SlL eu8 A4 c4 r2.Slots.e0.Image.Data) :: .ro (SlL eu8 A5 c5 r2.Slots.e1.Image.Data) :: .res (Box g3 35 [.string (⟨#[]⟩), .string (⟨#[]⟩), .int .i64 0, .int .i64 0, .int .i64 0, .slice none 0 0, .int .u32 0, .string (⟨#[]⟩), .int .i64 0, .int .i64 0, .int .i64 0, .slice none 0 0, .int .u32 0, .int .i64 0, .int .i64 0, .bool false]) :: R) (fun _ w => w) ?_
      refine St.store 0 rfl rfl rfl rfl rfl rfl (.s (.s (.s (.s (.s .z))))) rfl ?_
      refine St.done ?_
      refine St.thenN ?_
      refine St.prune (Γ' := [(6, _)]) ⟨rfl, trivial⟩ (.k (.k (.k (.d (.d (.d .z)))))) ?_
      refine St.ret ?_
      repeat (first | refine St.thenR ?_ | refine St.blkR ?_)
      injection h with h
      subst h
      exact St.finR Try.results24 (.cell rfl (.head _) rfl .nil) rfl [.ro (SlL eu8 A11 c11 r7.Slots.e0.Image.Data), .ro (SlL eu8 A12 c12 r7.Slots.e1.Image.Data)] ⟨A11, c11, A12, c12, rfl, rfl⟩ (fun _ w => ((.k (.k (.d (.d (.d .z))))) : Keep _ _).sat (Sat.dup (G := [.ro (SlL eu8 A11 c11 r7.Slots.e0.Image.Data), .ro (SlL eu8 A12 c12 r7.Slots.e1.Image.Data)]) rfl ⟨(.tail _ (.head _)), (.tail _ (.tail _ (.head _))), trivial⟩ w))

theorem ent25 : Ent Try.prog 25 := ⟨_, Try.func25, by kernel_rfl, by kernel_rfl⟩

noncomputable def m_bank_Confirm (d_p0 : T_Device) : Option (T_Device × Int) :=
  bnd (m_bank_Valid d_p0) fun r1 => bif !r1 then (some ((⟨⟨#[]⟩, (⟨(⟨(⟨⟨#[]⟩, (⟨0, 0, 0⟩ : T_Version), []⟩ : T_Image), 0⟩ : T_Slot), (⟨(⟨⟨#[]⟩, (⟨0, 0, 0⟩ : T_Version), []⟩ : T_Image), 0⟩ : T_Slot)⟩ : (Arr2 T_Slot)), 0, 0, false⟩ : T_Device), 1)) else (bif d_p0.Trial then (some ((⟨⟨#[]⟩, (⟨(⟨(⟨⟨#[]⟩, (⟨0, 0, 0⟩ : T_Version), []⟩ : T_Image), 0⟩ : T_Slot), (⟨(⟨⟨#[]⟩, (⟨0, 0, 0⟩ : T_Version), []⟩ : T_Image), 0⟩ : T_Slot)⟩ : (Arr2 T_Slot)), 0, 0, false⟩ : T_Device), 46)) else (bnd (m_bank_copied d_p0) fun r2 => some ((⟨r2.Name, r2.Slots, r2.Running, r2.Running, r2.Trial⟩ : T_Device), 0)))

theorem c_bank_Confirm {d_p0 : T_Device} {A1 : Option Addr} {c1 : Nat} {A2 : Option Addr} {c2 : Nat} {r : (T_Device × Int)} (h : m_bank_Confirm d_p0 = some r) :
    Fun Try.prog 25 [.agg (bx_T_Device d_p0 A1 c1 A2 c2).toArray] [.ro (SlL eu8 A1 c1 d_p0.Slots.e0.Image.Data), .ro (SlL eu8 A2 c2 d_p0.Slots.e1.Image.Data)] (fun v_ F_ => ∃ (A1 : Option Addr) (c1 : Nat) (A2 : Option Addr) (c2 : Nat), v_ = .tuple #[.agg (bx_T_Device r.1 A1 c1 A2 c2).toArray, .int .i64 r.2] ∧ F_ = [.ro (SlL eu8 A1 c1 r.1.Slots.e0.Image.Data), .ro (SlL eu8 A2 c2 r.1.Slots.e1.Image.Data)]) := by
  unfold m_bank_Confirm at h
  refine Fun.intro Try.func25 rfl rfl rfl fun w R => ?_
  refine St.seq ?_
  refine St.region ?_
  refine St.box rfl rfl fun g1 => ?_
  refine St.alloc rfl rfl fun g2 => ?_
  refine St.p rfl rfl ?_
  refine St.done ?_
  refine St.thenN ?_
  refine St.prune (Γ' := [(1, _), (2, _)]) ⟨rfl, rfl, trivial⟩ (.k (.k (.k (.k .z)))) ?_
  refine St.seq ?_
  refine St.seq ?_
  refine St.region ?_
  refine St.loadB 0 rfl rfl (.tail _ (.head _)) rfl rfl ?_
  obtain ⟨r1, hr1, h⟩ := bnd_e h
  refine St.callV (c_bank_Valid hr1) ent21 rfl rfl rfl rfl ⟨(.tail _ (.tail _ (.head _))), (.tail _ (.tail _ (.tail _ (.head _)))), trivial⟩ ?_
  refine St.p rfl rfl ?_
  refine St.done ?_
  refine St.thenN ?_
  refine St.prune (Γ' := [(1, _), (2, _), (7, _)]) ⟨rfl, rfl, rfl, trivial⟩ (.k (.k (.k (.k .z)))) ?_
  refine St.cond _ rfl (fun hb1 => ?_) (fun hb1 => ?_)
  · replace h := bif_t hb1 h
    refine St.seq ?_
    refine St.region ?_
    refine St.p rfl rfl ?_
    refine St.store 0 rfl rfl rfl rfl rfl rfl .z rfl ?_
    refine St.p rfl rfl ?_
    refine St.done ?_
    refine St.thenN ?_
    refine St.prune (Γ' := [(2, _), (3, _)]) ⟨rfl, rfl, trivial⟩ (.k (.d (.d (.d .z)))) ?_
    refine St.ret ?_
    repeat (first | refine St.thenR ?_ | refine St.blkR ?_)
    refine St.asrt (fun _ w => w.nilSl (cod eu8)) ?_
    refine St.asrt (fun _ w => w.nilSl (cod eu8)) ?_
    injection h with h
    subst h
    exact St.finR Try.results25 (.cell rfl (.tail _ (.tail _ (.head _))) rfl (.tmp rfl .nil)) rfl [.ro (SlL eu8 none 0 ([] : List Int)), .ro (SlL eu8 none 0 ([] : List Int))] ⟨none, 0, none, 0, rfl, rfl⟩ (fun _ w => ((.k (.k (.d (.d (.d .z))))) : Keep _ _).sat (Sat.dup (G := [.ro (SlL eu8 none 0 ([] : List Int)), .ro (SlL eu8 none 0 ([] : List Int))]) rfl ⟨(.head _), (.head _), trivial⟩ w))
  · replace h := bif_f hb1 h
    refine St.skip ?_
    refine St.thenN ?_
    refine St.prune (Γ' := [(1, _), (2, _)]) ⟨rfl, rfl, trivial⟩ (.k (.k (.k (.k .z)))) ?_
    refine St.seq ?_
    refine St.seq ?_
    refine St.region ?_
    refine St.p rfl rfl ?_
    refine St.loadB 15 rfl rfl (.tail _ (.head _)) rfl rfl ?_
    refine St.done ?_
    refine St.thenN ?_
    refine St.prune (Γ' := [(1, _), (2, _), (10, _)]) ⟨rfl, rfl, rfl, trivial⟩ (.k (.k (.k (.k .z)))) ?_
    refine St.cond _ rfl (fun hb2 => ?_) (fun hb2 => ?_)
    · replace h := bif_t hb2 h
      refine St.seq ?_
      refine St.region ?_
      refine St.p rfl rfl ?_
      refine St.store 0 rfl rfl rfl rfl rfl rfl .z rfl ?_
      refine St.p rfl rfl ?_
      refine St.done ?_
      refine St.thenN ?_
      refine St.prune (Γ' := [(2, _), (3, _)]) ⟨rfl, rfl, trivial⟩ (.k (.d (.d (.d .z)))) ?_
      refine St.ret ?_
      repeat (first | refine St.thenR ?_ | refine St.blkR ?_)
      refine St.asrt (fun _ w => w.nilSl (cod eu8)) ?_
      refine St.asrt (fun _ w => w.nilSl (cod eu8)) ?_
      injection h with h
      subst h
      exact St.finR Try.results25 (.cell rfl (.tail _ (.tail _ (.head _))) rfl (.tmp rfl .nil)) rfl [.ro (SlL eu8 none 0 ([] : List Int)), .ro (SlL eu8 none 0 ([] : List Int))] ⟨none, 0, none, 0, rfl, rfl⟩ (fun _ w => ((.k (.k (.d (.d (.d .z))))) : Keep _ _).sat (Sat.dup (G := [.ro (SlL eu8 none 0 ([] : List Int)), .ro (SlL eu8 none 0 ([] : List Int))]) rfl ⟨(.head _), (.head _), trivial⟩ w))
    · replace h := bif_f hb2 h
      refine St.skip ?_
      refine St.thenN ?_
      refine St.prune (Γ' := [(1, _), (2, _)]) ⟨rfl, rfl, trivial⟩ (.k (.k (.k (.k .z)))) ?_
      refine St.seq ?_
      refine St.region ?_
      refine St.loadB 0 rfl rfl (.tail _ (.head _)) rfl rfl ?_
      obtain ⟨r2, hr2, h⟩ := bnd_e h
      refine St.call (c_bank_copied hr2) ent44 rfl rfl rfl (fun _ w => Sat.dup (G := [.ro (SlL eu8 A1 c1 d_p0.Slots.e0.Image.Data), .ro (SlL eu8 A2 c2 d_p0.Slots.e1.Image.Data)]) rfl ⟨(.tail _ (.tail _ (.head _))), (.tail _ (.tail _ (.tail _ (.head _)))), trivial⟩ w) ?_
      rintro _ _ ⟨A3, c3, A4, c4, rfl, rfl⟩
      refine St.asrt (F' := .ro (SlL eu8 A3 c3 r2.Slots.e0.Image.Data) :: .ro (SlL eu8 A4 c4 r2.Slots.e1.Image.Data) :: .res (Box g2 35 [.string (⟨#[]⟩), .string (⟨#[]⟩), .int .i64 0, .int .i64 0, .int .i64 0, .slice none 0 0, .int .u32 0, .string (⟨#[]⟩), .int .i64 0, .int .i64 0, .int .i64 0, .slice none 0 0, .int .u32 0, .int .i64 0, .int .i64 0, .bool false]) :: .res (Box g1 35 (bx_T_Device d_p0 A1 c1 A2 c2)) :: .ro (SlL eu8 A1 c1 d_p0.Slots.e0.Image.Data) :: .ro (SlL eu8 A2 c2 d_p0.Slots.e1.Image.Data) :: R) (fun _ w => w) ?_
      refine St.alloc rfl rfl fun g3 => ?_
      refine St.store 0 rfl rfl rfl rfl rfl rfl .z rfl ?_
      refine St.done ?_
      refine St.thenN ?_
      refine St.prune (Γ' := [(2, _), (4, _)]) ⟨rfl, rfl, trivial⟩ (.k (.k (.k (.k (.d (.d (.d .z))))))) ?_
      refine St.seq ?_
      refine St.region ?_
      refine St.p rfl rfl ?_
      refine St.loadB 14 rfl rfl (.head _) rfl rfl ?_
      refine St.p rfl rfl ?_
      refine St.store 13 rfl rfl rfl rfl rfl rfl .z rfl ?_
      refine St.done ?_
      refine St.thenN ?_
      refine St.prune (Γ' := [(2, _), (4, _)]) ⟨rfl, rfl, trivial⟩ (.k (.k (.k (.k .z)))) ?_
      refine St.seq ?_
      refine St.region ?_
      refine St.loadB 0 rfl rfl (.head _) rfl rfl ?_
      refine St.store 0 rfl rfl rfl rfl rfl rfl (.s (.s (.s .z))) rfl ?_
      refine St.p rfl rfl ?_
      refine St.done ?_
      refine St.thenN ?_
      refine St.prune (Γ' := [(2, _), (3, _)]) ⟨rfl, rfl, trivial⟩ (.k (.d (.k (.k .z)))) ?_
      refine St.ret ?_
      repeat (first | refine St.thenR ?_ | refine St.blkR ?_)
      injection h with h
      subst h
      exact St.finR Try.results25 (.cell rfl (.head _) rfl (.tmp rfl .nil)) rfl [.ro (SlL eu8 A3 c3 r2.Slots.e0.Image.Data), .ro (SlL eu8 A4 c4 r2.Slots.e1.Image.Data)] ⟨A3, c3, A4, c4, rfl, rfl⟩ (fun _ w => ((.k (.k (.d (.d (.d .z))))) : Keep _ _).sat (Sat.dup (G := [.ro (SlL eu8 A3 c3 r2.Slots.e0.Image.Data), .ro (SlL eu8 A4 c4 r2.Slots.e1.Image.Data)]) rfl ⟨(.tail _ (.head _)), (.tail _ (.tail _ (.head _))), trivial⟩ w))

theorem ent26 : Ent Try.prog 26 := ⟨_, Try.func26, by kernel_rfl, by kernel_rfl⟩

noncomputable def m_ref29_Same (a_p0 : T_Device) (b_p1 : T_Device) : Option Bool :=
  bnd ((bif !(a_p0.Name.toList == b_p1.Name.toList) then (some true) else (bif (a_p0.Active != b_p1.Active) then (some true) else (bif (a_p0.Running != b_p1.Running) then (some true) else (some (!(a_p0.Trial == b_p1.Trial))))) : Option Bool)) fun o1 => bif o1 then (some false) else (bnd ((bif (a_p0.Slots.e0.Sum != b_p1.Slots.e0.Sum) then (some true) else (bnd (m_ref28_SameImage a_p0.Slots.e0.Image b_p1.Slots.e0.Image) fun r1 => some (!r1)) : Option Bool)) fun o2 => bif o2 then (some false) else (bnd ((bif (a_p0.Slots.e1.Sum != b_p1.Slots.e1.Sum) then (some true) else (bnd (m_ref28_SameImage a_p0.Slots.e1.Image b_p1.Slots.e1.Image) fun r2 => some (!r2)) : Option Bool)) fun o3 => bif o3 then (some false) else (some true)))

set_option maxHeartbeats 4000000 in
theorem c_ref29_Same {a_p0 : T_Device} {b_p1 : T_Device} {A1 : Option Addr} {c1 : Nat} {A2 : Option Addr} {c2 : Nat} {A3 : Option Addr} {c3 : Nat} {A4 : Option Addr} {c4 : Nat} {r : Bool} (h : m_ref29_Same a_p0 b_p1 = some r) :
    Fun Try.prog 26 [.agg (bx_T_Device a_p0 A1 c1 A2 c2).toArray, .agg (bx_T_Device b_p1 A3 c3 A4 c4).toArray] [.ro (SlL eu8 A1 c1 a_p0.Slots.e0.Image.Data), .ro (SlL eu8 A2 c2 a_p0.Slots.e1.Image.Data), .ro (SlL eu8 A3 c3 b_p1.Slots.e0.Image.Data), .ro (SlL eu8 A4 c4 b_p1.Slots.e1.Image.Data)] (Val (.bool r)) := by
  unfold m_ref29_Same at h
  refine Fun.intro Try.func26 rfl rfl rfl fun w R => ?_
  refine St.seq ?_
  refine St.region ?_
  refine St.box rfl rfl fun g1 => ?_
  refine St.box rfl rfl fun g2 => ?_
  refine St.p rfl rfl ?_
  refine St.done ?_
  refine St.thenN ?_
  refine St.prune (Γ' := [(2, _), (3, _)]) ⟨rfl, rfl, trivial⟩ (.k (.k (.k (.k (.k (.k .z)))))) ?_
  refine St.seq ?_
  refine St.seq ?_
  obtain ⟨o1, hj1, h⟩ := bnd_e h
  refine St.cutE (fun (e1 : Unit) => [(2, .pointer (some ⟨g1, 0, none⟩)), (3, .pointer (some ⟨g2, 0, none⟩)), (31, .bool o1)]) (fun e1 => .res (Box g2 35 (bx_T_Device b_p1 A3 c3 A4 c4)) :: .res (Box g1 35 (bx_T_Device a_p0 A1 c1 A2 c2)) :: .ro (SlL eu8 A1 c1 a_p0.Slots.e0.Image.Data) :: .ro (SlL eu8 A2 c2 a_p0.Slots.e1.Image.Data) :: .ro (SlL eu8 A3 c3 b_p1.Slots.e0.Image.Data) :: .ro (SlL eu8 A4 c4 b_p1.Slots.e1.Image.Data) :: R) ?_ ?_
  · refine St.region ?_
    refine St.p rfl rfl ?_
    refine St.loadB 0 rfl rfl (.tail _ (.head _)) rfl rfl ?_
    refine St.p rfl rfl ?_
    refine St.loadB 0 rfl rfl (.head _) rfl rfl ?_
    refine St.p rfl rfl ?_
    refine St.p rfl rfl ?_
    refine St.gSplit (dj := 11) _ rfl (fun hb1 => ?_) (fun hb1 => ?_)
    · replace hj1 := bif_t hb1 hj1
      refine St.gOff (dj := 11) rfl rfl rfl rfl ?_
      refine St.gOff (dj := 11) rfl rfl rfl rfl ?_
      refine St.gOff (dj := 11) rfl rfl rfl rfl ?_
      refine St.gOff (dj := 11) rfl rfl rfl rfl ?_
      refine St.gOff (dj := 11) rfl rfl rfl rfl ?_
      refine St.p rfl rfl ?_
      refine St.p rfl rfl ?_
      refine St.gOff (dj := 18) rfl rfl rfl rfl ?_
      refine St.gOff (dj := 18) rfl rfl rfl rfl ?_
      refine St.gOff (dj := 18) rfl rfl rfl rfl ?_
      refine St.gOff (dj := 18) rfl rfl rfl rfl ?_
      refine St.gOff (dj := 18) rfl rfl rfl rfl ?_
      refine St.p rfl rfl ?_
      refine St.p rfl rfl ?_
      refine St.gOff (dj := 25) rfl rfl rfl rfl ?_
      refine St.gOff (dj := 25) rfl rfl rfl rfl ?_
      refine St.gOff (dj := 25) rfl rfl rfl rfl ?_
      refine St.gOff (dj := 25) rfl rfl rfl rfl ?_
      refine St.gOff (dj := 25) rfl rfl rfl rfl ?_
      refine St.p rfl rfl ?_
      refine St.done ?_
      injection hj1 with hj1
      subst hj1
      refine St.thenN ?_
      exact St.hereE () ⟨rfl, rfl, rfl, trivial⟩ (fun _ w => ((.k (.k (.k (.k (.k (.k .z)))))) : Keep _ _).sat w)
    · replace hj1 := bif_f hb1 hj1
      refine St.gOn (dj := 11) rfl rfl ?_
      refine St.p rfl rfl ?_
      refine St.gOn (dj := 11) rfl rfl ?_
      refine St.loadB 13 rfl rfl (.tail _ (.head _)) rfl rfl ?_
      refine St.gOn (dj := 11) rfl rfl ?_
      refine St.p rfl rfl ?_
      refine St.gOn (dj := 11) rfl rfl ?_
      refine St.loadB 13 rfl rfl (.head _) rfl rfl ?_
      refine St.gOn (dj := 11) rfl rfl ?_
      iterate 3 refine St.p rfl rfl ?_
      refine St.gSplit (dj := 18) _ rfl (fun hb2 => ?_) (fun hb2 => ?_)
      · replace hj1 := bif_t hb2 hj1
        refine St.gOff (dj := 18) rfl rfl rfl rfl ?_
        refine St.gOff (dj := 18) rfl rfl rfl rfl ?_
        refine St.gOff (dj := 18) rfl rfl rfl rfl ?_
        refine St.gOff (dj := 18) rfl rfl rfl rfl ?_
        refine St.gOff (dj := 18) rfl rfl rfl rfl ?_
        refine St.p rfl rfl ?_
        refine St.p rfl rfl ?_
        refine St.gOff (dj := 25) rfl rfl rfl rfl ?_
        refine St.gOff (dj := 25) rfl rfl rfl rfl ?_
        refine St.gOff (dj := 25) rfl rfl rfl rfl ?_
        refine St.gOff (dj := 25) rfl rfl rfl rfl ?_
        refine St.gOff (dj := 25) rfl rfl rfl rfl ?_
        refine St.p rfl rfl ?_
        refine St.done ?_
        injection hj1 with hj1
        subst hj1
        refine St.thenN ?_
        exact St.hereE () ⟨rfl, rfl, rfl, trivial⟩ (fun _ w => ((.k (.k (.k (.k (.k (.k .z)))))) : Keep _ _).sat w)
      · replace hj1 := bif_f hb2 hj1
        refine St.gOn (dj := 18) rfl rfl ?_
        refine St.p rfl rfl ?_
        refine St.gOn (dj := 18) rfl rfl ?_
        refine St.loadB 14 rfl rfl (.tail _ (.head _)) rfl rfl ?_
        refine St.gOn (dj := 18) rfl rfl ?_
        refine St.p rfl rfl ?_
        refine St.gOn (dj := 18) rfl rfl ?_
        refine St.loadB 14 rfl rfl (.head _) rfl rfl ?_
        refine St.gOn (dj := 18) rfl rfl ?_
        iterate 3 refine St.p rfl rfl ?_
        refine St.gSplit (dj := 25) _ rfl (fun hb3 => ?_) (fun hb3 => ?_)
        · replace hj1 := bif_t hb3 hj1
          refine St.gOff (dj := 25) rfl rfl rfl rfl ?_
          refine St.gOff (dj := 25) rfl rfl rfl rfl ?_
          refine St.gOff (dj := 25) rfl rfl rfl rfl ?_
          refine St.gOff (dj := 25) rfl rfl rfl rfl ?_
          refine St.gOff (dj := 25) rfl rfl rfl rfl ?_
          refine St.p rfl rfl ?_
          refine St.done ?_
          injection hj1 with hj1
          subst hj1
          refine St.thenN ?_
          exact St.hereE () ⟨rfl, rfl, rfl, trivial⟩ (fun _ w => ((.k (.k (.k (.k (.k (.k .z)))))) : Keep _ _).sat w)
        · replace hj1 := bif_f hb3 hj1
          refine St.gOn (dj := 25) rfl rfl ?_
          refine St.p rfl rfl ?_
          refine St.gOn (dj := 25) rfl rfl ?_
          refine St.loadB 15 rfl rfl (.tail _ (.head _)) rfl rfl ?_
          refine St.gOn (dj := 25) rfl rfl ?_
          refine St.p rfl rfl ?_
          refine St.gOn (dj := 25) rfl rfl ?_
          refine St.loadB 15 rfl rfl (.head _) rfl rfl ?_
          refine St.gOn (dj := 25) rfl rfl ?_
          refine St.p rfl rfl ?_
          refine St.p rfl rfl ?_
          refine St.done ?_
          injection hj1 with hj1
          subst hj1
          refine St.thenN ?_
          exact St.hereE () ⟨rfl, rfl, rfl, trivial⟩ (fun _ w => ((.k (.k (.k (.k (.k (.k .z)))))) : Keep _ _).sat w)
  · rintro e1
    refine St.cond _ rfl (fun hb4 => ?_) (fun hb4 => ?_)
    · replace h := bif_t hb4 h
      refine St.seq ?_
      refine St.region ?_
      refine St.p rfl rfl ?_
      refine St.done ?_
      refine St.thenN ?_
      refine St.prune (Γ' := [(4, _)]) ⟨rfl, trivial⟩ (.d (.d (.d (.d (.d (.d .z)))))) ?_
      refine St.ret ?_
      repeat (first | refine St.thenR ?_ | refine St.blkR ?_)
      injection h with h
      subst h
      exact St.finR Try.results26 (.tmp rfl .nil) rfl [] ⟨rfl, rfl⟩ (fun _ w => (.z : Keep _ _).sat w)
    · replace h := bif_f hb4 h
      refine St.skip ?_
      refine St.thenN ?_
      refine St.prune (Γ' := [(2, _), (3, _)]) ⟨rfl, rfl, trivial⟩ (.k (.k (.k (.k (.k (.k .z)))))) ?_
      refine St.seq ?_
      refine St.seq ?_
      refine St.region ?_
      refine St.p rfl rfl ?_
      refine St.done ?_
      refine St.thenN ?_
      refine St.block ?_
      refine St.rounds 9 ?_
      refine St.round ?_
      refine St.seq ?_
      refine St.seq ?_
      refine St.region ?_
      refine St.p rfl rfl ?_
      refine St.p rfl rfl ?_
      refine St.done ?_
      refine St.thenN ?_
      refine St.prune (Γ' := [(2, _), (3, _), (5, _), (33, _)]) ⟨rfl, rfl, rfl, rfl, trivial⟩ (.k (.k (.k (.k (.k (.k .z)))))) ?_
      refine St.condT rfl ?_
      refine St.skip ?_
      refine St.thenN ?_
      refine St.prune (Γ' := [(2, _), (3, _), (5, _)]) ⟨rfl, rfl, rfl, trivial⟩ (.k (.k (.k (.k (.k (.k .z)))))) ?_
      refine St.seq ?_
      refine St.block ?_
      refine St.seq ?_
      obtain ⟨o2, hj2, h⟩ := bnd_e h
      refine St.cutE (fun (e2 : Unit) => [(2, .pointer (some ⟨g1, 0, none⟩)), (3, .pointer (some ⟨g2, 0, none⟩)), (5, .int .i64 0), (60, .bool o2)]) (fun e2 => .res (Box g2 35 (bx_T_Device b_p1 A3 c3 A4 c4)) :: .res (Box g1 35 (bx_T_Device a_p0 A1 c1 A2 c2)) :: .ro (SlL eu8 A1 c1 a_p0.Slots.e0.Image.Data) :: .ro (SlL eu8 A2 c2 a_p0.Slots.e1.Image.Data) :: .ro (SlL eu8 A3 c3 b_p1.Slots.e0.Image.Data) :: .ro (SlL eu8 A4 c4 b_p1.Slots.e1.Image.Data) :: R) ?_ ?_
      · refine St.regionF mixed (by kernel_rfl) ?_
        iterate 4 refine St.p rfl rfl ?_
        refine St.loadB 6 rfl rfl (.tail _ (.head _)) rfl rfl ?_
        iterate 4 refine St.p rfl rfl ?_
        refine St.loadB 6 rfl rfl (.head _) rfl rfl ?_
        refine St.p rfl rfl ?_
        refine St.p rfl rfl ?_
        refine St.gSplit (dj := 47) _ rfl (fun hb5 => ?_) (fun hb5 => ?_)
        · replace hj2 := bif_t hb5 hj2
          refine St.gOff (dj := 47) rfl rfl rfl rfl ?_
          refine St.gOff (dj := 47) rfl rfl rfl rfl ?_
          refine St.gOff (dj := 47) rfl rfl rfl rfl ?_
          refine St.gOff (dj := 47) rfl rfl rfl rfl ?_
          refine St.gOff (dj := 47) rfl rfl rfl rfl ?_
          refine St.gOff (dj := 47) rfl rfl rfl rfl ?_
          refine St.gOff (dj := 47) rfl rfl rfl rfl ?_
          refine St.gOff (dj := 47) rfl rfl rfl rfl ?_
          refine St.gOff (dj := 47) rfl rfl rfl rfl ?_
          refine St.gOff (dj := 47) rfl rfl rfl rfl ?_
          refine St.gOff (dj := 47) rfl rfl rfl rfl ?_
          refine St.gOff (dj := 47) rfl rfl rfl rfl ?_
          refine St.p rfl rfl ?_
          refine St.doneQ ?_
          injection hj2 with hj2
          subst hj2
          refine St.thenN ?_
          exact St.hereE () ⟨rfl, rfl, rfl, rfl, trivial⟩ (fun _ w => ((.k (.k (.k (.k (.k (.k .z)))))) : Keep _ _).sat w)
        · replace hj2 := bif_f hb5 hj2
          refine St.gOn (dj := 47) rfl rfl ?_
          refine St.p rfl rfl ?_
          refine St.gOn (dj := 47) rfl rfl ?_
          refine St.p rfl rfl ?_
          refine St.gOn (dj := 47) rfl rfl ?_
          refine St.p rfl rfl ?_
          refine St.gOn (dj := 47) rfl rfl ?_
          refine St.p rfl rfl ?_
          refine St.gOn (dj := 47) rfl rfl ?_
          refine St.loadB 1 rfl rfl (.tail _ (.head _)) rfl rfl ?_
          refine St.gOn (dj := 47) rfl rfl ?_
          refine St.p rfl rfl ?_
          refine St.gOn (dj := 47) rfl rfl ?_
          refine St.p rfl rfl ?_
          refine St.gOn (dj := 47) rfl rfl ?_
          refine St.p rfl rfl ?_
          refine St.gOn (dj := 47) rfl rfl ?_
          refine St.p rfl rfl ?_
          refine St.gOn (dj := 47) rfl rfl ?_
          refine St.loadB 1 rfl rfl (.head _) rfl rfl ?_
          refine St.gOn (dj := 47) rfl rfl ?_
          obtain ⟨r1, hr1, hj2⟩ := bnd_e hj2
          refine St.callV (c_ref28_SameImage hr1) ent17 rfl rfl rfl rfl ⟨(.tail _ (.tail _ (.head _))), (.tail _ (.tail _ (.tail _ (.tail _ (.head _))))), trivial⟩ ?_
          refine St.gOn (dj := 47) rfl rfl ?_
          refine St.p rfl rfl ?_
          refine St.p rfl rfl ?_
          refine St.doneQ ?_
          injection hj2 with hj2
          subst hj2
          refine St.thenN ?_
          exact St.hereE () ⟨rfl, rfl, rfl, rfl, trivial⟩ (fun _ w => ((.k (.k (.k (.k (.k (.k .z)))))) : Keep _ _).sat w)
      · rintro e2
        refine St.cond _ rfl (fun hb6 => ?_) (fun hb6 => ?_)
        · replace h := bif_t hb6 h
          refine St.seq ?_
          refine St.region ?_
          refine St.p rfl rfl ?_
          refine St.done ?_
          refine St.thenN ?_
          refine St.prune (Γ' := [(4, _)]) ⟨rfl, trivial⟩ (.d (.d (.d (.d (.d (.d .z)))))) ?_
          refine St.ret ?_
          repeat (first | refine St.thenR ?_ | refine St.blkR ?_)
          injection h with h
          subst h
          exact St.finR Try.results26 (.tmp rfl .nil) rfl [] ⟨rfl, rfl⟩ (fun _ w => (.z : Keep _ _).sat w)
        · replace h := bif_f hb6 h
          refine St.skip ?_
          refine St.blkN ?_
          refine St.thenN ?_
          refine St.prune (Γ' := [(2, _), (3, _), (5, _)]) ⟨rfl, rfl, rfl, trivial⟩ (.k (.k (.k (.k (.k (.k .z)))))) ?_
          refine St.region ?_
          iterate 3 refine St.p rfl rfl ?_
          refine St.done ?_
          refine St.thenN ?_
          refine St.round ?_
          refine St.prune (Γ' := [(2, _), (3, _), (5, _)]) ⟨rfl, rfl, rfl, trivial⟩ (.k (.k (.k (.k (.k (.k .z)))))) ?_
          refine St.seq ?_
          refine St.seq ?_
          refine St.region ?_
          refine St.p rfl rfl ?_
          refine St.p rfl rfl ?_
          refine St.done ?_
          refine St.thenN ?_
          refine St.prune (Γ' := [(2, _), (3, _), (5, _), (33, _)]) ⟨rfl, rfl, rfl, rfl, trivial⟩ (.k (.k (.k (.k (.k (.k .z)))))) ?_
          refine St.condT rfl ?_
          refine St.skip ?_
          refine St.thenN ?_
          refine St.prune (Γ' := [(2, _), (3, _), (5, _)]) ⟨rfl, rfl, rfl, trivial⟩ (.k (.k (.k (.k (.k (.k .z)))))) ?_
          refine St.seq ?_
          refine St.block ?_
          refine St.seq ?_
          obtain ⟨o3, hj3, h⟩ := bnd_e h
          refine St.cutE (fun (e3 : Unit) => [(2, .pointer (some ⟨g1, 0, none⟩)), (3, .pointer (some ⟨g2, 0, none⟩)), (5, .int .i64 1), (60, .bool o3)]) (fun e3 => .res (Box g2 35 (bx_T_Device b_p1 A3 c3 A4 c4)) :: .res (Box g1 35 (bx_T_Device a_p0 A1 c1 A2 c2)) :: .ro (SlL eu8 A1 c1 a_p0.Slots.e0.Image.Data) :: .ro (SlL eu8 A2 c2 a_p0.Slots.e1.Image.Data) :: .ro (SlL eu8 A3 c3 b_p1.Slots.e0.Image.Data) :: .ro (SlL eu8 A4 c4 b_p1.Slots.e1.Image.Data) :: R) ?_ ?_
          · refine St.regionF mixed (by kernel_rfl) ?_
            iterate 4 refine St.p rfl rfl ?_
            refine St.loadB 12 rfl rfl (.tail _ (.head _)) rfl rfl ?_
            iterate 4 refine St.p rfl rfl ?_
            refine St.loadB 12 rfl rfl (.head _) rfl rfl ?_
            refine St.p rfl rfl ?_
            refine St.p rfl rfl ?_
            refine St.gSplit (dj := 47) _ rfl (fun hb7 => ?_) (fun hb7 => ?_)
            · replace hj3 := bif_t hb7 hj3
              refine St.gOff (dj := 47) rfl rfl rfl rfl ?_
              refine St.gOff (dj := 47) rfl rfl rfl rfl ?_
              refine St.gOff (dj := 47) rfl rfl rfl rfl ?_
              refine St.gOff (dj := 47) rfl rfl rfl rfl ?_
              refine St.gOff (dj := 47) rfl rfl rfl rfl ?_
              refine St.gOff (dj := 47) rfl rfl rfl rfl ?_
              refine St.gOff (dj := 47) rfl rfl rfl rfl ?_
              refine St.gOff (dj := 47) rfl rfl rfl rfl ?_
              refine St.gOff (dj := 47) rfl rfl rfl rfl ?_
              refine St.gOff (dj := 47) rfl rfl rfl rfl ?_
              refine St.gOff (dj := 47) rfl rfl rfl rfl ?_
              refine St.gOff (dj := 47) rfl rfl rfl rfl ?_
              refine St.p rfl rfl ?_
              refine St.doneQ ?_
              injection hj3 with hj3
              subst hj3
              refine St.thenN ?_
              exact St.hereE () ⟨rfl, rfl, rfl, rfl, trivial⟩ (fun _ w => ((.k (.k (.k (.k (.k (.k .z)))))) : Keep _ _).sat w)
            · replace hj3 := bif_f hb7 hj3
              refine St.gOn (dj := 47) rfl rfl ?_
              refine St.p rfl rfl ?_
              refine St.gOn (dj := 47) rfl rfl ?_
              refine St.p rfl rfl ?_
              refine St.gOn (dj := 47) rfl rfl ?_
              refine St.p rfl rfl ?_
              refine St.gOn (dj := 47) rfl rfl ?_
              refine St.p rfl rfl ?_
              refine St.gOn (dj := 47) rfl rfl ?_
              refine St.loadB 7 rfl rfl (.tail _ (.head _)) rfl rfl ?_
              refine St.gOn (dj := 47) rfl rfl ?_
              refine St.p rfl rfl ?_
              refine St.gOn (dj := 47) rfl rfl ?_
              refine St.p rfl rfl ?_
              refine St.gOn (dj := 47) rfl rfl ?_
              refine St.p rfl rfl ?_
              refine St.gOn (dj := 47) rfl rfl ?_
              refine St.p rfl rfl ?_
              refine St.gOn (dj := 47) rfl rfl ?_
              refine St.loadB 7 rfl rfl (.head _) rfl rfl ?_
              refine St.gOn (dj := 47) rfl rfl ?_
              obtain ⟨r2, hr2, hj3⟩ := bnd_e hj3
              refine St.callV (c_ref28_SameImage hr2) ent17 rfl rfl rfl rfl ⟨(.tail _ (.tail _ (.tail _ (.head _)))), (.tail _ (.tail _ (.tail _ (.tail _ (.tail _ (.head _)))))), trivial⟩ ?_
              refine St.gOn (dj := 47) rfl rfl ?_
              refine St.p rfl rfl ?_
              refine St.p rfl rfl ?_
              refine St.doneQ ?_
              injection hj3 with hj3
              subst hj3
              refine St.thenN ?_
              exact St.hereE () ⟨rfl, rfl, rfl, rfl, trivial⟩ (fun _ w => ((.k (.k (.k (.k (.k (.k .z)))))) : Keep _ _).sat w)
          · rintro e3
            refine St.cond _ rfl (fun hb8 => ?_) (fun hb8 => ?_)
            · replace h := bif_t hb8 h
              refine St.seq ?_
              refine St.region ?_
              refine St.p rfl rfl ?_
              refine St.done ?_
              refine St.thenN ?_
              refine St.prune (Γ' := [(4, _)]) ⟨rfl, trivial⟩ (.d (.d (.d (.d (.d (.d .z)))))) ?_
              refine St.ret ?_
              repeat (first | refine St.thenR ?_ | refine St.blkR ?_)
              injection h with h
              subst h
              exact St.finR Try.results26 (.tmp rfl .nil) rfl [] ⟨rfl, rfl⟩ (fun _ w => (.z : Keep _ _).sat w)
            · replace h := bif_f hb8 h
              refine St.skip ?_
              refine St.blkN ?_
              refine St.thenN ?_
              refine St.prune (Γ' := [(2, _), (3, _), (5, _)]) ⟨rfl, rfl, rfl, trivial⟩ (.k (.k (.k (.k (.k (.k .z)))))) ?_
              refine St.region ?_
              iterate 3 refine St.p rfl rfl ?_
              refine St.done ?_
              refine St.thenN ?_
              refine St.round ?_
              refine St.prune (Γ' := [(2, _), (3, _), (5, _)]) ⟨rfl, rfl, rfl, trivial⟩ (.k (.k (.k (.k (.k (.k .z)))))) ?_
              refine St.seq ?_
              refine St.seq ?_
              refine St.region ?_
              refine St.p rfl rfl ?_
              refine St.p rfl rfl ?_
              refine St.done ?_
              refine St.thenN ?_
              refine St.prune (Γ' := [(2, _), (3, _), (5, _), (33, _)]) ⟨rfl, rfl, rfl, rfl, trivial⟩ (.k (.k (.k (.k (.k (.k .z)))))) ?_
              refine St.condF rfl ?_
              refine St.exit ?_
              repeat (first | refine St.thenX ?_ | refine St.blkMiss rfl ?_)
              refine St.blkHit ?_
              refine St.thenN ?_
              refine St.prune (Γ' := []) trivial (.d (.d (.d (.d (.d (.d .z)))))) ?_
              refine St.seq ?_
              refine St.region ?_
              refine St.p rfl rfl ?_
              refine St.done ?_
              refine St.thenN ?_
              refine St.ret ?_
              repeat (first | refine St.thenR ?_ | refine St.blkR ?_)
              injection h with h
              subst h
              exact St.finR Try.results26 (.tmp rfl .nil) rfl [] ⟨rfl, rfl⟩ (fun _ w => (.z : Keep _ _).sat w)

end Go.Proofs.Ytcjhemblnemhfaa
