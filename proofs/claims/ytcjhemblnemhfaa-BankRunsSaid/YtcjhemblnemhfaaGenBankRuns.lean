/-
  Models of functions of the program, and that the functions compute them.
  Conditions: none.
-/
import Derived.Test.YtcjhemblnemhfaaGen
namespace Go.Proofs.Ytcjhemblnemhfaa
open Go
set_option linter.unusedVariables false

theorem ent40 : Ent Try.prog 40 := ⟨_, Try.func40, by kernel_rfl, by kernel_rfl⟩

noncomputable def m_law29_step (c_p0 : T_Codes) (d_p1 : T_Device) : Option (T_Codes × T_Device) :=
  bnd (m_field_Codes_Next c_p0 5) fun r1 => bnd (m_field_Codes_Next r1.1 256) fun r2 => bnd (m_field_Codes_Next r2.1 9) fun r3 => bif (r3.2 == 0) then (bnd (m_bank_Erase d_p1) fun r4 => bif (r4.2 != 0) then (some (r3.1, d_p1)) else (some (r3.1, r4.1))) else (bif (r3.2 == 1) then (bnd (m_field_Codes_Next r3.1 3) fun r5 => bnd (m_bank_Write d_p1 (⟨d_p1.Name, (⟨IntKind.wrap .i64 (1 + r1.2), 0, 0⟩ : T_Version), [IntKind.wrap .u8 r2.2, 1]⟩ : T_Image) r5.2) fun r6 => bif (r6.2 != 0) then (some (r5.1, d_p1)) else (some (r5.1, r6.1))) else (bnd ((bif (r3.2 == 2) then (some (r3.2 == 2)) else (some (r3.2 == 3)) : Option Bool)) fun o1 => bif o1 then (bnd (m_bank_Write d_p1 (⟨d_p1.Name, (⟨IntKind.wrap .i64 (1 + r1.2), 0, 0⟩ : T_Version), [IntKind.wrap .u8 r2.2, 1]⟩ : T_Image) 2) fun r7 => bif (r7.2 == 0) then (bnd (m_bundle_Sum (⟨d_p1.Name, (⟨IntKind.wrap .i64 (1 + r1.2), 0, 0⟩ : T_Version), [IntKind.wrap .u8 r2.2, 1]⟩ : T_Image)) fun r8 => bnd (m_bank_Finish r7.1 r8) fun r9 => bif (r9.2 != 0) then (some (r3.1, d_p1)) else (some (r3.1, r9.1))) else (bif (r7.2 != 0) then (some (r3.1, d_p1)) else (some (r3.1, r7.1)))) else (bif (r3.2 == 4) then (bnd (m_bank_Switch d_p1) fun r10 => bif (r10.2 != 0) then (some (r3.1, d_p1)) else (some (r3.1, r10.1))) else (bif (r3.2 == 5) then (bnd (m_bank_Confirm d_p1) fun r11 => bif (r11.2 != 0) then (some (r3.1, d_p1)) else (some (r3.1, r11.1))) else (bif (r3.2 == 6) then (bnd (m_field_Codes_Image r3.1 (⟨#[109, 101]⟩)) fun r12 => bnd (m_field_Codes_Next r12.1 9) fun r13 => bnd (m_bank_Spoil d_p1 r12.2 (IntKind.wrap .u32 r13.2)) fun r14 => some (r13.1, r14)) else (bnd ((bif (r3.2 == 7) then (some (r3.2 == 7)) else (some (r3.2 == 8)) : Option Bool)) fun o2 => bif o2 then (bnd (m_bank_Boot d_p1) fun r15 => some (r3.1, r15)) else (some (r3.1, d_p1))))))))

set_option maxHeartbeats 4000000 in
theorem c_law29_step {c_p0 : T_Codes} {d_p1 : T_Device} {A1 : Option Addr} {c1 : Nat} {A2 : Option Addr} {c2 : Nat} {A3 : Option Addr} {c3 : Nat} {gb1 : Nat} {r : (T_Codes × T_Device)} (h : m_law29_step c_p0 d_p1 = some r) :
    Fun Try.prog 40 [.pointer (some ⟨gb1, 0, none⟩), .agg (bx_T_Device d_p1 A2 c2 A3 c3).toArray] [.ro (SlL eu8 A1 c1 c_p0.L), .ro (SlL eu8 A2 c2 d_p1.Slots.e0.Image.Data), .ro (SlL eu8 A3 c3 d_p1.Slots.e1.Image.Data), .res (Box gb1 63 [.slice A1 c_p0.L.length c1, .int .i64 c_p0.At])] (fun v_ F_ => ∃ (A1 : Option Addr) (c1 : Nat) (A2 : Option Addr) (c2 : Nat) (A3 : Option Addr) (c3 : Nat), v_ = .agg (bx_T_Device r.2 A2 c2 A3 c3).toArray ∧ F_ = [.ro (SlL eu8 A1 c1 r.1.L), .ro (SlL eu8 A2 c2 r.2.Slots.e0.Image.Data), .ro (SlL eu8 A3 c3 r.2.Slots.e1.Image.Data), .res (Box gb1 63 [.slice A1 r.1.L.length c1, .int .i64 r.1.At])]) := by
  unfold m_law29_step at h
  refine Fun.intro Try.func40 rfl rfl rfl fun w R => ?_
  refine St.seq ?_
  refine St.region ?_
  refine St.box rfl rfl fun g1 => ?_
  refine St.alloc rfl rfl fun g2 => ?_
  refine St.done ?_
  refine St.thenN ?_
  refine St.prune (Γ' := [(0, _), (3, _), (4, _)]) ⟨rfl, rfl, rfl, trivial⟩ (.k (.k (.k (.k (.k (.k .z)))))) ?_
  refine St.seq ?_
  obtain ⟨r1, hr1, h⟩ := bnd_e h
  obtain ⟨r2, hr2, h⟩ := bnd_e h
  refine St.regionX (iL [(.fl, 0), (.fl, 1), (.fl, 2), (.fl, 6)] (.alt (iL [(.ef, 3), (.fl, 4), (.fl, 5)] (.alt (iL [(.ef, 7), (.fl, 8)] (.alt (iL [(.ef, 9), (.fl, 10)] (iL [(.ef, 11)] (iL [(.ef, 12)] .nil))) (iL [(.ef, 11)] (iL [(.ef, 9), (.fl, 10)] (iL [(.ef, 12)] .nil))))) (iL [(.ef, 11)] (iL [(.ef, 7), (.fl, 8)] (iL [(.ef, 9), (.fl, 10)] (iL [(.ef, 12)] .nil)))))) (iL [(.ef, 11)] (iL [(.ef, 3), (.fl, 4), (.fl, 5)] (iL [(.ef, 7), (.fl, 8)] (iL [(.ef, 9), (.fl, 10)] (iL [(.ef, 12)] .nil))))))) (.res (Box g2 35 [.string (⟨#[]⟩), .string (⟨#[]⟩), .int .i64 0, .int .i64 0, .int .i64 0, .slice none 0 0, .int .u32 0, .string (⟨#[]⟩), .int .i64 0, .int .i64 0, .int .i64 0, .slice none 0 0, .int .u32 0, .int .i64 0, .int .i64 0, .bool false]) :: .res (Box g1 35 (bx_T_Device d_p1 A2 c2 A3 c3)) :: .ro (SlL eu8 A1 c1 c_p0.L) :: .ro (SlL eu8 A2 c2 d_p1.Slots.e0.Image.Data) :: .ro (SlL eu8 A3 c3 d_p1.Slots.e1.Image.Data) :: R) mixed (by kernel_rfl) (fun _ w => ((.k (.k (.k (.k (.k (.d .z)))))) : Keep _ _).sat w) ?_
  refine St.share (Y := ?Ynd1_0) (fun (e : Nat × Nat × Option Addr × Nat × Option Addr × Nat) => [(0, .pointer (some ⟨gb1, 0, none⟩)), (3, .pointer (some ⟨g1, 0, none⟩)), (4, .pointer (some ⟨g2, 0, none⟩)), (5, .pointer (some ⟨e.2.1, 0, none⟩)), (8, .pointer (some ⟨g1, 0, none⟩)), (9, .string d_p1.Name), (10, .pointer (some ⟨gb1, 0, none⟩)), (11, .int .i64 r1.2), (12, .int .i64 (IntKind.wrap .i64 (1 + r1.2))), (13, .agg #[.int .i64 (IntKind.wrap .i64 (1 + r1.2)), .int .i64 0, .int .i64 0]), (14, .pointer (some ⟨gb1, 0, none⟩)), (15, .int .i64 r2.2), (16, .int .u8 (IntKind.wrap .u8 r2.2)), (17, .slice (some ⟨e.1, 0, none⟩) 2 2), (18, .agg #[.string d_p1.Name, .int .i64 (IntKind.wrap .i64 (1 + r1.2)), .int .i64 0, .int .i64 0, .slice (some ⟨e.1, 0, none⟩) 2 2])]) (fun e => .res (Box e.2.1 30 [.string (⟨#[]⟩), .int .i64 0, .int .i64 0, .int .i64 0, .slice none 0 0]) :: .res (Box e.1 5 [.int .u8 (IntKind.wrap .u8 r2.2), .int .u8 1]) :: .ro (SlL eu8 e.2.2.1 e.2.2.2.1 r2.1.L) :: .res (Box gb1 63 [.slice e.2.2.1 r2.1.L.length e.2.2.2.1, .int .i64 r2.1.At]) :: .ro (SlL eu8 e.2.2.2.2.1 e.2.2.2.2.2 r1.1.L) :: .res (Box g2 35 [.string (⟨#[]⟩), .string (⟨#[]⟩), .int .i64 0, .int .i64 0, .int .i64 0, .slice none 0 0, .int .u32 0, .string (⟨#[]⟩), .int .i64 0, .int .i64 0, .int .i64 0, .slice none 0 0, .int .u32 0, .int .i64 0, .int .i64 0, .bool false]) :: .res (Box g1 35 (bx_T_Device d_p1 A2 c2 A3 c3)) :: .ro (SlL eu8 A1 c1 c_p0.L) :: .ro (SlL eu8 A2 c2 d_p1.Slots.e0.Image.Data) :: .ro (SlL eu8 A3 c3 d_p1.Slots.e1.Image.Data) :: R) (fun hnd1_0 => ?mnd1_0) ?tnd1_0
  case mnd1_0 =>
    refine St.share (Y := ?Ynd1_1) (fun (e : Nat × Option Addr × Nat × Option Addr × Nat) => [(0, .pointer (some ⟨gb1, 0, none⟩)), (3, .pointer (some ⟨g1, 0, none⟩)), (4, .pointer (some ⟨g2, 0, none⟩)), (5, .pointer (some ⟨e.1, 0, none⟩)), (8, .pointer (some ⟨g1, 0, none⟩)), (9, .string d_p1.Name), (10, .pointer (some ⟨gb1, 0, none⟩)), (11, .int .i64 r1.2), (12, .int .i64 (IntKind.wrap .i64 (1 + r1.2))), (13, .agg #[.int .i64 (IntKind.wrap .i64 (1 + r1.2)), .int .i64 0, .int .i64 0]), (14, .pointer (some ⟨gb1, 0, none⟩)), (15, .int .i64 r2.2), (16, .int .u8 (IntKind.wrap .u8 r2.2))]) (fun e => .res (Box e.1 30 [.string (⟨#[]⟩), .int .i64 0, .int .i64 0, .int .i64 0, .slice none 0 0]) :: .ro (SlL eu8 e.2.1 e.2.2.1 r2.1.L) :: .res (Box gb1 63 [.slice e.2.1 r2.1.L.length e.2.2.1, .int .i64 r2.1.At]) :: .ro (SlL eu8 e.2.2.2.1 e.2.2.2.2 r1.1.L) :: .res (Box g2 35 [.string (⟨#[]⟩), .string (⟨#[]⟩), .int .i64 0, .int .i64 0, .int .i64 0, .slice none 0 0, .int .u32 0, .string (⟨#[]⟩), .int .i64 0, .int .i64 0, .int .i64 0, .slice none 0 0, .int .u32 0, .int .i64 0, .int .i64 0, .bool false]) :: .res (Box g1 35 (bx_T_Device d_p1 A2 c2 A3 c3)) :: .ro (SlL eu8 A1 c1 c_p0.L) :: .ro (SlL eu8 A2 c2 d_p1.Slots.e0.Image.Data) :: .ro (SlL eu8 A3 c3 d_p1.Slots.e1.Image.Data) :: R) (fun hnd1_1 => ?mnd1_1) ?tnd1_1
    case mnd1_1 =>
      refine St.share (Y := ?Ynd1_2) (fun (e : Nat × Option Addr × Nat) => [(0, .pointer (some ⟨gb1, 0, none⟩)), (3, .pointer (some ⟨g1, 0, none⟩)), (4, .pointer (some ⟨g2, 0, none⟩)), (5, .pointer (some ⟨e.1, 0, none⟩)), (8, .pointer (some ⟨g1, 0, none⟩)), (9, .string d_p1.Name), (10, .pointer (some ⟨gb1, 0, none⟩)), (11, .int .i64 r1.2), (12, .int .i64 (IntKind.wrap .i64 (1 + r1.2))), (13, .agg #[.int .i64 (IntKind.wrap .i64 (1 + r1.2)), .int .i64 0, .int .i64 0]), (14, .pointer (some ⟨gb1, 0, none⟩))]) (fun e => .res (Box e.1 30 [.string (⟨#[]⟩), .int .i64 0, .int .i64 0, .int .i64 0, .slice none 0 0]) :: .ro (SlL eu8 e.2.1 e.2.2 r1.1.L) :: .res (Box gb1 63 [.slice e.2.1 r1.1.L.length e.2.2, .int .i64 r1.1.At]) :: .res (Box g2 35 [.string (⟨#[]⟩), .string (⟨#[]⟩), .int .i64 0, .int .i64 0, .int .i64 0, .slice none 0 0, .int .u32 0, .string (⟨#[]⟩), .int .i64 0, .int .i64 0, .int .i64 0, .slice none 0 0, .int .u32 0, .int .i64 0, .int .i64 0, .bool false]) :: .res (Box g1 35 (bx_T_Device d_p1 A2 c2 A3 c3)) :: .ro (SlL eu8 A1 c1 c_p0.L) :: .ro (SlL eu8 A2 c2 d_p1.Slots.e0.Image.Data) :: .ro (SlL eu8 A3 c3 d_p1.Slots.e1.Image.Data) :: R) (fun hnd1_2 => ?mnd1_2) ?tnd1_2
      case mnd1_2 =>
        refine St.xfl (fun _ h => h) (Rd.p rfl) rfl ?_
        refine St.xfl (fun _ h => h) (Rd.loadB 0 rfl (.tail _ (.head _)) rfl rfl) rfl ?_
        refine St.xfl (fun _ h => h) (Rd.p rfl) rfl ?_
        refine St.xfl (fun _ h => h) (Rd.p rfl) rfl ?_
        refine St.xalt ?_ ?_
        · refine St.xef ?_
          refine St.call (c_field_Codes_Next hr1) ent23 rfl rfl rfl (fun _ w => Sat.dup (G := [.ro (SlL eu8 A1 c1 c_p0.L)]) rfl ⟨(.tail _ (.tail _ (.tail _ (.head _)))), trivial⟩ (w.front (.s (.s (.s (.s (.s .z))))))) ?_
          rintro _ _ ⟨A4, c4, rfl, rfl⟩
          refine St.asrt (F' := .ro (SlL eu8 A4 c4 r1.1.L) :: .res (Box gb1 63 [.slice A4 r1.1.L.length c4, .int .i64 r1.1.At]) :: .res (Box g2 35 [.string (⟨#[]⟩), .string (⟨#[]⟩), .int .i64 0, .int .i64 0, .int .i64 0, .slice none 0 0, .int .u32 0, .string (⟨#[]⟩), .int .i64 0, .int .i64 0, .int .i64 0, .slice none 0 0, .int .u32 0, .int .i64 0, .int .i64 0, .bool false]) :: .res (Box g1 35 (bx_T_Device d_p1 A2 c2 A3 c3)) :: .ro (SlL eu8 A1 c1 c_p0.L) :: .ro (SlL eu8 A2 c2 d_p1.Slots.e0.Image.Data) :: .ro (SlL eu8 A3 c3 d_p1.Slots.e1.Image.Data) :: R) (fun _ w => w) ?_
          refine St.xk (fun _ w => ((.d (.d (.k (.k (.k (.k (.k .z))))))) : Keep _ _).sat w) ?_
          refine St.xfl (fun _ h => h) (Rd.p rfl) rfl ?_
          refine St.xfl (fun _ h => h) (Rd.p rfl) rfl ?_
          refine St.xalt ?_ ?_
          · refine St.xef ?_
            refine St.call (c_field_Codes_Next hr2) ent23 rfl rfl rfl (fun _ w => Sat.dup (G := [.ro (SlL eu8 A4 c4 r1.1.L)]) rfl ⟨(.tail _ (.head _)), trivial⟩ (w.front (.s .z))) ?_
            rintro _ _ ⟨A5, c5, rfl, rfl⟩
            refine St.asrt (F' := .ro (SlL eu8 A5 c5 r2.1.L) :: .res (Box gb1 63 [.slice A5 r2.1.L.length c5, .int .i64 r2.1.At]) :: .ro (SlL eu8 A4 c4 r1.1.L) :: .res (Box g2 35 [.string (⟨#[]⟩), .string (⟨#[]⟩), .int .i64 0, .int .i64 0, .int .i64 0, .slice none 0 0, .int .u32 0, .string (⟨#[]⟩), .int .i64 0, .int .i64 0, .int .i64 0, .slice none 0 0, .int .u32 0, .int .i64 0, .int .i64 0, .bool false]) :: .res (Box g1 35 (bx_T_Device d_p1 A2 c2 A3 c3)) :: .ro (SlL eu8 A1 c1 c_p0.L) :: .ro (SlL eu8 A2 c2 d_p1.Slots.e0.Image.Data) :: .ro (SlL eu8 A3 c3 d_p1.Slots.e1.Image.Data) :: R) (fun _ w => w) ?_
            refine St.xk (fun _ w => ((.d (.d (.d (.k (.k (.k (.k (.k .z)))))))) : Keep _ _).sat w) ?_
            refine St.xfl (fun _ h => h) (Rd.p rfl) rfl ?_
            refine St.xalt ?_ ?_
            · refine St.xef ?_
              refine St.buildSlice rfl rfl rfl rfl rfl rfl rfl rfl fun g3 => ?_
              refine St.xk (fun _ w => ((.d (.d (.d (.d (.k (.k (.k (.k (.k .z))))))))) : Keep _ _).sat w) ?_
              refine St.xfl (fun _ h => h) (Rd.p rfl) rfl ?_
              refine St.xef ?_
              refine St.alloc rfl rfl fun g4 => ?_
              refine St.xk (fun _ w => ((.d (.d (.d (.d (.d (.k (.k (.k (.k (.k .z)))))))))) : Keep _ _).sat w) ?_
              refine hnd1_0 _ _ (g3, g4, A5, c5, A4, c4) ?_ ?_
              · exact ⟨rfl, rfl, rfl, rfl, rfl, rfl, rfl, rfl, rfl, rfl, rfl, rfl, rfl, rfl, rfl, trivial⟩
              · exact fun _ w => ((.k (.k (.k (.k (.k (.k (.k (.k (.k (.k .z)))))))))) : Keep _ _).sat w
            · refine St.xef ?_
              refine St.alloc rfl rfl fun g4 => ?_
              refine St.xk (fun _ w => ((.d (.d (.d (.d (.k (.k (.k (.k (.k .z))))))))) : Keep _ _).sat w) ?_
              refine hnd1_1 _ _ (g4, A5, c5, A4, c4) ?_ ?_
              · exact ⟨rfl, rfl, rfl, rfl, rfl, rfl, rfl, rfl, rfl, rfl, rfl, rfl, rfl, trivial⟩
              · exact fun _ w => ((.k (.k (.k (.k (.k (.k (.k (.k (.k .z))))))))) : Keep _ _).sat w
          · refine St.xef ?_
            refine St.alloc rfl rfl fun g4 => ?_
            refine St.xk (fun _ w => ((.d (.d (.d (.k (.k (.k (.k (.k .z)))))))) : Keep _ _).sat w) ?_
            refine hnd1_2 _ _ (g4, A4, c4) ?_ ?_
            · exact ⟨rfl, rfl, rfl, rfl, rfl, rfl, rfl, rfl, rfl, rfl, rfl, trivial⟩
            · exact fun _ w => ((.k (.k (.k (.k (.k (.k (.k (.k .z)))))))) : Keep _ _).sat w
        · refine St.xef ?_
          refine St.alloc rfl rfl fun g4 => ?_
          refine St.xk (fun _ w => ((.d (.k (.k (.k (.k (.k (.d .z))))))) : Keep _ _).sat w) ?_
          refine St.xef ?_
          refine St.call (c_field_Codes_Next hr1) ent23 rfl rfl rfl (fun _ w => Sat.dup (G := [.ro (SlL eu8 A1 c1 c_p0.L)]) rfl ⟨(.tail _ (.tail _ (.tail _ (.tail _ (.head _))))), trivial⟩ (w.front (.s (.s (.s (.s (.s (.s .z)))))))) ?_
          rintro _ _ ⟨A4, c4, rfl, rfl⟩
          refine St.asrt (F' := .ro (SlL eu8 A4 c4 r1.1.L) :: .res (Box gb1 63 [.slice A4 r1.1.L.length c4, .int .i64 r1.1.At]) :: .res (Box g4 30 [.string (⟨#[]⟩), .int .i64 0, .int .i64 0, .int .i64 0, .slice none 0 0]) :: .res (Box g2 35 [.string (⟨#[]⟩), .string (⟨#[]⟩), .int .i64 0, .int .i64 0, .int .i64 0, .slice none 0 0, .int .u32 0, .string (⟨#[]⟩), .int .i64 0, .int .i64 0, .int .i64 0, .slice none 0 0, .int .u32 0, .int .i64 0, .int .i64 0, .bool false]) :: .res (Box g1 35 (bx_T_Device d_p1 A2 c2 A3 c3)) :: .ro (SlL eu8 A1 c1 c_p0.L) :: .ro (SlL eu8 A2 c2 d_p1.Slots.e0.Image.Data) :: .ro (SlL eu8 A3 c3 d_p1.Slots.e1.Image.Data) :: R) (fun _ w => w) ?_
          refine St.xk (fun _ w => ((.d (.d (.d (.k (.k (.k (.k (.k .z)))))))) : Keep _ _).sat w) ?_
          refine St.xfl (fun _ h => h) (Rd.p rfl) rfl ?_
          refine St.xfl (fun _ h => h) (Rd.p rfl) rfl ?_
          refine hnd1_2 _ _ (g4, A4, c4) ?_ ?_
          · exact ⟨rfl, rfl, rfl, rfl, rfl, rfl, rfl, rfl, rfl, rfl, rfl, trivial⟩
          · exact fun _ w => ((.k (.k (.k (.k (.k (.k (.k (.k .z)))))))) : Keep _ _).sat ((((((((w.front (.s (.s (.s (.s (.s (.s (.s .z)))))))).front (.s (.s (.s (.s (.s (.s (.s .z)))))))).front (.s (.s (.s (.s (.s (.s (.s .z)))))))).front (.s (.s (.s (.s (.s (.s (.s .z)))))))).front (.s (.s (.s (.s (.s (.s (.s .z)))))))).front (.s (.s (.s (.s (.s (.s .z))))))).front (.s (.s (.s (.s (.s (.s .z))))))).front (.s (.s (.s (.s (.s (.s (.s .z))))))))
      case tnd1_2 =>
        rintro ⟨g4, A4, c4⟩
        refine St.asrt (F' := .res (Box g4 30 [.string (⟨#[]⟩), .int .i64 0, .int .i64 0, .int .i64 0, .slice none 0 0]) :: .ro (SlL eu8 A4 c4 r1.1.L) :: .res (Box gb1 63 [.slice A4 r1.1.L.length c4, .int .i64 r1.1.At]) :: .res (Box g2 35 [.string (⟨#[]⟩), .string (⟨#[]⟩), .int .i64 0, .int .i64 0, .int .i64 0, .slice none 0 0, .int .u32 0, .string (⟨#[]⟩), .int .i64 0, .int .i64 0, .int .i64 0, .slice none 0 0, .int .u32 0, .int .i64 0, .int .i64 0, .bool false]) :: .res (Box g1 35 (bx_T_Device d_p1 A2 c2 A3 c3)) :: .ro (SlL eu8 A1 c1 c_p0.L) :: .ro (SlL eu8 A2 c2 d_p1.Slots.e0.Image.Data) :: .ro (SlL eu8 A3 c3 d_p1.Slots.e1.Image.Data) :: R) (fun _ w => w) ?_
        refine St.xef ?_
        refine St.call (c_field_Codes_Next hr2) ent23 rfl rfl rfl (fun _ w => Sat.dup (G := [.ro (SlL eu8 A4 c4 r1.1.L)]) rfl ⟨(.tail _ (.tail _ (.head _))), trivial⟩ (w.front (.s (.s .z)))) ?_
        rintro _ _ ⟨A5, c5, rfl, rfl⟩
        refine St.asrt (F' := .ro (SlL eu8 A5 c5 r2.1.L) :: .res (Box gb1 63 [.slice A5 r2.1.L.length c5, .int .i64 r2.1.At]) :: .res (Box g4 30 [.string (⟨#[]⟩), .int .i64 0, .int .i64 0, .int .i64 0, .slice none 0 0]) :: .ro (SlL eu8 A4 c4 r1.1.L) :: .res (Box g2 35 [.string (⟨#[]⟩), .string (⟨#[]⟩), .int .i64 0, .int .i64 0, .int .i64 0, .slice none 0 0, .int .u32 0, .string (⟨#[]⟩), .int .i64 0, .int .i64 0, .int .i64 0, .slice none 0 0, .int .u32 0, .int .i64 0, .int .i64 0, .bool false]) :: .res (Box g1 35 (bx_T_Device d_p1 A2 c2 A3 c3)) :: .ro (SlL eu8 A1 c1 c_p0.L) :: .ro (SlL eu8 A2 c2 d_p1.Slots.e0.Image.Data) :: .ro (SlL eu8 A3 c3 d_p1.Slots.e1.Image.Data) :: R) (fun _ w => w) ?_
        refine St.xk (fun _ w => ((.d (.d (.d (.d (.k (.k (.k (.k (.k .z))))))))) : Keep _ _).sat w) ?_
        refine St.xfl (fun _ h => h) (Rd.p rfl) rfl ?_
        refine hnd1_1 _ _ (g4, A5, c5, A4, c4) ?_ ?_
        · exact ⟨rfl, rfl, rfl, rfl, rfl, rfl, rfl, rfl, rfl, rfl, rfl, rfl, rfl, trivial⟩
        · exact fun _ w => ((.k (.k (.k (.k (.k (.k (.k (.k (.k .z))))))))) : Keep _ _).sat (((((((((w.front (.s (.s (.s (.s (.s (.s (.s (.s .z))))))))).front (.s (.s (.s (.s (.s (.s (.s (.s .z))))))))).front (.s (.s (.s (.s (.s (.s (.s (.s .z))))))))).front (.s (.s (.s (.s (.s (.s (.s (.s .z))))))))).front (.s (.s (.s (.s (.s (.s (.s (.s .z))))))))).front (.s (.s (.s (.s (.s (.s (.s (.s .z))))))))).front (.s (.s (.s (.s (.s (.s (.s .z)))))))).front (.s (.s (.s (.s (.s (.s (.s .z)))))))).front (.s (.s (.s (.s (.s (.s (.s (.s .z)))))))))
    case tnd1_1 =>
      rintro ⟨g4, A5, c5, A4, c4⟩
      refine St.asrt (F' := .res (Box g4 30 [.string (⟨#[]⟩), .int .i64 0, .int .i64 0, .int .i64 0, .slice none 0 0]) :: .ro (SlL eu8 A5 c5 r2.1.L) :: .res (Box gb1 63 [.slice A5 r2.1.L.length c5, .int .i64 r2.1.At]) :: .ro (SlL eu8 A4 c4 r1.1.L) :: .res (Box g2 35 [.string (⟨#[]⟩), .string (⟨#[]⟩), .int .i64 0, .int .i64 0, .int .i64 0, .slice none 0 0, .int .u32 0, .string (⟨#[]⟩), .int .i64 0, .int .i64 0, .int .i64 0, .slice none 0 0, .int .u32 0, .int .i64 0, .int .i64 0, .bool false]) :: .res (Box g1 35 (bx_T_Device d_p1 A2 c2 A3 c3)) :: .ro (SlL eu8 A1 c1 c_p0.L) :: .ro (SlL eu8 A2 c2 d_p1.Slots.e0.Image.Data) :: .ro (SlL eu8 A3 c3 d_p1.Slots.e1.Image.Data) :: R) (fun _ w => w) ?_
      refine St.xef ?_
      refine St.buildSlice rfl rfl rfl rfl rfl rfl rfl rfl fun g3 => ?_
      refine St.xk (fun _ w => ((.d (.d (.d (.d (.d (.k (.k (.k (.k (.k .z)))))))))) : Keep _ _).sat w) ?_
      refine St.xfl (fun _ h => h) (Rd.p rfl) rfl ?_
      refine hnd1_0 _ _ (g3, g4, A5, c5, A4, c4) ?_ ?_
      · exact ⟨rfl, rfl, rfl, rfl, rfl, rfl, rfl, rfl, rfl, rfl, rfl, rfl, rfl, rfl, rfl, trivial⟩
      · exact fun _ w => ((.k (.k (.k (.k (.k (.k (.k (.k (.k (.k .z)))))))))) : Keep _ _).sat ((((((((((w.front (.s (.s (.s (.s (.s (.s (.s (.s (.s .z)))))))))).front (.s (.s (.s (.s (.s (.s (.s (.s (.s .z)))))))))).front (.s (.s (.s (.s (.s (.s (.s (.s (.s .z)))))))))).front (.s (.s (.s (.s (.s (.s (.s (.s (.s .z)))))))))).front (.s (.s (.s (.s (.s (.s (.s (.s (.s .z)))))))))).front (.s (.s (.s (.s (.s (.s (.s (.s (.s .z)))))))))).front (.s (.s (.s (.s (.s (.s (.s (.s (.s .z)))))))))).front (.s (.s (.s (.s (.s (.s (.s (.s (.s .z)))))))))).front (.s (.s (.s (.s (.s (.s (.s (.s .z))))))))).front (.s (.s (.s (.s (.s (.s (.s (.s (.s .z))))))))))
  case tnd1_0 =>
    rintro ⟨g3, g4, A5, c5, A4, c4⟩
    refine St.asrt (F' := .res (Box g4 30 [.string (⟨#[]⟩), .int .i64 0, .int .i64 0, .int .i64 0, .slice none 0 0]) :: .res (Box g3 5 [.int .u8 (IntKind.wrap .u8 r2.2), .int .u8 1]) :: .ro (SlL eu8 A5 c5 r2.1.L) :: .res (Box gb1 63 [.slice A5 r2.1.L.length c5, .int .i64 r2.1.At]) :: .ro (SlL eu8 A4 c4 r1.1.L) :: .res (Box g2 35 [.string (⟨#[]⟩), .string (⟨#[]⟩), .int .i64 0, .int .i64 0, .int .i64 0, .slice none 0 0, .int .u32 0, .string (⟨#[]⟩), .int .i64 0, .int .i64 0, .int .i64 0, .slice none 0 0, .int .u32 0, .int .i64 0, .int .i64 0, .bool false]) :: .res (Box g1 35 (bx_T_Device d_p1 A2 c2 A3 c3)) :: .ro (SlL eu8 A1 c1 c_p0.L) :: .ro (SlL eu8 A2 c2 d_p1.Slots.e0.Image.Data) :: .ro (SlL eu8 A3 c3 d_p1.Slots.e1.Image.Data) :: R) (fun _ w => w) ?_
    refine St.xef ?_
    refine St.store 0 rfl rfl rfl rfl rfl rfl .z rfl ?_
    refine St.xk (fun _ w => ((.d (.d (.d (.d (.d (.k (.k (.k (.k (.k .z)))))))))) : Keep _ _).sat w) ?_
    refine St.xdone ?_
    refine St.thenN ?_
    refine St.prune (Γ' := [(0, _), (3, _), (4, _), (5, _)]) ⟨rfl, rfl, rfl, rfl, trivial⟩ (.k (.k (.k (.k (.d (.k (.k (.d (.k (.k .z)))))))))) ?_
    refine St.seq ?_
    refine St.region ?_
    refine St.loadB 0 rfl rfl (.tail _ (.tail _ (.tail _ (.tail _ (.tail _ (.head _)))))) rfl rfl ?_
    refine St.alloc rfl rfl fun g5 => ?_
    refine St.store 0 rfl rfl rfl rfl rfl rfl .z rfl ?_
    refine St.p rfl rfl ?_
    refine St.done ?_
    refine St.thenN ?_
    refine St.prune (Γ' := [(0, _), (3, _), (4, _), (5, _), (6, _), (7, _)]) ⟨rfl, rfl, rfl, rfl, rfl, rfl, trivial⟩ (.k (.k (.k (.k (.k (.k (.k (.k (.k .z))))))))) ?_
    refine St.seq ?_
    refine St.seq ?_
    refine St.region ?_
    refine St.p rfl rfl ?_
    obtain ⟨r3, hr3, h⟩ := bnd_e h
    refine St.call (c_field_Codes_Next hr3) ent23 rfl rfl rfl (fun _ w => Sat.dup (G := [.ro (SlL eu8 A5 c5 r2.1.L)]) rfl ⟨(.tail _ (.tail _ (.tail _ (.tail _ (.head _))))), trivial⟩ (w.front (.s (.s (.s (.s .z)))))) ?_
    rintro _ _ ⟨A6, c6, rfl, rfl⟩
    refine St.asrt (F' := .ro (SlL eu8 A6 c6 r3.1.L) :: .res (Box gb1 63 [.slice A6 r3.1.L.length c6, .int .i64 r3.1.At]) :: .res (Box g5 35 (bx_T_Device d_p1 A2 c2 A3 c3)) :: .res (Box g4 30 [.string d_p1.Name, .int .i64 (IntKind.wrap .i64 (1 + r1.2)), .int .i64 0, .int .i64 0, .slice (some ⟨g3, 0, none⟩) 2 2]) :: .res (Box g3 5 [.int .u8 (IntKind.wrap .u8 r2.2), .int .u8 1]) :: .ro (SlL eu8 A5 c5 r2.1.L) :: .res (Box g2 35 [.string (⟨#[]⟩), .string (⟨#[]⟩), .int .i64 0, .int .i64 0, .int .i64 0, .slice none 0 0, .int .u32 0, .string (⟨#[]⟩), .int .i64 0, .int .i64 0, .int .i64 0, .slice none 0 0, .int .u32 0, .int .i64 0, .int .i64 0, .bool false]) :: .res (Box g1 35 (bx_T_Device d_p1 A2 c2 A3 c3)) :: .ro (SlL eu8 A2 c2 d_p1.Slots.e0.Image.Data) :: .ro (SlL eu8 A3 c3 d_p1.Slots.e1.Image.Data) :: R) (fun _ w => w) ?_
    refine St.done ?_
    refine St.thenN ?_
    refine St.prune (Γ' := [(0, _), (3, _), (4, _), (5, _), (6, _), (7, _), (21, _)]) ⟨rfl, rfl, rfl, rfl, rfl, rfl, rfl, trivial⟩ (.k (.k (.k (.k (.k (.d (.k (.k (.k (.k .z)))))))))) ?_
    refine St.block ?_
    refine St.seq ?_
    refine St.region ?_
    refine St.p rfl rfl ?_
    refine St.p rfl rfl ?_
    refine St.done ?_
    refine St.thenN ?_
    refine St.prune (Γ' := [(0, _), (3, _), (4, _), (5, _), (6, _), (7, _), (21, _), (22, _)]) ⟨rfl, rfl, rfl, rfl, rfl, rfl, rfl, rfl, trivial⟩ (.k (.k (.k (.k (.k (.k (.k (.k (.k .z))))))))) ?_
    refine St.cond _ rfl (fun hb1 => ?_) (fun hb1 => ?_)
    · replace h := bif_t hb1 h
      refine St.region ?_
      refine St.loadB 0 rfl rfl (.tail _ (.tail _ (.tail _ (.tail _ (.tail _ (.tail _ (.head _))))))) rfl rfl ?_
      obtain ⟨r4, hr4, h⟩ := bnd_e h
      refine St.call (c_bank_Erase hr4) ent19 rfl rfl rfl (fun _ w => Sat.dup (G := [.ro (SlL eu8 A2 c2 d_p1.Slots.e0.Image.Data), .ro (SlL eu8 A3 c3 d_p1.Slots.e1.Image.Data)]) rfl ⟨(.tail _ (.tail _ (.tail _ (.tail _ (.tail _ (.tail _ (.tail _ (.head _)))))))), (.tail _ (.tail _ (.tail _ (.tail _ (.tail _ (.tail _ (.tail _ (.tail _ (.head _))))))))), trivial⟩ w) ?_
      rintro _ _ ⟨A7, c7, A8, c8, rfl, rfl⟩
      refine St.asrt (F' := .ro (SlL eu8 A7 c7 r4.1.Slots.e0.Image.Data) :: .ro (SlL eu8 A8 c8 r4.1.Slots.e1.Image.Data) :: .ro (SlL eu8 A6 c6 r3.1.L) :: .res (Box gb1 63 [.slice A6 r3.1.L.length c6, .int .i64 r3.1.At]) :: .res (Box g5 35 (bx_T_Device d_p1 A2 c2 A3 c3)) :: .res (Box g4 30 [.string d_p1.Name, .int .i64 (IntKind.wrap .i64 (1 + r1.2)), .int .i64 0, .int .i64 0, .slice (some ⟨g3, 0, none⟩) 2 2]) :: .res (Box g3 5 [.int .u8 (IntKind.wrap .u8 r2.2), .int .u8 1]) :: .res (Box g2 35 [.string (⟨#[]⟩), .string (⟨#[]⟩), .int .i64 0, .int .i64 0, .int .i64 0, .slice none 0 0, .int .u32 0, .string (⟨#[]⟩), .int .i64 0, .int .i64 0, .int .i64 0, .slice none 0 0, .int .u32 0, .int .i64 0, .int .i64 0, .bool false]) :: .res (Box g1 35 (bx_T_Device d_p1 A2 c2 A3 c3)) :: .ro (SlL eu8 A2 c2 d_p1.Slots.e0.Image.Data) :: .ro (SlL eu8 A3 c3 d_p1.Slots.e1.Image.Data) :: R) (fun _ w => w) ?_
      iterate 3 refine St.p rfl rfl ?_
      refine St.store 0 rfl rfl rfl rfl rfl rfl (.s (.s (.s (.s .z)))) rfl ?_
      refine St.p rfl rfl ?_
      refine St.done ?_
      refine St.blkN ?_
      refine St.thenN ?_
      refine St.prune (Γ' := [(3, _), (4, _), (6, _), (7, _)]) ⟨rfl, rfl, rfl, rfl, trivial⟩ (.k (.k (.k (.k (.k (.d (.d (.k (.k (.k (.k .z))))))))))) ?_
      refine St.seq ?_
      refine St.seq ?_
      refine St.region ?_
      refine St.p rfl rfl ?_
      refine St.p rfl rfl ?_
      refine St.done ?_
      refine St.thenN ?_
      refine St.prune (Γ' := [(3, _), (4, _), (6, _), (86, _)]) ⟨rfl, rfl, rfl, rfl, trivial⟩ (.k (.k (.k (.k (.k (.k (.k (.k (.k .z))))))))) ?_
      refine St.cond _ rfl (fun hb2 => ?_) (fun hb2 => ?_)
      · replace h := bif_t hb2 h
        refine St.seq ?_
        refine St.region ?_
        refine St.loadB 0 rfl rfl (.tail _ (.tail _ (.tail _ (.tail _ (.tail _ (.tail _ (.head _))))))) rfl rfl ?_
        refine St.store 0 rfl rfl rfl rfl rfl rfl (.s (.s (.s (.s (.s .z))))) rfl ?_
        refine St.done ?_
        refine St.thenN ?_
        refine St.prune (Γ' := [(4, _)]) ⟨rfl, trivial⟩ (.k (.d (.d (.d (.k (.k (.d (.k (.k .z))))))))) ?_
        refine St.ret ?_
        repeat (first | refine St.thenR ?_ | refine St.blkR ?_)
        injection h with h
        subst h
        exact St.finR Try.results40 (.cell rfl (.head _) rfl .nil) rfl [.ro (SlL eu8 A6 c6 r3.1.L), .ro (SlL eu8 A2 c2 d_p1.Slots.e0.Image.Data), .ro (SlL eu8 A3 c3 d_p1.Slots.e1.Image.Data), .res (Box gb1 63 [.slice A6 r3.1.L.length c6, .int .i64 r3.1.At])] ⟨A6, c6, A2, c2, A3, c3, rfl, rfl⟩ (fun _ w => ((.k (.k (.k (.k (.d (.d (.d (.d .z)))))))) : Keep _ _).sat (Sat.dup (G := [.ro (SlL eu8 A6 c6 r3.1.L), .ro (SlL eu8 A2 c2 d_p1.Slots.e0.Image.Data), .ro (SlL eu8 A3 c3 d_p1.Slots.e1.Image.Data)]) rfl ⟨(.tail _ (.tail _ (.head _))), (.tail _ (.tail _ (.tail _ (.head _)))), (.tail _ (.tail _ (.tail _ (.tail _ (.head _))))), trivial⟩ (w.front (.s (.s .z)))))
      · replace h := bif_f hb2 h
        refine St.skip ?_
        refine St.thenN ?_
        refine St.prune (Γ' := [(4, _), (6, _)]) ⟨rfl, rfl, trivial⟩ (.k (.k (.k (.k (.k (.k (.d (.d (.d .z))))))))) ?_
        refine St.seq ?_
        refine St.region ?_
        refine St.loadB 0 rfl rfl (.head _) rfl rfl ?_
        refine St.store 0 rfl rfl rfl rfl rfl rfl (.s (.s (.s (.s (.s .z))))) rfl ?_
        refine St.done ?_
        refine St.thenN ?_
        refine St.prune (Γ' := [(4, _)]) ⟨rfl, trivial⟩ (.k (.d (.k (.k (.k (.k .z)))))) ?_
        refine St.ret ?_
        repeat (first | refine St.thenR ?_ | refine St.blkR ?_)
        injection h with h
        subst h
        exact St.finR Try.results40 (.cell rfl (.head _) rfl .nil) rfl [.ro (SlL eu8 A6 c6 r3.1.L), .ro (SlL eu8 A7 c7 r4.1.Slots.e0.Image.Data), .ro (SlL eu8 A8 c8 r4.1.Slots.e1.Image.Data), .res (Box gb1 63 [.slice A6 r3.1.L.length c6, .int .i64 r3.1.At])] ⟨A6, c6, A7, c7, A8, c8, rfl, rfl⟩ (fun _ w => ((.k (.k (.k (.k (.d (.d (.d (.d .z)))))))) : Keep _ _).sat (Sat.dup (G := [.ro (SlL eu8 A6 c6 r3.1.L), .ro (SlL eu8 A7 c7 r4.1.Slots.e0.Image.Data), .ro (SlL eu8 A8 c8 r4.1.Slots.e1.Image.Data)]) rfl ⟨(.tail _ (.tail _ (.tail _ (.tail _ (.head _))))), (.tail _ (.tail _ (.head _))), (.tail _ (.tail _ (.tail _ (.head _)))), trivial⟩ (w.front (.s (.s (.s (.s .z)))))))
    · replace h := bif_f hb1 h
      refine St.seq ?_
      refine St.region ?_
      refine St.p rfl rfl ?_
      refine St.p rfl rfl ?_
      refine St.done ?_
      refine St.thenN ?_
      refine St.prune (Γ' := [(0, _), (3, _), (4, _), (5, _), (6, _), (7, _), (21, _), (29, _)]) ⟨rfl, rfl, rfl, rfl, rfl, rfl, rfl, rfl, trivial⟩ (.k (.k (.k (.k (.k (.k (.k (.k (.k .z))))))))) ?_
      refine St.cond _ rfl (fun hb3 => ?_) (fun hb3 => ?_)
      · replace h := bif_t hb3 h
        obtain ⟨r5, hr5, h⟩ := bnd_e h
        obtain ⟨r6, hr6, h⟩ := bnd_e h
        refine St.regionX (iL [(.fl, 0), (.fl, 2)] (.alt (iL [(.ef, 1)] (iL [(.ef, 3)] (iL [(.ef, 4), (.fl, 5), (.fl, 6), (.fl, 7)] (iL [(.ef, 8), (.fl, 9)] .nil)))) (iL [(.ef, 3)] (iL [(.ef, 1)] (iL [(.ef, 4), (.fl, 5), (.fl, 6), (.fl, 7)] (iL [(.ef, 8), (.fl, 9)] .nil)))))) (.ro (SlL eu8 A6 c6 r3.1.L) :: .res (Box g2 35 [.string (⟨#[]⟩), .string (⟨#[]⟩), .int .i64 0, .int .i64 0, .int .i64 0, .slice none 0 0, .int .u32 0, .string (⟨#[]⟩), .int .i64 0, .int .i64 0, .int .i64 0, .slice none 0 0, .int .u32 0, .int .i64 0, .int .i64 0, .bool false]) :: .res (Box g1 35 (bx_T_Device d_p1 A2 c2 A3 c3)) :: .ro (SlL eu8 A2 c2 d_p1.Slots.e0.Image.Data) :: .ro (SlL eu8 A3 c3 d_p1.Slots.e1.Image.Data) :: R) mixed (by kernel_rfl) (fun _ w => ((.k (.d (.d (.d (.d (.k (.k (.k (.k .z))))))))) : Keep _ _).sat w) ?_
        refine St.share (Y := ?Ynd2_0) (fun (e : Option Addr × Nat) => [(0, .pointer (some ⟨gb1, 0, none⟩)), (3, .pointer (some ⟨g1, 0, none⟩)), (4, .pointer (some ⟨g2, 0, none⟩)), (5, .pointer (some ⟨g4, 0, none⟩)), (6, .pointer (some ⟨g5, 0, none⟩)), (7, .int .i64 0), (21, .int .i64 r3.2), (29, .bool (r3.2 == 1)), (32, .agg (bx_T_Device d_p1 A2 c2 A3 c3).toArray), (33, .agg #[.string d_p1.Name, .int .i64 (IntKind.wrap .i64 (1 + r1.2)), .int .i64 0, .int .i64 0, .slice (some ⟨g3, 0, none⟩) 2 2]), (34, .pointer (some ⟨gb1, 0, none⟩)), (35, .int .i64 r5.2)]) (fun e => .ro (SlL eu8 e.1 e.2 r5.1.L) :: .res (Box gb1 63 [.slice e.1 r5.1.L.length e.2, .int .i64 r5.1.At]) :: .ro (SlL eu8 A6 c6 r3.1.L) :: .res (Box g5 35 (bx_T_Device d_p1 A2 c2 A3 c3)) :: .res (Box g4 30 [.string d_p1.Name, .int .i64 (IntKind.wrap .i64 (1 + r1.2)), .int .i64 0, .int .i64 0, .slice (some ⟨g3, 0, none⟩) 2 2]) :: .res (Box g3 5 [.int .u8 (IntKind.wrap .u8 r2.2), .int .u8 1]) :: .res (Box g2 35 [.string (⟨#[]⟩), .string (⟨#[]⟩), .int .i64 0, .int .i64 0, .int .i64 0, .slice none 0 0, .int .u32 0, .string (⟨#[]⟩), .int .i64 0, .int .i64 0, .int .i64 0, .slice none 0 0, .int .u32 0, .int .i64 0, .int .i64 0, .bool false]) :: .res (Box g1 35 (bx_T_Device d_p1 A2 c2 A3 c3)) :: .ro (SlL eu8 A2 c2 d_p1.Slots.e0.Image.Data) :: .ro (SlL eu8 A3 c3 d_p1.Slots.e1.Image.Data) :: R) (fun hnd2_0 => ?mnd2_0) ?tnd2_0
        case mnd2_0 =>
          refine St.xfl (fun _ h => h) (Rd.loadB 0 rfl (.tail _ (.tail _ (.head _))) rfl rfl) rfl ?_
          refine St.xfl (fun _ h => h) (Rd.p rfl) rfl ?_
          refine St.xalt ?_ ?_
          · refine St.xef ?_
            refine St.loadB 0 rfl rfl (.tail _ (.tail _ (.tail _ (.head _)))) rfl rfl ?_
            refine St.xk (fun _ w => ((.k (.d (.d (.d (.d (.k (.k (.k (.k .z))))))))) : Keep _ _).sat w) ?_
            refine St.xef ?_
            refine St.call (c_field_Codes_Next hr5) ent23 rfl rfl rfl (fun _ w => Sat.dup (G := [.ro (SlL eu8 A6 c6 r3.1.L)]) rfl ⟨(.tail _ (.head _)), trivial⟩ (w.front (.s .z))) ?_
            rintro _ _ ⟨A9, c9, rfl, rfl⟩
            refine St.asrt (F' := .ro (SlL eu8 A9 c9 r5.1.L) :: .res (Box gb1 63 [.slice A9 r5.1.L.length c9, .int .i64 r5.1.At]) :: .ro (SlL eu8 A6 c6 r3.1.L) :: .res (Box g5 35 (bx_T_Device d_p1 A2 c2 A3 c3)) :: .res (Box g4 30 [.string d_p1.Name, .int .i64 (IntKind.wrap .i64 (1 + r1.2)), .int .i64 0, .int .i64 0, .slice (some ⟨g3, 0, none⟩) 2 2]) :: .res (Box g3 5 [.int .u8 (IntKind.wrap .u8 r2.2), .int .u8 1]) :: .res (Box g2 35 [.string (⟨#[]⟩), .string (⟨#[]⟩), .int .i64 0, .int .i64 0, .int .i64 0, .slice none 0 0, .int .u32 0, .string (⟨#[]⟩), .int .i64 0, .int .i64 0, .int .i64 0, .slice none 0 0, .int .u32 0, .int .i64 0, .int .i64 0, .bool false]) :: .res (Box g1 35 (bx_T_Device d_p1 A2 c2 A3 c3)) :: .ro (SlL eu8 A2 c2 d_p1.Slots.e0.Image.Data) :: .ro (SlL eu8 A3 c3 d_p1.Slots.e1.Image.Data) :: R) (fun _ w => w) ?_
            refine St.xk (fun _ w => ((.d (.d (.k (.d (.d (.d (.k (.k (.k (.k .z)))))))))) : Keep _ _).sat w) ?_
            refine hnd2_0 _ _ (A9, c9) ?_ ?_
            · exact ⟨rfl, rfl, rfl, rfl, rfl, rfl, rfl, rfl, rfl, rfl, rfl, rfl, trivial⟩
            · exact fun _ w => ((.k (.k (.k (.k (.k (.k (.k (.k (.k (.k .z)))))))))) : Keep _ _).sat w
          · refine St.xef ?_
            refine St.call (c_field_Codes_Next hr5) ent23 rfl rfl rfl (fun _ w => Sat.dup (G := [.ro (SlL eu8 A6 c6 r3.1.L)]) rfl ⟨(.tail _ (.head _)), trivial⟩ (w.front (.s .z))) ?_
            rintro _ _ ⟨A9, c9, rfl, rfl⟩
            refine St.asrt (F' := .ro (SlL eu8 A9 c9 r5.1.L) :: .res (Box gb1 63 [.slice A9 r5.1.L.length c9, .int .i64 r5.1.At]) :: .ro (SlL eu8 A6 c6 r3.1.L) :: .res (Box g5 35 (bx_T_Device d_p1 A2 c2 A3 c3)) :: .res (Box g4 30 [.string d_p1.Name, .int .i64 (IntKind.wrap .i64 (1 + r1.2)), .int .i64 0, .int .i64 0, .slice (some ⟨g3, 0, none⟩) 2 2]) :: .res (Box g3 5 [.int .u8 (IntKind.wrap .u8 r2.2), .int .u8 1]) :: .res (Box g2 35 [.string (⟨#[]⟩), .string (⟨#[]⟩), .int .i64 0, .int .i64 0, .int .i64 0, .slice none 0 0, .int .u32 0, .string (⟨#[]⟩), .int .i64 0, .int .i64 0, .int .i64 0, .slice none 0 0, .int .u32 0, .int .i64 0, .int .i64 0, .bool false]) :: .res (Box g1 35 (bx_T_Device d_p1 A2 c2 A3 c3)) :: .ro (SlL eu8 A2 c2 d_p1.Slots.e0.Image.Data) :: .ro (SlL eu8 A3 c3 d_p1.Slots.e1.Image.Data) :: R) (fun _ w => w) ?_
            refine St.xk (fun _ w => ((.d (.d (.k (.d (.d (.d (.k (.k (.k (.k .z)))))))))) : Keep _ _).sat w) ?_
            refine St.xef ?_
            refine St.loadB 0 rfl rfl (.tail _ (.tail _ (.tail _ (.tail _ (.head _))))) rfl rfl ?_
            refine St.xk (fun _ w => ((.d (.d (.k (.d (.d (.d (.k (.k (.k (.k .z)))))))))) : Keep _ _).sat w) ?_
            refine hnd2_0 _ _ (A9, c9) ?_ ?_
            · exact ⟨rfl, rfl, rfl, rfl, rfl, rfl, rfl, rfl, rfl, rfl, rfl, rfl, trivial⟩
            · exact fun _ w => ((.k (.k (.k (.k (.k (.k (.k (.k (.k (.k .z)))))))))) : Keep _ _).sat w
        case tnd2_0 =>
          rintro ⟨A9, c9⟩
          refine St.asrt (F' := .ro (SlL eu8 A9 c9 r5.1.L) :: .res (Box gb1 63 [.slice A9 r5.1.L.length c9, .int .i64 r5.1.At]) :: .ro (SlL eu8 A6 c6 r3.1.L) :: .res (Box g5 35 (bx_T_Device d_p1 A2 c2 A3 c3)) :: .res (Box g4 30 [.string d_p1.Name, .int .i64 (IntKind.wrap .i64 (1 + r1.2)), .int .i64 0, .int .i64 0, .slice (some ⟨g3, 0, none⟩) 2 2]) :: .res (Box g3 5 [.int .u8 (IntKind.wrap .u8 r2.2), .int .u8 1]) :: .res (Box g2 35 [.string (⟨#[]⟩), .string (⟨#[]⟩), .int .i64 0, .int .i64 0, .int .i64 0, .slice none 0 0, .int .u32 0, .string (⟨#[]⟩), .int .i64 0, .int .i64 0, .int .i64 0, .slice none 0 0, .int .u32 0, .int .i64 0, .int .i64 0, .bool false]) :: .res (Box g1 35 (bx_T_Device d_p1 A2 c2 A3 c3)) :: .ro (SlL eu8 A2 c2 d_p1.Slots.e0.Image.Data) :: .ro (SlL eu8 A3 c3 d_p1.Slots.e1.Image.Data) :: R) (fun _ w => w) ?_
          refine St.xef ?_
          refine St.asrt (fun _ w => (w.front (.s (.s (.s (.s (.s .z)))))).litL (E := eu8) (e := 5) [IntKind.wrap .u8 r2.2, 1] rfl rfl) ?_
          refine St.asrt (fun _ w => (w.front .z).meltL) ?_
          refine St.call (c_bank_Write hr6) ent13 rfl rfl rfl (fun _ w => Sat.dup (G := [.ro (SlL eu8 A2 c2 d_p1.Slots.e0.Image.Data), .ro (SlL eu8 A3 c3 d_p1.Slots.e1.Image.Data), .ro (SlL eu8 (some ⟨g3, 0, none⟩) ([IntKind.wrap .u8 r2.2, 1] : List Int).length ([IntKind.wrap .u8 r2.2, 1]))]) rfl ⟨(.tail _ (.tail _ (.tail _ (.tail _ (.tail _ (.tail _ (.tail _ (.tail _ (.head _))))))))), (.tail _ (.tail _ (.tail _ (.tail _ (.tail _ (.tail _ (.tail _ (.tail _ (.tail _ (.head _)))))))))), (.head _), trivial⟩ w) ?_
          rintro _ _ ⟨A10, c10, A11, c11, rfl, rfl⟩
          refine St.asrt (F' := .ro (SlL eu8 A10 c10 r6.1.Slots.e0.Image.Data) :: .ro (SlL eu8 A11 c11 r6.1.Slots.e1.Image.Data) :: .ro (SlL eu8 (some ⟨g3, 0, none⟩) ([IntKind.wrap .u8 r2.2, 1] : List Int).length ([IntKind.wrap .u8 r2.2, 1])) :: .ro (SlL eu8 A9 c9 r5.1.L) :: .res (Box gb1 63 [.slice A9 r5.1.L.length c9, .int .i64 r5.1.At]) :: .ro (SlL eu8 A6 c6 r3.1.L) :: .res (Box g5 35 (bx_T_Device d_p1 A2 c2 A3 c3)) :: .res (Box g4 30 [.string d_p1.Name, .int .i64 (IntKind.wrap .i64 (1 + r1.2)), .int .i64 0, .int .i64 0, .slice (some ⟨g3, 0, none⟩) ([IntKind.wrap .u8 r2.2, 1]).length ([IntKind.wrap .u8 r2.2, 1] : List Int).length]) :: .res (Box g2 35 [.string (⟨#[]⟩), .string (⟨#[]⟩), .int .i64 0, .int .i64 0, .int .i64 0, .slice none 0 0, .int .u32 0, .string (⟨#[]⟩), .int .i64 0, .int .i64 0, .int .i64 0, .slice none 0 0, .int .u32 0, .int .i64 0, .int .i64 0, .bool false]) :: .res (Box g1 35 (bx_T_Device d_p1 A2 c2 A3 c3)) :: .ro (SlL eu8 A2 c2 d_p1.Slots.e0.Image.Data) :: .ro (SlL eu8 A3 c3 d_p1.Slots.e1.Image.Data) :: R) (fun _ w => w) ?_
          refine St.xk (fun _ w => ((.d (.d (.d (.d (.d (.k (.d (.d (.k (.k (.k (.k .z)))))))))))) : Keep _ _).sat w) ?_
          refine St.xfl (fun _ h => h) (Rd.p rfl) rfl ?_
          refine St.xfl (fun _ h => h) (Rd.p rfl) rfl ?_
          refine St.xfl (fun _ h => h) (Rd.p rfl) rfl ?_
          refine St.xef ?_
          refine St.store 0 rfl rfl rfl rfl rfl rfl (.s (.s (.s (.s (.s (.s .z)))))) rfl ?_
          refine St.xk (fun _ w => ((.d (.d (.d (.d (.d (.d (.k (.d (.k (.k (.k (.k .z)))))))))))) : Keep _ _).sat w) ?_
          refine St.xfl (fun _ h => h) (Rd.p rfl) rfl ?_
          refine St.xdone ?_
          refine St.blkN ?_
          refine St.thenN ?_
          refine St.prune (Γ' := [(3, _), (4, _), (6, _), (7, _)]) ⟨rfl, rfl, rfl, rfl, trivial⟩ (.k (.k (.k (.d (.k (.k (.d (.d (.k (.k (.k (.k .z)))))))))))) ?_
          refine St.seq ?_
          refine St.seq ?_
          refine St.region ?_
          refine St.p rfl rfl ?_
          refine St.p rfl rfl ?_
          refine St.done ?_
          refine St.thenN ?_
          refine St.prune (Γ' := [(3, _), (4, _), (6, _), (86, _)]) ⟨rfl, rfl, rfl, rfl, trivial⟩ (.k (.k (.k (.k (.k (.k (.k (.k (.k .z))))))))) ?_
          refine St.cond _ rfl (fun hb4 => ?_) (fun hb4 => ?_)
          · replace h := bif_t hb4 h
            refine St.seq ?_
            refine St.region ?_
            refine St.loadB 0 rfl rfl (.tail _ (.tail _ (.tail _ (.tail _ (.tail _ (.tail _ (.head _))))))) rfl rfl ?_
            refine St.store 0 rfl rfl rfl rfl rfl rfl (.s (.s (.s (.s (.s .z))))) rfl ?_
            refine St.done ?_
            refine St.thenN ?_
            refine St.prune (Γ' := [(4, _)]) ⟨rfl, trivial⟩ (.k (.d (.d (.d (.k (.k (.d (.k (.k .z))))))))) ?_
            refine St.ret ?_
            repeat (first | refine St.thenR ?_ | refine St.blkR ?_)
            injection h with h
            subst h
            exact St.finR Try.results40 (.cell rfl (.head _) rfl .nil) rfl [.ro (SlL eu8 A9 c9 r5.1.L), .ro (SlL eu8 A2 c2 d_p1.Slots.e0.Image.Data), .ro (SlL eu8 A3 c3 d_p1.Slots.e1.Image.Data), .res (Box gb1 63 [.slice A9 r5.1.L.length c9, .int .i64 r5.1.At])] ⟨A9, c9, A2, c2, A3, c3, rfl, rfl⟩ (fun _ w => ((.k (.k (.k (.k (.d (.d (.d (.d .z)))))))) : Keep _ _).sat (Sat.dup (G := [.ro (SlL eu8 A9 c9 r5.1.L), .ro (SlL eu8 A2 c2 d_p1.Slots.e0.Image.Data), .ro (SlL eu8 A3 c3 d_p1.Slots.e1.Image.Data)]) rfl ⟨(.tail _ (.tail _ (.head _))), (.tail _ (.tail _ (.tail _ (.head _)))), (.tail _ (.tail _ (.tail _ (.tail _ (.head _))))), trivial⟩ (w.front (.s (.s .z)))))
          · replace h := bif_f hb4 h
            refine St.skip ?_
            refine St.thenN ?_
            refine St.prune (Γ' := [(4, _), (6, _)]) ⟨rfl, rfl, trivial⟩ (.k (.k (.k (.k (.k (.k (.d (.d (.d .z))))))))) ?_
            refine St.seq ?_
            refine St.region ?_
            refine St.loadB 0 rfl rfl (.head _) rfl rfl ?_
            refine St.store 0 rfl rfl rfl rfl rfl rfl (.s (.s (.s (.s (.s .z))))) rfl ?_
            refine St.done ?_
            refine St.thenN ?_
            refine St.prune (Γ' := [(4, _)]) ⟨rfl, trivial⟩ (.k (.d (.k (.k (.k (.k .z)))))) ?_
            refine St.ret ?_
            repeat (first | refine St.thenR ?_ | refine St.blkR ?_)
            injection h with h
            subst h
            exact St.finR Try.results40 (.cell rfl (.head _) rfl .nil) rfl [.ro (SlL eu8 A9 c9 r5.1.L), .ro (SlL eu8 A10 c10 r6.1.Slots.e0.Image.Data), .ro (SlL eu8 A11 c11 r6.1.Slots.e1.Image.Data), .res (Box gb1 63 [.slice A9 r5.1.L.length c9, .int .i64 r5.1.At])] ⟨A9, c9, A10, c10, A11, c11, rfl, rfl⟩ (fun _ w => ((.k (.k (.k (.k (.d (.d (.d (.d .z)))))))) : Keep _ _).sat (Sat.dup (G := [.ro (SlL eu8 A9 c9 r5.1.L), .ro (SlL eu8 A10 c10 r6.1.Slots.e0.Image.Data), .ro (SlL eu8 A11 c11 r6.1.Slots.e1.Image.Data)]) rfl ⟨(.tail _ (.tail _ (.tail _ (.tail _ (.head _))))), (.tail _ (.tail _ (.head _))), (.tail _ (.tail _ (.tail _ (.head _)))), trivial⟩ (w.front (.s (.s (.s (.s .z)))))))
      · replace h := bif_f hb3 h
        refine St.seq ?_
        obtain ⟨o1, hj1, h⟩ := bnd_e h
        refine St.cutE (fun (e1 : Unit) => [(0, .pointer (some ⟨gb1, 0, none⟩)), (3, .pointer (some ⟨g1, 0, none⟩)), (4, .pointer (some ⟨g2, 0, none⟩)), (5, .pointer (some ⟨g4, 0, none⟩)), (6, .pointer (some ⟨g5, 0, none⟩)), (7, .int .i64 0), (21, .int .i64 r3.2), (39, .bool o1)]) (fun e1 => .ro (SlL eu8 A6 c6 r3.1.L) :: .res (Box gb1 63 [.slice A6 r3.1.L.length c6, .int .i64 r3.1.At]) :: .res (Box g5 35 (bx_T_Device d_p1 A2 c2 A3 c3)) :: .res (Box g4 30 [.string d_p1.Name, .int .i64 (IntKind.wrap .i64 (1 + r1.2)), .int .i64 0, .int .i64 0, .slice (some ⟨g3, 0, none⟩) 2 2]) :: .res (Box g3 5 [.int .u8 (IntKind.wrap .u8 r2.2), .int .u8 1]) :: .res (Box g2 35 [.string (⟨#[]⟩), .string (⟨#[]⟩), .int .i64 0, .int .i64 0, .int .i64 0, .slice none 0 0, .int .u32 0, .string (⟨#[]⟩), .int .i64 0, .int .i64 0, .int .i64 0, .slice none 0 0, .int .u32 0, .int .i64 0, .int .i64 0, .bool false]) :: .res (Box g1 35 (bx_T_Device d_p1 A2 c2 A3 c3)) :: .ro (SlL eu8 A2 c2 d_p1.Slots.e0.Image.Data) :: .ro (SlL eu8 A3 c3 d_p1.Slots.e1.Image.Data) :: R) ?_ ?_
        · refine St.seq ?_
          refine St.region ?_
          refine St.p rfl rfl ?_
          refine St.p rfl rfl ?_
          refine St.done ?_
          refine St.thenN ?_
          refine St.prune (Γ' := [(0, _), (3, _), (4, _), (5, _), (6, _), (7, _), (21, _), (39, _)]) ⟨rfl, rfl, rfl, rfl, rfl, rfl, rfl, rfl, trivial⟩ (.k (.k (.k (.k (.k (.k (.k (.k (.k .z))))))))) ?_
          refine St.cond _ rfl (fun hb5 => ?_) (fun hb5 => ?_)
          · replace hj1 := bif_t hb5 hj1
            refine St.skip ?_
            injection hj1 with hj1
            subst hj1
            refine St.thenN ?_
            exact St.hereE () ⟨rfl, rfl, rfl, rfl, rfl, rfl, rfl, rfl, trivial⟩ (fun _ w => ((.k (.k (.k (.k (.k (.k (.k (.k (.k .z))))))))) : Keep _ _).sat w)
          · replace hj1 := bif_f hb5 hj1
            refine St.region ?_
            refine St.p rfl rfl ?_
            refine St.p rfl rfl ?_
            refine St.done ?_
            injection hj1 with hj1
            subst hj1
            refine St.thenN ?_
            exact St.hereE () ⟨rfl, rfl, rfl, rfl, rfl, rfl, rfl, rfl, trivial⟩ (fun _ w => ((.k (.k (.k (.k (.k (.k (.k (.k (.k .z))))))))) : Keep _ _).sat w)
        · rintro e1
          refine St.cond _ rfl (fun hb6 => ?_) (fun hb6 => ?_)
          · replace h := bif_t hb6 h
            refine St.seq ?_
            refine St.region ?_
            refine St.loadB 0 rfl rfl (.tail _ (.tail _ (.tail _ (.tail _ (.tail _ (.tail _ (.head _))))))) rfl rfl ?_
            refine St.loadB 0 rfl rfl (.tail _ (.tail _ (.tail _ (.head _)))) rfl rfl ?_
            refine St.asrt (fun _ w => (w.front (.s (.s (.s (.s .z))))).litL (E := eu8) (e := 5) [IntKind.wrap .u8 r2.2, 1] rfl rfl) ?_
            refine St.asrt (fun _ w => (w.front .z).meltL) ?_
            obtain ⟨r7, hr7, h⟩ := bnd_e h
            refine St.call (c_bank_Write hr7) ent13 rfl rfl rfl (fun _ w => Sat.dup (G := [.ro (SlL eu8 A2 c2 d_p1.Slots.e0.Image.Data), .ro (SlL eu8 A3 c3 d_p1.Slots.e1.Image.Data), .ro (SlL eu8 (some ⟨g3, 0, none⟩) ([IntKind.wrap .u8 r2.2, 1] : List Int).length ([IntKind.wrap .u8 r2.2, 1]))]) rfl ⟨(.tail _ (.tail _ (.tail _ (.tail _ (.tail _ (.tail _ (.tail _ (.head _)))))))), (.tail _ (.tail _ (.tail _ (.tail _ (.tail _ (.tail _ (.tail _ (.tail _ (.head _))))))))), (.head _), trivial⟩ w) ?_
            rintro _ _ ⟨A12, c12, A13, c13, rfl, rfl⟩
            refine St.asrt (F' := .ro (SlL eu8 A12 c12 r7.1.Slots.e0.Image.Data) :: .ro (SlL eu8 A13 c13 r7.1.Slots.e1.Image.Data) :: .ro (SlL eu8 (some ⟨g3, 0, none⟩) ([IntKind.wrap .u8 r2.2, 1] : List Int).length ([IntKind.wrap .u8 r2.2, 1])) :: .ro (SlL eu8 A6 c6 r3.1.L) :: .res (Box gb1 63 [.slice A6 r3.1.L.length c6, .int .i64 r3.1.At]) :: .res (Box g5 35 (bx_T_Device d_p1 A2 c2 A3 c3)) :: .res (Box g4 30 [.string d_p1.Name, .int .i64 (IntKind.wrap .i64 (1 + r1.2)), .int .i64 0, .int .i64 0, .slice (some ⟨g3, 0, none⟩) ([IntKind.wrap .u8 r2.2, 1]).length ([IntKind.wrap .u8 r2.2, 1] : List Int).length]) :: .res (Box g2 35 [.string (⟨#[]⟩), .string (⟨#[]⟩), .int .i64 0, .int .i64 0, .int .i64 0, .slice none 0 0, .int .u32 0, .string (⟨#[]⟩), .int .i64 0, .int .i64 0, .int .i64 0, .slice none 0 0, .int .u32 0, .int .i64 0, .int .i64 0, .bool false]) :: .res (Box g1 35 (bx_T_Device d_p1 A2 c2 A3 c3)) :: .ro (SlL eu8 A2 c2 d_p1.Slots.e0.Image.Data) :: .ro (SlL eu8 A3 c3 d_p1.Slots.e1.Image.Data) :: R) (fun _ w => w) ?_
            iterate 3 refine St.p rfl rfl ?_
            refine St.store 0 rfl rfl rfl rfl rfl rfl (.s (.s (.s (.s (.s .z))))) rfl ?_
            refine St.p rfl rfl ?_
            refine St.done ?_
            refine St.thenN ?_
            refine St.prune (Γ' := [(3, _), (4, _), (5, _), (6, _), (7, _)]) ⟨rfl, rfl, rfl, rfl, rfl, trivial⟩ (.k (.k (.k (.k (.k (.k (.k (.k (.k (.k (.k .z))))))))))) ?_
            refine St.seq ?_
            refine St.region ?_
            refine St.p rfl rfl ?_
            refine St.p rfl rfl ?_
            refine St.done ?_
            refine St.thenN ?_
            refine St.prune (Γ' := [(3, _), (4, _), (5, _), (6, _), (7, _), (49, _)]) ⟨rfl, rfl, rfl, rfl, rfl, rfl, trivial⟩ (.k (.k (.k (.k (.k (.k (.k (.k (.k (.k (.k .z))))))))))) ?_
            refine St.cond _ rfl (fun hb7 => ?_) (fun hb7 => ?_)
            · replace h := bif_t hb7 h
              refine St.regionX (iL [(.fx, 0), (.fx, 1), (.qc, 2), (.ef, 3), (.fl, 4), (.fl, 5), (.fl, 6), (.ef, 7), (.fl, 8)] .nil) (.ro (SlL eu8 A12 c12 r7.1.Slots.e0.Image.Data) :: .ro (SlL eu8 A13 c13 r7.1.Slots.e1.Image.Data) :: .ro (SlL eu8 (some ⟨g3, 0, none⟩) ([IntKind.wrap .u8 r2.2, 1] : List Int).length ([IntKind.wrap .u8 r2.2, 1])) :: .ro (SlL eu8 A6 c6 r3.1.L) :: .res (Box gb1 63 [.slice A6 r3.1.L.length c6, .int .i64 r3.1.At]) :: .res (Box g4 30 [.string d_p1.Name, .int .i64 (IntKind.wrap .i64 (1 + r1.2)), .int .i64 0, .int .i64 0, .slice (some ⟨g3, 0, none⟩) ([IntKind.wrap .u8 r2.2, 1]).length ([IntKind.wrap .u8 r2.2, 1] : List Int).length]) :: .res (Box g2 35 [.string (⟨#[]⟩), .string (⟨#[]⟩), .int .i64 0, .int .i64 0, .int .i64 0, .slice none 0 0, .int .u32 0, .string (⟨#[]⟩), .int .i64 0, .int .i64 0, .int .i64 0, .slice none 0 0, .int .u32 0, .int .i64 0, .int .i64 0, .bool false]) :: .res (Box g1 35 (bx_T_Device d_p1 A2 c2 A3 c3)) :: .ro (SlL eu8 A2 c2 d_p1.Slots.e0.Image.Data) :: .ro (SlL eu8 A3 c3 d_p1.Slots.e1.Image.Data) :: R) mixed (by kernel_rfl) (fun _ w => ((.d (.k (.k (.k (.k (.k (.k (.k (.k (.k (.k .z))))))))))) : Keep _ _).sat w) ?_
              refine St.xfx (Rd.loadB 0 rfl (.head _) rfl rfl) rfl ?_
              refine St.xfx (Rd.loadB 0 rfl (.tail _ (.tail _ (.tail _ (.tail _ (.tail _ (.tail _ (.head _))))))) rfl rfl) rfl ?_
              obtain ⟨r8, hr8, h⟩ := bnd_e h
              refine St.xqc (fun _ h => h) (c_bundle_Sum hr8) ent15 rfl rfl rfl rfl ⟨(.tail _ (.tail _ (.head _))), trivial⟩ ?_
              refine St.xef ?_
              obtain ⟨r9, hr9, h⟩ := bnd_e h
              refine St.call (c_bank_Finish hr9) ent16 rfl rfl rfl (fun _ w => Sat.dup (G := [.ro (SlL eu8 A12 c12 r7.1.Slots.e0.Image.Data), .ro (SlL eu8 A13 c13 r7.1.Slots.e1.Image.Data)]) rfl ⟨(.tail _ (.head _)), (.tail _ (.tail _ (.head _))), trivial⟩ w) ?_
              rintro _ _ ⟨A14, c14, A15, c15, rfl, rfl⟩
              refine St.asrt (F' := .ro (SlL eu8 A14 c14 r9.1.Slots.e0.Image.Data) :: .ro (SlL eu8 A15 c15 r9.1.Slots.e1.Image.Data) :: .res (Box g5 35 (bx_T_Device r7.1 A12 c12 A13 c13)) :: .ro (SlL eu8 A12 c12 r7.1.Slots.e0.Image.Data) :: .ro (SlL eu8 A13 c13 r7.1.Slots.e1.Image.Data) :: .ro (SlL eu8 (some ⟨g3, 0, none⟩) ([IntKind.wrap .u8 r2.2, 1] : List Int).length ([IntKind.wrap .u8 r2.2, 1])) :: .ro (SlL eu8 A6 c6 r3.1.L) :: .res (Box gb1 63 [.slice A6 r3.1.L.length c6, .int .i64 r3.1.At]) :: .res (Box g4 30 [.string d_p1.Name, .int .i64 (IntKind.wrap .i64 (1 + r1.2)), .int .i64 0, .int .i64 0, .slice (some ⟨g3, 0, none⟩) ([IntKind.wrap .u8 r2.2, 1]).length ([IntKind.wrap .u8 r2.2, 1] : List Int).length]) :: .res (Box g2 35 [.string (⟨#[]⟩), .string (⟨#[]⟩), .int .i64 0, .int .i64 0, .int .i64 0, .slice none 0 0, .int .u32 0, .string (⟨#[]⟩), .int .i64 0, .int .i64 0, .int .i64 0, .slice none 0 0, .int .u32 0, .int .i64 0, .int .i64 0, .bool false]) :: .res (Box g1 35 (bx_T_Device d_p1 A2 c2 A3 c3)) :: .ro (SlL eu8 A2 c2 d_p1.Slots.e0.Image.Data) :: .ro (SlL eu8 A3 c3 d_p1.Slots.e1.Image.Data) :: R) (fun _ w => w) ?_
              refine St.xk (fun _ w => ((.d (.d (.d (.k (.k (.k (.k (.k (.k (.k (.k (.k (.k .z))))))))))))) : Keep _ _).sat w) ?_
              refine St.xfl (fun _ h => h) (Rd.p rfl) rfl ?_
              refine St.xfl (fun _ h => h) (Rd.p rfl) rfl ?_
              refine St.xfl (fun _ h => h) (Rd.p rfl) rfl ?_
              refine St.xef ?_
              refine St.store 0 rfl rfl rfl rfl rfl rfl (.s (.s .z)) rfl ?_
              refine St.xk (fun _ w => ((.d (.d (.d (.k (.k (.k (.k (.k (.k (.k (.k (.k (.k .z))))))))))))) : Keep _ _).sat w) ?_
              refine St.xfl (fun _ h => h) (Rd.p rfl) rfl ?_
              refine St.xdone ?_
              refine St.blkN ?_
              refine St.thenN ?_
              refine St.prune (Γ' := [(3, _), (4, _), (6, _), (7, _)]) ⟨rfl, rfl, rfl, rfl, trivial⟩ (.k (.k (.k (.d (.d (.d (.k (.k (.d (.k (.k (.k (.k .z))))))))))))) ?_
              refine St.seq ?_
              refine St.seq ?_
              refine St.region ?_
              refine St.p rfl rfl ?_
              refine St.p rfl rfl ?_
              refine St.done ?_
              refine St.thenN ?_
              refine St.prune (Γ' := [(3, _), (4, _), (6, _), (86, _)]) ⟨rfl, rfl, rfl, rfl, trivial⟩ (.k (.k (.k (.k (.k (.k (.k (.k (.k .z))))))))) ?_
              refine St.cond _ rfl (fun hb8 => ?_) (fun hb8 => ?_)
              · replace h := bif_t hb8 h
                refine St.seq ?_
                refine St.region ?_
                refine St.loadB 0 rfl rfl (.tail _ (.tail _ (.tail _ (.tail _ (.tail _ (.tail _ (.head _))))))) rfl rfl ?_
                refine St.store 0 rfl rfl rfl rfl rfl rfl (.s (.s (.s (.s (.s .z))))) rfl ?_
                refine St.done ?_
                refine St.thenN ?_
                refine St.prune (Γ' := [(4, _)]) ⟨rfl, trivial⟩ (.k (.d (.d (.d (.k (.k (.d (.k (.k .z))))))))) ?_
                refine St.ret ?_
                repeat (first | refine St.thenR ?_ | refine St.blkR ?_)
                injection h with h
                subst h
                exact St.finR Try.results40 (.cell rfl (.head _) rfl .nil) rfl [.ro (SlL eu8 A6 c6 r3.1.L), .ro (SlL eu8 A2 c2 d_p1.Slots.e0.Image.Data), .ro (SlL eu8 A3 c3 d_p1.Slots.e1.Image.Data), .res (Box gb1 63 [.slice A6 r3.1.L.length c6, .int .i64 r3.1.At])] ⟨A6, c6, A2, c2, A3, c3, rfl, rfl⟩ (fun _ w => ((.k (.k (.k (.k (.d (.d (.d (.d .z)))))))) : Keep _ _).sat (Sat.dup (G := [.ro (SlL eu8 A6 c6 r3.1.L), .ro (SlL eu8 A2 c2 d_p1.Slots.e0.Image.Data), .ro (SlL eu8 A3 c3 d_p1.Slots.e1.Image.Data)]) rfl ⟨(.tail _ (.tail _ (.head _))), (.tail _ (.tail _ (.tail _ (.head _)))), (.tail _ (.tail _ (.tail _ (.tail _ (.head _))))), trivial⟩ (w.front (.s (.s .z)))))
              · replace h := bif_f hb8 h
                refine St.skip ?_
                refine St.thenN ?_
                refine St.prune (Γ' := [(4, _), (6, _)]) ⟨rfl, rfl, trivial⟩ (.k (.k (.k (.k (.k (.k (.d (.d (.d .z))))))))) ?_
                refine St.seq ?_
                refine St.region ?_
                refine St.loadB 0 rfl rfl (.head _) rfl rfl ?_
                refine St.store 0 rfl rfl rfl rfl rfl rfl (.s (.s (.s (.s (.s .z))))) rfl ?_
                refine St.done ?_
                refine St.thenN ?_
                refine St.prune (Γ' := [(4, _)]) ⟨rfl, trivial⟩ (.k (.d (.k (.k (.k (.k .z)))))) ?_
                refine St.ret ?_
                repeat (first | refine St.thenR ?_ | refine St.blkR ?_)
                injection h with h
                subst h
                exact St.finR Try.results40 (.cell rfl (.head _) rfl .nil) rfl [.ro (SlL eu8 A6 c6 r3.1.L), .ro (SlL eu8 A14 c14 r9.1.Slots.e0.Image.Data), .ro (SlL eu8 A15 c15 r9.1.Slots.e1.Image.Data), .res (Box gb1 63 [.slice A6 r3.1.L.length c6, .int .i64 r3.1.At])] ⟨A6, c6, A14, c14, A15, c15, rfl, rfl⟩ (fun _ w => ((.k (.k (.k (.k (.d (.d (.d (.d .z)))))))) : Keep _ _).sat (Sat.dup (G := [.ro (SlL eu8 A6 c6 r3.1.L), .ro (SlL eu8 A14 c14 r9.1.Slots.e0.Image.Data), .ro (SlL eu8 A15 c15 r9.1.Slots.e1.Image.Data)]) rfl ⟨(.tail _ (.tail _ (.tail _ (.tail _ (.head _))))), (.tail _ (.tail _ (.head _))), (.tail _ (.tail _ (.tail _ (.head _)))), trivial⟩ (w.front (.s (.s (.s (.s .z)))))))
            · replace h := bif_f hb7 h
              refine St.skip ?_
              refine St.blkN ?_
              refine St.thenN ?_
              refine St.prune (Γ' := [(3, _), (4, _), (6, _), (7, _)]) ⟨rfl, rfl, rfl, rfl, trivial⟩ (.k (.k (.k (.d (.k (.k (.d (.k (.k (.k (.k .z))))))))))) ?_
              refine St.seq ?_
              refine St.seq ?_
              refine St.region ?_
              refine St.p rfl rfl ?_
              refine St.p rfl rfl ?_
              refine St.done ?_
              refine St.thenN ?_
              refine St.prune (Γ' := [(3, _), (4, _), (6, _), (86, _)]) ⟨rfl, rfl, rfl, rfl, trivial⟩ (.k (.k (.k (.k (.k (.k (.k (.k (.k .z))))))))) ?_
              refine St.cond _ rfl (fun hb9 => ?_) (fun hb9 => ?_)
              · replace h := bif_t hb9 h
                refine St.seq ?_
                refine St.region ?_
                refine St.loadB 0 rfl rfl (.tail _ (.tail _ (.tail _ (.tail _ (.tail _ (.tail _ (.head _))))))) rfl rfl ?_
                refine St.store 0 rfl rfl rfl rfl rfl rfl (.s (.s (.s (.s (.s .z))))) rfl ?_
                refine St.done ?_
                refine St.thenN ?_
                refine St.prune (Γ' := [(4, _)]) ⟨rfl, trivial⟩ (.k (.d (.d (.d (.k (.k (.d (.k (.k .z))))))))) ?_
                refine St.ret ?_
                repeat (first | refine St.thenR ?_ | refine St.blkR ?_)
                injection h with h
                subst h
                exact St.finR Try.results40 (.cell rfl (.head _) rfl .nil) rfl [.ro (SlL eu8 A6 c6 r3.1.L), .ro (SlL eu8 A2 c2 d_p1.Slots.e0.Image.Data), .ro (SlL eu8 A3 c3 d_p1.Slots.e1.Image.Data), .res (Box gb1 63 [.slice A6 r3.1.L.length c6, .int .i64 r3.1.At])] ⟨A6, c6, A2, c2, A3, c3, rfl, rfl⟩ (fun _ w => ((.k (.k (.k (.k (.d (.d (.d (.d .z)))))))) : Keep _ _).sat (Sat.dup (G := [.ro (SlL eu8 A6 c6 r3.1.L), .ro (SlL eu8 A2 c2 d_p1.Slots.e0.Image.Data), .ro (SlL eu8 A3 c3 d_p1.Slots.e1.Image.Data)]) rfl ⟨(.tail _ (.tail _ (.head _))), (.tail _ (.tail _ (.tail _ (.head _)))), (.tail _ (.tail _ (.tail _ (.tail _ (.head _))))), trivial⟩ (w.front (.s (.s .z)))))
              · replace h := bif_f hb9 h
                refine St.skip ?_
                refine St.thenN ?_
                refine St.prune (Γ' := [(4, _), (6, _)]) ⟨rfl, rfl, trivial⟩ (.k (.k (.k (.k (.k (.k (.d (.d (.d .z))))))))) ?_
                refine St.seq ?_
                refine St.region ?_
                refine St.loadB 0 rfl rfl (.head _) rfl rfl ?_
                refine St.store 0 rfl rfl rfl rfl rfl rfl (.s (.s (.s (.s (.s .z))))) rfl ?_
                refine St.done ?_
                refine St.thenN ?_
                refine St.prune (Γ' := [(4, _)]) ⟨rfl, trivial⟩ (.k (.d (.k (.k (.k (.k .z)))))) ?_
                refine St.ret ?_
                repeat (first | refine St.thenR ?_ | refine St.blkR ?_)
                injection h with h
                subst h
                exact St.finR Try.results40 (.cell rfl (.head _) rfl .nil) rfl [.ro (SlL eu8 A6 c6 r3.1.L), .ro (SlL eu8 A12 c12 r7.1.Slots.e0.Image.Data), .ro (SlL eu8 A13 c13 r7.1.Slots.e1.Image.Data), .res (Box gb1 63 [.slice A6 r3.1.L.length c6, .int .i64 r3.1.At])] ⟨A6, c6, A12, c12, A13, c13, rfl, rfl⟩ (fun _ w => ((.k (.k (.k (.k (.d (.d (.d (.d .z)))))))) : Keep _ _).sat (Sat.dup (G := [.ro (SlL eu8 A6 c6 r3.1.L), .ro (SlL eu8 A12 c12 r7.1.Slots.e0.Image.Data), .ro (SlL eu8 A13 c13 r7.1.Slots.e1.Image.Data)]) rfl ⟨(.tail _ (.tail _ (.tail _ (.tail _ (.head _))))), (.tail _ (.tail _ (.head _))), (.tail _ (.tail _ (.tail _ (.head _)))), trivial⟩ (w.front (.s (.s (.s (.s .z)))))))
          · replace h := bif_f hb6 h
            refine St.seq ?_
            refine St.region ?_
            refine St.p rfl rfl ?_
            refine St.p rfl rfl ?_
            refine St.done ?_
            refine St.thenN ?_
            refine St.prune (Γ' := [(0, _), (3, _), (4, _), (6, _), (7, _), (21, _), (57, _)]) ⟨rfl, rfl, rfl, rfl, rfl, rfl, rfl, trivial⟩ (.k (.k (.k (.d (.d (.k (.k (.k (.k .z))))))))) ?_
            refine St.cond _ rfl (fun hb10 => ?_) (fun hb10 => ?_)
            · replace h := bif_t hb10 h
              refine St.region ?_
              refine St.loadB 0 rfl rfl (.tail _ (.tail _ (.tail _ (.tail _ (.head _))))) rfl rfl ?_
              obtain ⟨r10, hr10, h⟩ := bnd_e h
              refine St.call (c_bank_Switch hr10) ent14 rfl rfl rfl (fun _ w => Sat.dup (G := [.ro (SlL eu8 A2 c2 d_p1.Slots.e0.Image.Data), .ro (SlL eu8 A3 c3 d_p1.Slots.e1.Image.Data)]) rfl ⟨(.tail _ (.tail _ (.tail _ (.tail _ (.tail _ (.head _)))))), (.tail _ (.tail _ (.tail _ (.tail _ (.tail _ (.tail _ (.head _))))))), trivial⟩ w) ?_
              rintro _ _ ⟨A16, c16, A17, c17, rfl, rfl⟩
              refine St.asrt (F' := .ro (SlL eu8 A16 c16 r10.1.Slots.e0.Image.Data) :: .ro (SlL eu8 A17 c17 r10.1.Slots.e1.Image.Data) :: .ro (SlL eu8 A6 c6 r3.1.L) :: .res (Box gb1 63 [.slice A6 r3.1.L.length c6, .int .i64 r3.1.At]) :: .res (Box g5 35 (bx_T_Device d_p1 A2 c2 A3 c3)) :: .res (Box g2 35 [.string (⟨#[]⟩), .string (⟨#[]⟩), .int .i64 0, .int .i64 0, .int .i64 0, .slice none 0 0, .int .u32 0, .string (⟨#[]⟩), .int .i64 0, .int .i64 0, .int .i64 0, .slice none 0 0, .int .u32 0, .int .i64 0, .int .i64 0, .bool false]) :: .res (Box g1 35 (bx_T_Device d_p1 A2 c2 A3 c3)) :: .ro (SlL eu8 A2 c2 d_p1.Slots.e0.Image.Data) :: .ro (SlL eu8 A3 c3 d_p1.Slots.e1.Image.Data) :: R) (fun _ w => w) ?_
              iterate 3 refine St.p rfl rfl ?_
              refine St.store 0 rfl rfl rfl rfl rfl rfl (.s (.s (.s (.s .z)))) rfl ?_
              refine St.p rfl rfl ?_
              refine St.done ?_
              refine St.blkN ?_
              refine St.thenN ?_
              refine St.prune (Γ' := [(3, _), (4, _), (6, _), (7, _)]) ⟨rfl, rfl, rfl, rfl, trivial⟩ (.k (.k (.k (.k (.k (.k (.k (.k (.k .z))))))))) ?_
              refine St.seq ?_
              refine St.seq ?_
              refine St.region ?_
              refine St.p rfl rfl ?_
              refine St.p rfl rfl ?_
              refine St.done ?_
              refine St.thenN ?_
              refine St.prune (Γ' := [(3, _), (4, _), (6, _), (86, _)]) ⟨rfl, rfl, rfl, rfl, trivial⟩ (.k (.k (.k (.k (.k (.k (.k (.k (.k .z))))))))) ?_
              refine St.cond _ rfl (fun hb11 => ?_) (fun hb11 => ?_)
              · replace h := bif_t hb11 h
                refine St.seq ?_
                refine St.region ?_
                refine St.loadB 0 rfl rfl (.tail _ (.tail _ (.tail _ (.tail _ (.tail _ (.tail _ (.head _))))))) rfl rfl ?_
                refine St.store 0 rfl rfl rfl rfl rfl rfl (.s (.s (.s (.s (.s .z))))) rfl ?_
                refine St.done ?_
                refine St.thenN ?_
                refine St.prune (Γ' := [(4, _)]) ⟨rfl, trivial⟩ (.k (.d (.d (.d (.k (.k (.d (.k (.k .z))))))))) ?_
                refine St.ret ?_
                repeat (first | refine St.thenR ?_ | refine St.blkR ?_)
                injection h with h
                subst h
                exact St.finR Try.results40 (.cell rfl (.head _) rfl .nil) rfl [.ro (SlL eu8 A6 c6 r3.1.L), .ro (SlL eu8 A2 c2 d_p1.Slots.e0.Image.Data), .ro (SlL eu8 A3 c3 d_p1.Slots.e1.Image.Data), .res (Box gb1 63 [.slice A6 r3.1.L.length c6, .int .i64 r3.1.At])] ⟨A6, c6, A2, c2, A3, c3, rfl, rfl⟩ (fun _ w => ((.k (.k (.k (.k (.d (.d (.d (.d .z)))))))) : Keep _ _).sat (Sat.dup (G := [.ro (SlL eu8 A6 c6 r3.1.L), .ro (SlL eu8 A2 c2 d_p1.Slots.e0.Image.Data), .ro (SlL eu8 A3 c3 d_p1.Slots.e1.Image.Data)]) rfl ⟨(.tail _ (.tail _ (.head _))), (.tail _ (.tail _ (.tail _ (.head _)))), (.tail _ (.tail _ (.tail _ (.tail _ (.head _))))), trivial⟩ (w.front (.s (.s .z)))))
              · replace h := bif_f hb11 h
                refine St.skip ?_
                refine St.thenN ?_
                refine St.prune (Γ' := [(4, _), (6, _)]) ⟨rfl, rfl, trivial⟩ (.k (.k (.k (.k (.k (.k (.d (.d (.d .z))))))))) ?_
                refine St.seq ?_
                refine St.region ?_
                refine St.loadB 0 rfl rfl (.head _) rfl rfl ?_
                refine St.store 0 rfl rfl rfl rfl rfl rfl (.s (.s (.s (.s (.s .z))))) rfl ?_
                refine St.done ?_
                refine St.thenN ?_
                refine St.prune (Γ' := [(4, _)]) ⟨rfl, trivial⟩ (.k (.d (.k (.k (.k (.k .z)))))) ?_
                refine St.ret ?_
                repeat (first | refine St.thenR ?_ | refine St.blkR ?_)
                injection h with h
                subst h
                exact St.finR Try.results40 (.cell rfl (.head _) rfl .nil) rfl [.ro (SlL eu8 A6 c6 r3.1.L), .ro (SlL eu8 A16 c16 r10.1.Slots.e0.Image.Data), .ro (SlL eu8 A17 c17 r10.1.Slots.e1.Image.Data), .res (Box gb1 63 [.slice A6 r3.1.L.length c6, .int .i64 r3.1.At])] ⟨A6, c6, A16, c16, A17, c17, rfl, rfl⟩ (fun _ w => ((.k (.k (.k (.k (.d (.d (.d (.d .z)))))))) : Keep _ _).sat (Sat.dup (G := [.ro (SlL eu8 A6 c6 r3.1.L), .ro (SlL eu8 A16 c16 r10.1.Slots.e0.Image.Data), .ro (SlL eu8 A17 c17 r10.1.Slots.e1.Image.Data)]) rfl ⟨(.tail _ (.tail _ (.tail _ (.tail _ (.head _))))), (.tail _ (.tail _ (.head _))), (.tail _ (.tail _ (.tail _ (.head _)))), trivial⟩ (w.front (.s (.s (.s (.s .z)))))))
            · replace h := bif_f hb10 h
              refine St.seq ?_
              refine St.region ?_
              refine St.p rfl rfl ?_
              refine St.p rfl rfl ?_
              refine St.done ?_
              refine St.thenN ?_
              refine St.prune (Γ' := [(0, _), (3, _), (4, _), (6, _), (7, _), (21, _), (64, _)]) ⟨rfl, rfl, rfl, rfl, rfl, rfl, rfl, trivial⟩ (.k (.k (.k (.k (.k (.k (.k .z))))))) ?_
              refine St.cond _ rfl (fun hb12 => ?_) (fun hb12 => ?_)
              · replace h := bif_t hb12 h
                refine St.region ?_
                refine St.loadB 0 rfl rfl (.tail _ (.tail _ (.tail _ (.tail _ (.head _))))) rfl rfl ?_
                obtain ⟨r11, hr11, h⟩ := bnd_e h
                refine St.call (c_bank_Confirm hr11) ent25 rfl rfl rfl (fun _ w => Sat.dup (G := [.ro (SlL eu8 A2 c2 d_p1.Slots.e0.Image.Data), .ro (SlL eu8 A3 c3 d_p1.Slots.e1.Image.Data)]) rfl ⟨(.tail _ (.tail _ (.tail _ (.tail _ (.tail _ (.head _)))))), (.tail _ (.tail _ (.tail _ (.tail _ (.tail _ (.tail _ (.head _))))))), trivial⟩ w) ?_
                rintro _ _ ⟨A18, c18, A19, c19, rfl, rfl⟩
                refine St.asrt (F' := .ro (SlL eu8 A18 c18 r11.1.Slots.e0.Image.Data) :: .ro (SlL eu8 A19 c19 r11.1.Slots.e1.Image.Data) :: .ro (SlL eu8 A6 c6 r3.1.L) :: .res (Box gb1 63 [.slice A6 r3.1.L.length c6, .int .i64 r3.1.At]) :: .res (Box g5 35 (bx_T_Device d_p1 A2 c2 A3 c3)) :: .res (Box g2 35 [.string (⟨#[]⟩), .string (⟨#[]⟩), .int .i64 0, .int .i64 0, .int .i64 0, .slice none 0 0, .int .u32 0, .string (⟨#[]⟩), .int .i64 0, .int .i64 0, .int .i64 0, .slice none 0 0, .int .u32 0, .int .i64 0, .int .i64 0, .bool false]) :: .res (Box g1 35 (bx_T_Device d_p1 A2 c2 A3 c3)) :: .ro (SlL eu8 A2 c2 d_p1.Slots.e0.Image.Data) :: .ro (SlL eu8 A3 c3 d_p1.Slots.e1.Image.Data) :: R) (fun _ w => w) ?_
                iterate 3 refine St.p rfl rfl ?_
                refine St.store 0 rfl rfl rfl rfl rfl rfl (.s (.s (.s (.s .z)))) rfl ?_
                refine St.p rfl rfl ?_
                refine St.done ?_
                refine St.blkN ?_
                refine St.thenN ?_
                refine St.prune (Γ' := [(3, _), (4, _), (6, _), (7, _)]) ⟨rfl, rfl, rfl, rfl, trivial⟩ (.k (.k (.k (.k (.k (.k (.k (.k (.k .z))))))))) ?_
                refine St.seq ?_
                refine St.seq ?_
                refine St.region ?_
                refine St.p rfl rfl ?_
                refine St.p rfl rfl ?_
                refine St.done ?_
                refine St.thenN ?_
                refine St.prune (Γ' := [(3, _), (4, _), (6, _), (86, _)]) ⟨rfl, rfl, rfl, rfl, trivial⟩ (.k (.k (.k (.k (.k (.k (.k (.k (.k .z))))))))) ?_
                refine St.cond _ rfl (fun hb13 => ?_) (fun hb13 => ?_)
                · replace h := bif_t hb13 h
                  refine St.seq ?_
                  refine St.region ?_
                  refine St.loadB 0 rfl rfl (.tail _ (.tail _ (.tail _ (.tail _ (.tail _ (.tail _ (.head _))))))) rfl rfl ?_
                  refine St.store 0 rfl rfl rfl rfl rfl rfl (.s (.s (.s (.s (.s .z))))) rfl ?_
                  refine St.done ?_
                  refine St.thenN ?_
                  refine St.prune (Γ' := [(4, _)]) ⟨rfl, trivial⟩ (.k (.d (.d (.d (.k (.k (.d (.k (.k .z))))))))) ?_
                  refine St.ret ?_
                  repeat (first | refine St.thenR ?_ | refine St.blkR ?_)
                  injection h with h
                  subst h
                  exact St.finR Try.results40 (.cell rfl (.head _) rfl .nil) rfl [.ro (SlL eu8 A6 c6 r3.1.L), .ro (SlL eu8 A2 c2 d_p1.Slots.e0.Image.Data), .ro (SlL eu8 A3 c3 d_p1.Slots.e1.Image.Data), .res (Box gb1 63 [.slice A6 r3.1.L.length c6, .int .i64 r3.1.At])] ⟨A6, c6, A2, c2, A3, c3, rfl, rfl⟩ (fun _ w => ((.k (.k (.k (.k (.d (.d (.d (.d .z)))))))) : Keep _ _).sat (Sat.dup (G := [.ro (SlL eu8 A6 c6 r3.1.L), .ro (SlL eu8 A2 c2 d_p1.Slots.e0.Image.Data), .ro (SlL eu8 A3 c3 d_p1.Slots.e1.Image.Data)]) rfl ⟨(.tail _ (.tail _ (.head _))), (.tail _ (.tail _ (.tail _ (.head _)))), (.tail _ (.tail _ (.tail _ (.tail _ (.head _))))), trivial⟩ (w.front (.s (.s .z)))))
                · replace h := bif_f hb13 h
                  refine St.skip ?_
                  refine St.thenN ?_
                  refine St.prune (Γ' := [(4, _), (6, _)]) ⟨rfl, rfl, trivial⟩ (.k (.k (.k (.k (.k (.k (.d (.d (.d .z))))))))) ?_
                  refine St.seq ?_
                  refine St.region ?_
                  refine St.loadB 0 rfl rfl (.head _) rfl rfl ?_
                  refine St.store 0 rfl rfl rfl rfl rfl rfl (.s (.s (.s (.s (.s .z))))) rfl ?_
                  refine St.done ?_
                  refine St.thenN ?_
                  refine St.prune (Γ' := [(4, _)]) ⟨rfl, trivial⟩ (.k (.d (.k (.k (.k (.k .z)))))) ?_
                  refine St.ret ?_
                  repeat (first | refine St.thenR ?_ | refine St.blkR ?_)
                  injection h with h
                  subst h
                  exact St.finR Try.results40 (.cell rfl (.head _) rfl .nil) rfl [.ro (SlL eu8 A6 c6 r3.1.L), .ro (SlL eu8 A18 c18 r11.1.Slots.e0.Image.Data), .ro (SlL eu8 A19 c19 r11.1.Slots.e1.Image.Data), .res (Box gb1 63 [.slice A6 r3.1.L.length c6, .int .i64 r3.1.At])] ⟨A6, c6, A18, c18, A19, c19, rfl, rfl⟩ (fun _ w => ((.k (.k (.k (.k (.d (.d (.d (.d .z)))))))) : Keep _ _).sat (Sat.dup (G := [.ro (SlL eu8 A6 c6 r3.1.L), .ro (SlL eu8 A18 c18 r11.1.Slots.e0.Image.Data), .ro (SlL eu8 A19 c19 r11.1.Slots.e1.Image.Data)]) rfl ⟨(.tail _ (.tail _ (.tail _ (.tail _ (.head _))))), (.tail _ (.tail _ (.head _))), (.tail _ (.tail _ (.tail _ (.head _)))), trivial⟩ (w.front (.s (.s (.s (.s .z)))))))
              · replace h := bif_f hb12 h
                refine St.seq ?_
                refine St.region ?_
                refine St.p rfl rfl ?_
                refine St.p rfl rfl ?_
                refine St.done ?_
                refine St.thenN ?_
                refine St.prune (Γ' := [(0, _), (3, _), (4, _), (6, _), (7, _), (21, _), (71, _)]) ⟨rfl, rfl, rfl, rfl, rfl, rfl, rfl, trivial⟩ (.k (.k (.k (.k (.k (.k (.k .z))))))) ?_
                refine St.cond _ rfl (fun hb14 => ?_) (fun hb14 => ?_)
                · replace h := bif_t hb14 h
                  refine St.regionX (iL [(.fl, 0), (.fl, 1), (.fl, 3), (.ef, 2), (.ef, 4), (.fl, 5), (.ef, 6), (.ef, 7)] .nil) (.ro (SlL eu8 A6 c6 r3.1.L) :: .res (Box g2 35 [.string (⟨#[]⟩), .string (⟨#[]⟩), .int .i64 0, .int .i64 0, .int .i64 0, .slice none 0 0, .int .u32 0, .string (⟨#[]⟩), .int .i64 0, .int .i64 0, .int .i64 0, .slice none 0 0, .int .u32 0, .int .i64 0, .int .i64 0, .bool false]) :: .res (Box g1 35 (bx_T_Device d_p1 A2 c2 A3 c3)) :: .ro (SlL eu8 A2 c2 d_p1.Slots.e0.Image.Data) :: .ro (SlL eu8 A3 c3 d_p1.Slots.e1.Image.Data) :: R) mixed (by kernel_rfl) (fun _ w => ((.k (.d (.d (.k (.k (.k (.k .z))))))) : Keep _ _).sat w) ?_
                  refine St.xfl (fun _ h => h) (Rd.loadB 0 rfl (.tail _ (.tail _ (.head _))) rfl rfl) rfl ?_
                  refine St.xfl (fun _ h => h) (Rd.p rfl) rfl ?_
                  refine St.xfl (fun _ h => h) (Rd.p rfl) rfl ?_
                  refine St.xef ?_
                  obtain ⟨r12, hr12, h⟩ := bnd_e h
                  refine St.call (c_field_Codes_Image hr12) ent22 rfl rfl rfl (fun _ w => Sat.dup (G := [.ro (SlL eu8 A6 c6 r3.1.L)]) rfl ⟨(.tail _ (.head _)), trivial⟩ (w.front (.s .z))) ?_
                  rintro _ _ ⟨A20, c20, A21, c21, rfl, rfl⟩
                  refine St.asrt (F' := .ro (SlL eu8 A20 c20 r12.1.L) :: .ro (SlL eu8 A21 c21 r12.2.Data) :: .res (Box gb1 63 [.slice A20 r12.1.L.length c20, .int .i64 r12.1.At]) :: .ro (SlL eu8 A6 c6 r3.1.L) :: .res (Box g5 35 (bx_T_Device d_p1 A2 c2 A3 c3)) :: .res (Box g2 35 [.string (⟨#[]⟩), .string (⟨#[]⟩), .int .i64 0, .int .i64 0, .int .i64 0, .slice none 0 0, .int .u32 0, .string (⟨#[]⟩), .int .i64 0, .int .i64 0, .int .i64 0, .slice none 0 0, .int .u32 0, .int .i64 0, .int .i64 0, .bool false]) :: .res (Box g1 35 (bx_T_Device d_p1 A2 c2 A3 c3)) :: .ro (SlL eu8 A2 c2 d_p1.Slots.e0.Image.Data) :: .ro (SlL eu8 A3 c3 d_p1.Slots.e1.Image.Data) :: R) (fun _ w => w) ?_
                  refine St.xk (fun _ w => ((.d (.d (.d (.k (.d (.k (.k (.k (.k .z))))))))) : Keep _ _).sat w) ?_
                  refine St.xef ?_
                  obtain ⟨r13, hr13, h⟩ := bnd_e h
                  refine St.call (c_field_Codes_Next hr13) ent23 rfl rfl rfl (fun _ w => Sat.dup (G := [.ro (SlL eu8 A20 c20 r12.1.L)]) rfl ⟨(.tail _ (.head _)), trivial⟩ (w.front (.s (.s .z)))) ?_
                  rintro _ _ ⟨A22, c22, rfl, rfl⟩
                  refine St.asrt (F' := .ro (SlL eu8 A22 c22 r13.1.L) :: .res (Box gb1 63 [.slice A22 r13.1.L.length c22, .int .i64 r13.1.At]) :: .ro (SlL eu8 A20 c20 r12.1.L) :: .ro (SlL eu8 A21 c21 r12.2.Data) :: .ro (SlL eu8 A6 c6 r3.1.L) :: .res (Box g5 35 (bx_T_Device d_p1 A2 c2 A3 c3)) :: .res (Box g2 35 [.string (⟨#[]⟩), .string (⟨#[]⟩), .int .i64 0, .int .i64 0, .int .i64 0, .slice none 0 0, .int .u32 0, .string (⟨#[]⟩), .int .i64 0, .int .i64 0, .int .i64 0, .slice none 0 0, .int .u32 0, .int .i64 0, .int .i64 0, .bool false]) :: .res (Box g1 35 (bx_T_Device d_p1 A2 c2 A3 c3)) :: .ro (SlL eu8 A2 c2 d_p1.Slots.e0.Image.Data) :: .ro (SlL eu8 A3 c3 d_p1.Slots.e1.Image.Data) :: R) (fun _ w => w) ?_
                  refine St.xk (fun _ w => ((.d (.d (.d (.d (.k (.d (.k (.k (.k (.k .z)))))))))) : Keep _ _).sat w) ?_
                  refine St.xfl (fun _ h => h) (Rd.p rfl) rfl ?_
                  refine St.xef ?_
                  obtain ⟨r14, hr14, h⟩ := bnd_e h
                  refine St.call (c_bank_Spoil hr14) ent24 rfl rfl rfl (fun _ w => Sat.dup (G := [.ro (SlL eu8 A2 c2 d_p1.Slots.e0.Image.Data), .ro (SlL eu8 A3 c3 d_p1.Slots.e1.Image.Data), .ro (SlL eu8 A21 c21 r12.2.Data)]) rfl ⟨(.tail _ (.tail _ (.tail _ (.tail _ (.tail _ (.tail _ (.tail _ (.tail _ (.head _))))))))), (.tail _ (.tail _ (.tail _ (.tail _ (.tail _ (.tail _ (.tail _ (.tail _ (.tail _ (.head _)))))))))), (.tail _ (.tail _ (.tail _ (.head _)))), trivial⟩ w) ?_
                  rintro _ _ ⟨A23, c23, A24, c24, rfl, rfl⟩
                  refine St.asrt (F' := .ro (SlL eu8 A23 c23 r14.Slots.e0.Image.Data) :: .ro (SlL eu8 A24 c24 r14.Slots.e1.Image.Data) :: .ro (SlL eu8 A22 c22 r13.1.L) :: .res (Box gb1 63 [.slice A22 r13.1.L.length c22, .int .i64 r13.1.At]) :: .ro (SlL eu8 A20 c20 r12.1.L) :: .ro (SlL eu8 A21 c21 r12.2.Data) :: .ro (SlL eu8 A6 c6 r3.1.L) :: .res (Box g5 35 (bx_T_Device d_p1 A2 c2 A3 c3)) :: .res (Box g2 35 [.string (⟨#[]⟩), .string (⟨#[]⟩), .int .i64 0, .int .i64 0, .int .i64 0, .slice none 0 0, .int .u32 0, .string (⟨#[]⟩), .int .i64 0, .int .i64 0, .int .i64 0, .slice none 0 0, .int .u32 0, .int .i64 0, .int .i64 0, .bool false]) :: .res (Box g1 35 (bx_T_Device d_p1 A2 c2 A3 c3)) :: .ro (SlL eu8 A2 c2 d_p1.Slots.e0.Image.Data) :: .ro (SlL eu8 A3 c3 d_p1.Slots.e1.Image.Data) :: R) (fun _ w => w) ?_
                  refine St.xk (fun _ w => ((.d (.d (.d (.d (.d (.d (.k (.d (.k (.k (.k (.k .z)))))))))))) : Keep _ _).sat w) ?_
                  refine St.xef ?_
                  refine St.store 0 rfl rfl rfl rfl rfl rfl (.s (.s (.s (.s (.s (.s (.s .z))))))) rfl ?_
                  refine St.xk (fun _ w => ((.d (.d (.d (.d (.d (.d (.d (.k (.k (.k (.k (.k .z)))))))))))) : Keep _ _).sat w) ?_
                  refine St.xdone ?_
                  refine St.blkN ?_
                  refine St.thenN ?_
                  refine St.prune (Γ' := [(3, _), (4, _), (6, _), (7, _)]) ⟨rfl, rfl, rfl, rfl, trivial⟩ (.k (.k (.k (.k (.k (.d (.d (.d (.k (.k (.k (.k .z)))))))))))) ?_
                  refine St.seq ?_
                  refine St.seq ?_
                  refine St.region ?_
                  refine St.p rfl rfl ?_
                  refine St.p rfl rfl ?_
                  refine St.done ?_
                  refine St.thenN ?_
                  refine St.prune (Γ' := [(3, _), (4, _), (6, _), (86, _)]) ⟨rfl, rfl, rfl, rfl, trivial⟩ (.k (.k (.k (.k (.k (.k (.k (.k (.k .z))))))))) ?_
                  refine St.condF rfl ?_
                  refine St.skip ?_
                  refine St.thenN ?_
                  refine St.prune (Γ' := [(4, _), (6, _)]) ⟨rfl, rfl, trivial⟩ (.k (.k (.k (.k (.k (.k (.d (.d (.d .z))))))))) ?_
                  refine St.seq ?_
                  refine St.region ?_
                  refine St.loadB 0 rfl rfl (.head _) rfl rfl ?_
                  refine St.store 0 rfl rfl rfl rfl rfl rfl (.s (.s (.s (.s (.s .z))))) rfl ?_
                  refine St.done ?_
                  refine St.thenN ?_
                  refine St.prune (Γ' := [(4, _)]) ⟨rfl, trivial⟩ (.k (.d (.k (.k (.k (.k .z)))))) ?_
                  refine St.ret ?_
                  repeat (first | refine St.thenR ?_ | refine St.blkR ?_)
                  injection h with h
                  subst h
                  exact St.finR Try.results40 (.cell rfl (.head _) rfl .nil) rfl [.ro (SlL eu8 A22 c22 r13.1.L), .ro (SlL eu8 A23 c23 r14.Slots.e0.Image.Data), .ro (SlL eu8 A24 c24 r14.Slots.e1.Image.Data), .res (Box gb1 63 [.slice A22 r13.1.L.length c22, .int .i64 r13.1.At])] ⟨A22, c22, A23, c23, A24, c24, rfl, rfl⟩ (fun _ w => ((.k (.k (.k (.k (.d (.d (.d (.d .z)))))))) : Keep _ _).sat (Sat.dup (G := [.ro (SlL eu8 A22 c22 r13.1.L), .ro (SlL eu8 A23 c23 r14.Slots.e0.Image.Data), .ro (SlL eu8 A24 c24 r14.Slots.e1.Image.Data)]) rfl ⟨(.tail _ (.tail _ (.tail _ (.tail _ (.head _))))), (.tail _ (.tail _ (.head _))), (.tail _ (.tail _ (.tail _ (.head _)))), trivial⟩ (w.front (.s (.s (.s (.s .z)))))))
                · replace h := bif_f hb14 h
                  refine St.seq ?_
                  obtain ⟨o2, hj2, h⟩ := bnd_e h
                  refine St.cutE (fun (e2 : Unit) => [(3, .pointer (some ⟨g1, 0, none⟩)), (4, .pointer (some ⟨g2, 0, none⟩)), (6, .pointer (some ⟨g5, 0, none⟩)), (7, .int .i64 0), (80, .bool o2)]) (fun e2 => .ro (SlL eu8 A6 c6 r3.1.L) :: .res (Box gb1 63 [.slice A6 r3.1.L.length c6, .int .i64 r3.1.At]) :: .res (Box g5 35 (bx_T_Device d_p1 A2 c2 A3 c3)) :: .res (Box g2 35 [.string (⟨#[]⟩), .string (⟨#[]⟩), .int .i64 0, .int .i64 0, .int .i64 0, .slice none 0 0, .int .u32 0, .string (⟨#[]⟩), .int .i64 0, .int .i64 0, .int .i64 0, .slice none 0 0, .int .u32 0, .int .i64 0, .int .i64 0, .bool false]) :: .res (Box g1 35 (bx_T_Device d_p1 A2 c2 A3 c3)) :: .ro (SlL eu8 A2 c2 d_p1.Slots.e0.Image.Data) :: .ro (SlL eu8 A3 c3 d_p1.Slots.e1.Image.Data) :: R) ?_ ?_
                  · refine St.seq ?_
                    refine St.region ?_
                    refine St.p rfl rfl ?_
                    refine St.p rfl rfl ?_
                    refine St.done ?_
                    refine St.thenN ?_
                    refine St.prune (Γ' := [(3, _), (4, _), (6, _), (7, _), (21, _), (80, _)]) ⟨rfl, rfl, rfl, rfl, rfl, rfl, trivial⟩ (.k (.k (.k (.k (.k (.k (.k .z))))))) ?_
                    refine St.cond _ rfl (fun hb15 => ?_) (fun hb15 => ?_)
                    · replace hj2 := bif_t hb15 hj2
                      refine St.skip ?_
                      injection hj2 with hj2
                      subst hj2
                      refine St.thenN ?_
                      exact St.hereE () ⟨rfl, rfl, rfl, rfl, rfl, trivial⟩ (fun _ w => ((.k (.k (.k (.k (.k (.k (.k .z))))))) : Keep _ _).sat w)
                    · replace hj2 := bif_f hb15 hj2
                      refine St.region ?_
                      refine St.p rfl rfl ?_
                      refine St.p rfl rfl ?_
                      refine St.done ?_
                      injection hj2 with hj2
                      subst hj2
                      refine St.thenN ?_
                      exact St.hereE () ⟨rfl, rfl, rfl, rfl, rfl, trivial⟩ (fun _ w => ((.k (.k (.k (.k (.k (.k (.k .z))))))) : Keep _ _).sat w)
                  · rintro e2
                    refine St.cond _ rfl (fun hb16 => ?_) (fun hb16 => ?_)
                    · replace h := bif_t hb16 h
                      refine St.region ?_
                      refine St.loadB 0 rfl rfl (.tail _ (.tail _ (.tail _ (.tail _ (.head _))))) rfl rfl ?_
                      obtain ⟨r15, hr15, h⟩ := bnd_e h
                      refine St.call (c_bank_Boot hr15) ent20 rfl rfl rfl (fun _ w => Sat.dup (G := [.ro (SlL eu8 A2 c2 d_p1.Slots.e0.Image.Data), .ro (SlL eu8 A3 c3 d_p1.Slots.e1.Image.Data)]) rfl ⟨(.tail _ (.tail _ (.tail _ (.tail _ (.tail _ (.head _)))))), (.tail _ (.tail _ (.tail _ (.tail _ (.tail _ (.tail _ (.head _))))))), trivial⟩ w) ?_
                      rintro _ _ ⟨A25, c25, A26, c26, rfl, rfl⟩
                      refine St.asrt (F' := .ro (SlL eu8 A25 c25 r15.Slots.e0.Image.Data) :: .ro (SlL eu8 A26 c26 r15.Slots.e1.Image.Data) :: .ro (SlL eu8 A6 c6 r3.1.L) :: .res (Box gb1 63 [.slice A6 r3.1.L.length c6, .int .i64 r3.1.At]) :: .res (Box g5 35 (bx_T_Device d_p1 A2 c2 A3 c3)) :: .res (Box g2 35 [.string (⟨#[]⟩), .string (⟨#[]⟩), .int .i64 0, .int .i64 0, .int .i64 0, .slice none 0 0, .int .u32 0, .string (⟨#[]⟩), .int .i64 0, .int .i64 0, .int .i64 0, .slice none 0 0, .int .u32 0, .int .i64 0, .int .i64 0, .bool false]) :: .res (Box g1 35 (bx_T_Device d_p1 A2 c2 A3 c3)) :: .ro (SlL eu8 A2 c2 d_p1.Slots.e0.Image.Data) :: .ro (SlL eu8 A3 c3 d_p1.Slots.e1.Image.Data) :: R) (fun _ w => w) ?_
                      refine St.store 0 rfl rfl rfl rfl rfl rfl (.s (.s (.s (.s .z)))) rfl ?_
                      refine St.done ?_
                      refine St.blkN ?_
                      refine St.thenN ?_
                      refine St.prune (Γ' := [(3, _), (4, _), (6, _), (7, _)]) ⟨rfl, rfl, rfl, rfl, trivial⟩ (.k (.k (.k (.k (.k (.k (.k (.k (.k .z))))))))) ?_
                      refine St.seq ?_
                      refine St.seq ?_
                      refine St.region ?_
                      refine St.p rfl rfl ?_
                      refine St.p rfl rfl ?_
                      refine St.done ?_
                      refine St.thenN ?_
                      refine St.prune (Γ' := [(3, _), (4, _), (6, _), (86, _)]) ⟨rfl, rfl, rfl, rfl, trivial⟩ (.k (.k (.k (.k (.k (.k (.k (.k (.k .z))))))))) ?_
                      refine St.condF rfl ?_
                      refine St.skip ?_
                      refine St.thenN ?_
                      refine St.prune (Γ' := [(4, _), (6, _)]) ⟨rfl, rfl, trivial⟩ (.k (.k (.k (.k (.k (.k (.d (.d (.d .z))))))))) ?_
                      refine St.seq ?_
                      refine St.region ?_
                      refine St.loadB 0 rfl rfl (.head _) rfl rfl ?_
                      refine St.store 0 rfl rfl rfl rfl rfl rfl (.s (.s (.s (.s (.s .z))))) rfl ?_
                      refine St.done ?_
                      refine St.thenN ?_
                      refine St.prune (Γ' := [(4, _)]) ⟨rfl, trivial⟩ (.k (.d (.k (.k (.k (.k .z)))))) ?_
                      refine St.ret ?_
                      repeat (first | refine St.thenR ?_ | refine St.blkR ?_)
                      injection h with h
                      subst h
                      exact St.finR Try.results40 (.cell rfl (.head _) rfl .nil) rfl [.ro (SlL eu8 A6 c6 r3.1.L), .ro (SlL eu8 A25 c25 r15.Slots.e0.Image.Data), .ro (SlL eu8 A26 c26 r15.Slots.e1.Image.Data), .res (Box gb1 63 [.slice A6 r3.1.L.length c6, .int .i64 r3.1.At])] ⟨A6, c6, A25, c25, A26, c26, rfl, rfl⟩ (fun _ w => ((.k (.k (.k (.k (.d (.d (.d (.d .z)))))))) : Keep _ _).sat (Sat.dup (G := [.ro (SlL eu8 A6 c6 r3.1.L), .ro (SlL eu8 A25 c25 r15.Slots.e0.Image.Data), .ro (SlL eu8 A26 c26 r15.Slots.e1.Image.Data)]) rfl ⟨(.tail _ (.tail _ (.tail _ (.tail _ (.head _))))), (.tail _ (.tail _ (.head _))), (.tail _ (.tail _ (.tail _ (.head _)))), trivial⟩ (w.front (.s (.s (.s (.s .z)))))))
                    · replace h := bif_f hb16 h
                      refine St.skip ?_
                      refine St.blkN ?_
                      refine St.thenN ?_
                      refine St.prune (Γ' := [(3, _), (4, _), (6, _), (7, _)]) ⟨rfl, rfl, rfl, rfl, trivial⟩ (.k (.k (.k (.k (.k (.k (.k .z))))))) ?_
                      refine St.seq ?_
                      refine St.seq ?_
                      refine St.region ?_
                      refine St.p rfl rfl ?_
                      refine St.p rfl rfl ?_
                      refine St.done ?_
                      refine St.thenN ?_
                      refine St.prune (Γ' := [(3, _), (4, _), (6, _), (86, _)]) ⟨rfl, rfl, rfl, rfl, trivial⟩ (.k (.k (.k (.k (.k (.k (.k .z))))))) ?_
                      refine St.condF rfl ?_
                      refine St.skip ?_
                      refine St.thenN ?_
                      refine St.prune (Γ' := [(4, _), (6, _)]) ⟨rfl, rfl, trivial⟩ (.k (.k (.k (.k (.d (.k (.k .z))))))) ?_
                      refine St.seq ?_
                      refine St.region ?_
                      refine St.loadB 0 rfl rfl (.tail _ (.tail _ (.head _))) rfl rfl ?_
                      refine St.store 0 rfl rfl rfl rfl rfl rfl (.s (.s (.s .z))) rfl ?_
                      refine St.done ?_
                      refine St.thenN ?_
                      refine St.prune (Γ' := [(4, _)]) ⟨rfl, trivial⟩ (.k (.k (.k (.d (.k (.k .z)))))) ?_
                      refine St.ret ?_
                      repeat (first | refine St.thenR ?_ | refine St.blkR ?_)
                      injection h with h
                      subst h
                      exact St.finR Try.results40 (.cell rfl (.head _) rfl .nil) rfl [.ro (SlL eu8 A6 c6 r3.1.L), .ro (SlL eu8 A2 c2 d_p1.Slots.e0.Image.Data), .ro (SlL eu8 A3 c3 d_p1.Slots.e1.Image.Data), .res (Box gb1 63 [.slice A6 r3.1.L.length c6, .int .i64 r3.1.At])] ⟨A6, c6, A2, c2, A3, c3, rfl, rfl⟩ (fun _ w => ((.k (.k (.k (.k (.d (.d (.d (.d .z)))))))) : Keep _ _).sat (Sat.dup (G := [.ro (SlL eu8 A6 c6 r3.1.L), .ro (SlL eu8 A2 c2 d_p1.Slots.e0.Image.Data), .ro (SlL eu8 A3 c3 d_p1.Slots.e1.Image.Data)]) rfl ⟨(.tail _ (.tail _ (.head _))), (.tail _ (.tail _ (.tail _ (.head _)))), (.tail _ (.tail _ (.tail _ (.tail _ (.head _))))), trivial⟩ (w.front (.s (.s .z)))))

theorem ent8 : Ent Try.prog 8 := ⟨_, Try.func8, by kernel_rfl, by kernel_rfl⟩

noncomputable def m_law29_BankRuns (codes : (List Int)) : Option Bool :=
  bnd (m_law29_awake) fun r1 => bif !r1 then (some false) else (bnd (m_field_New codes 200) fun r2 => bnd (m_bank_New (⟨⟨#[98, 105, 111, 115]⟩, (⟨1, 0, 0⟩ : T_Version), [1]⟩ : T_Image)) fun r3 => bif (r3.2 != 0) then (some false) else (bnd (loopM (τ := Bool ⊕ (T_Device × List Int × Int)) (fun (s1 : T_Device × Int × List Int × Int) => bif decide (s1.2.1 < 30) then (bnd (m_law29_step (⟨s1.2.2.1, s1.2.2.2⟩ : T_Codes) s1.1) fun r4 => bnd ((bnd (m_bank_Valid r4.2) fun r5 => bif !r5 then (some true) else (bif decide (r4.2.Running < 0) then (some true) else (bif decide (r4.2.Running > 1) then (some true) else (bnd (elt [r4.2.Slots.e0, r4.2.Slots.e1] r4.2.Running) fun x1 => bnd (m_bank_Whole x1) fun r6 => bif !r6 then (some true) else (bif !(x1.Image.Name.toList == ((⟨#[98, 105, 111, 115]⟩) : ByteArray).toList) then (some true) else (bnd (m_bank_Version r4.2) fun r7 => some (!((r7.Major == x1.Image.Version.Major) && ((r7.Minor == x1.Image.Version.Minor) && ((r7.Patch == x1.Image.Version.Patch) && true))))))))) : Option Bool)) fun o3 => bif o3 then (some (.done (.inl false))) else (some (.next (r4.2, IntKind.wrap .i64 (s1.2.1 + 1), r4.1.L, r4.1.At)))) else (some (.done (.inr (s1.1, s1.2.2.1, s1.2.2.2))))) (r3.1, 0, r2.L, r2.At)) fun o1 => retOr o1 fun o2 => some true))

set_option maxHeartbeats 4000000 in
theorem c_law29_BankRuns {codes : (List Int)} {A1 : Option Addr} {c1 : Nat} {r : Bool} (h : m_law29_BankRuns codes = some r) :
    Fun Try.prog 8 [.slice A1 codes.length c1] [.ro (SlL eu8 A1 c1 codes)] (Val (.bool r)) := by
  unfold m_law29_BankRuns at h
  refine Fun.intro Try.func8 rfl rfl rfl fun w R => ?_
  refine St.seq ?_
  refine St.region ?_
  refine St.p rfl rfl ?_
  refine St.done ?_
  refine St.thenN ?_
  refine St.prune (Γ' := [(0, _)]) ⟨rfl, trivial⟩ (.k .z) ?_
  refine St.seq ?_
  refine St.seq ?_
  refine St.region ?_
  obtain ⟨r1, hr1, h⟩ := bnd_e h
  refine St.callV (c_law29_awake hr1) ent9 rfl rfl rfl rfl trivial ?_
  refine St.p rfl rfl ?_
  refine St.done ?_
  refine St.thenN ?_
  refine St.prune (Γ' := [(0, _), (8, _)]) ⟨rfl, rfl, trivial⟩ (.k .z) ?_
  refine St.cond _ rfl (fun hb1 => ?_) (fun hb1 => ?_)
  · replace h := bif_t hb1 h
    refine St.seq ?_
    refine St.region ?_
    refine St.p rfl rfl ?_
    refine St.done ?_
    refine St.thenN ?_
    refine St.prune (Γ' := [(2, _)]) ⟨rfl, trivial⟩ (.d .z) ?_
    refine St.ret ?_
    repeat (first | refine St.thenR ?_ | refine St.blkR ?_)
    injection h with h
    subst h
    exact St.finR Try.results8 (.tmp rfl .nil) rfl [] ⟨rfl, rfl⟩ (fun _ w => (.z : Keep _ _).sat w)
  · replace h := bif_f hb1 h
    refine St.skip ?_
    refine St.thenN ?_
    refine St.prune (Γ' := [(0, _)]) ⟨rfl, trivial⟩ (.k .z) ?_
    refine St.seq ?_
    refine St.region ?_
    refine St.p rfl rfl ?_
    obtain ⟨r2, hr2, h⟩ := bnd_e h
    refine St.call (c_field_New hr2) ent10 rfl rfl rfl (fun _ w => Sat.dup (G := [.ro (SlL eu8 A1 c1 codes)]) rfl ⟨(.head _), trivial⟩ w) ?_
    rintro _ _ ⟨g1, A2, c2, rfl, rfl⟩
    refine St.asrt (F' := .ro (SlL eu8 A2 c2 r2.L) :: .res (Box g1 63 [.slice A2 r2.L.length c2, .int .i64 r2.At]) :: .ro (SlL eu8 A1 c1 codes) :: R) (fun _ w => w) ?_
    refine St.p rfl rfl ?_
    refine St.done ?_
    refine St.thenN ?_
    refine St.prune (Γ' := [(3, _)]) ⟨rfl, trivial⟩ (.k (.k (.d .z))) ?_
    refine St.seq ?_
    refine St.region ?_
    refine St.p rfl rfl ?_
    refine St.buildSlice rfl rfl rfl rfl rfl rfl rfl rfl fun g2 => ?_
    refine St.p rfl rfl ?_
    refine St.asrt (fun _ w => (w.front .z).litL (E := eu8) (e := 5) [1] rfl rfl) ?_
    refine St.asrt (fun _ w => (w.front .z).meltL) ?_
    obtain ⟨r3, hr3, h⟩ := bnd_e h
    refine St.call (c_bank_New hr3) ent11 rfl rfl rfl (fun _ w => Sat.dup (G := [.ro (SlL eu8 (some ⟨g2, 0, none⟩) ([1] : List Int).length ([1]))]) rfl ⟨(.head _), trivial⟩ w) ?_
    rintro _ _ ⟨A3, c3, A4, c4, rfl, rfl⟩
    refine St.asrt (F' := .ro (SlL eu8 A3 c3 r3.1.Slots.e0.Image.Data) :: .ro (SlL eu8 A4 c4 r3.1.Slots.e1.Image.Data) :: .ro (SlL eu8 (some ⟨g2, 0, none⟩) ([1] : List Int).length ([1])) :: .ro (SlL eu8 A2 c2 r2.L) :: .res (Box g1 63 [.slice A2 r2.L.length c2, .int .i64 r2.At]) :: R) (fun _ w => w) ?_
    iterate 3 refine St.p rfl rfl ?_
    refine St.alloc rfl rfl fun g3 => ?_
    refine St.store 0 rfl rfl rfl rfl rfl rfl .z rfl ?_
    refine St.p rfl rfl ?_
    refine St.done ?_
    refine St.thenN ?_
    refine St.prune (Γ' := [(3, _), (4, _), (5, _)]) ⟨rfl, rfl, rfl, trivial⟩ (.k (.k (.k (.d (.k (.k .z)))))) ?_
    refine St.seq ?_
    refine St.seq ?_
    refine St.region ?_
    refine St.p rfl rfl ?_
    refine St.p rfl rfl ?_
    refine St.done ?_
    refine St.thenN ?_
    refine St.prune (Γ' := [(3, _), (4, _), (19, _)]) ⟨rfl, rfl, rfl, trivial⟩ (.k (.k (.k (.k (.k .z))))) ?_
    refine St.cond _ rfl (fun hb2 => ?_) (fun hb2 => ?_)
    · replace h := bif_t hb2 h
      refine St.seq ?_
      refine St.region ?_
      refine St.p rfl rfl ?_
      refine St.done ?_
      refine St.thenN ?_
      refine St.prune (Γ' := [(2, _)]) ⟨rfl, trivial⟩ (.d (.d (.d (.d (.d .z))))) ?_
      refine St.ret ?_
      repeat (first | refine St.thenR ?_ | refine St.blkR ?_)
      injection h with h
      subst h
      exact St.finR Try.results8 (.tmp rfl .nil) rfl [] ⟨rfl, rfl⟩ (fun _ w => (.z : Keep _ _).sat w)
    · replace h := bif_f hb2 h
      refine St.skip ?_
      refine St.thenN ?_
      refine St.prune (Γ' := [(3, _), (4, _)]) ⟨rfl, rfl, trivial⟩ (.k (.k (.k (.k (.k .z))))) ?_
      refine St.seq ?_
      refine St.seq ?_
      refine St.region ?_
      refine St.p rfl rfl ?_
      refine St.done ?_
      refine St.thenN ?_
      obtain ⟨o1, hl1, h⟩ := bnd_e h
      refine St.cutI (fun (o2 : T_Device × List Int × Int) (e2 : Option Addr × Nat × Option Addr × Nat × Option Addr × Nat) => []) (fun o2 e2 => R) (fun o2 => o1 = .inr o2) ?_ ?_
      · refine St.block ?_
        refine St.loop hl1 (fun (s1 : T_Device × Int × List Int × Int) (e1 : Option Addr × Nat × Option Addr × Nat × Option Addr × Nat) => [(3, .pointer (some ⟨g1, 0, none⟩)), (4, .pointer (some ⟨g3, 0, none⟩)), (6, .int .i64 s1.2.1)]) (fun s1 e1 => .ro (SlL eu8 e1.2.2.2.2.1 e1.2.2.2.2.2 s1.2.2.1) :: .ro (SlL eu8 e1.2.2.1 e1.2.2.2.1 s1.1.Slots.e1.Image.Data) :: .ro (SlL eu8 e1.1 e1.2.1 s1.1.Slots.e0.Image.Data) :: .res (Box g3 35 (bx_T_Device s1.1 e1.1 e1.2.1 e1.2.2.1 e1.2.2.2.1)) :: .res (Box g1 63 [.slice e1.2.2.2.2.1 s1.2.2.1.length e1.2.2.2.2.2, .int .i64 s1.2.2.2]) :: R) (fun _ _ => True) (A3, c3, A4, c4, A2, c2) trivial ⟨rfl, rfl, rfl, trivial⟩ (fun _ w => ((.k (.k (.k (.k (.k .z))))) : Keep _ _).sat (((((w.front (.s (.s (.s (.s .z))))).front (.s .z)).front (.s (.s .z))).front (.s (.s (.s .z)))).front (.s (.s (.s (.s .z)))))) ?_
        rintro s1 ⟨A5, c5, A6, c6, A7, c7⟩ - hit1
        obtain ⟨st1, hm1, hd1⟩ := iter_e hit1
        have h1 := hm1
        refine St.seq ?_
        refine St.seq ?_
        refine St.region ?_
        refine St.p rfl rfl ?_
        refine St.p rfl rfl ?_
        refine St.done ?_
        refine St.thenN ?_
        refine St.prune (Γ' := [(3, _), (4, _), (6, _), (21, _)]) ⟨rfl, rfl, rfl, rfl, trivial⟩ (.k (.k (.k (.k (.k .z))))) ?_
        refine St.cond _ rfl (fun hb3 => ?_) (fun hb3 => ?_)
        · replace h1 := bif_t hb3 h1
          refine St.skip ?_
          refine St.thenN ?_
          refine St.prune (Γ' := [(3, _), (4, _), (6, _)]) ⟨rfl, rfl, rfl, trivial⟩ (.k (.k (.k (.k (.k .z))))) ?_
          refine St.seq ?_
          refine St.block ?_
          refine St.seq ?_
          refine St.region ?_
          refine St.p rfl rfl ?_
          refine St.loadB 0 rfl rfl (.tail _ (.tail _ (.tail _ (.head _)))) rfl rfl ?_
          obtain ⟨r4, hr4, h1⟩ := bnd_e h1
          refine St.call (c_law29_step hr4) ent40 rfl rfl rfl (fun _ w => Sat.dup (G := [.ro (SlL eu8 A7 c7 s1.2.2.1), .ro (SlL eu8 A5 c5 s1.1.Slots.e0.Image.Data), .ro (SlL eu8 A6 c6 s1.1.Slots.e1.Image.Data)]) rfl ⟨(.tail _ (.head _)), (.tail _ (.tail _ (.tail _ (.head _)))), (.tail _ (.tail _ (.head _))), trivial⟩ (w.front (.s (.s (.s (.s .z)))))) ?_
          rintro _ _ ⟨A11, c11, A12, c12, A13, c13, rfl, rfl⟩
          refine St.asrt (F' := .ro (SlL eu8 A11 c11 r4.1.L) :: .ro (SlL eu8 A12 c12 r4.2.Slots.e0.Image.Data) :: .ro (SlL eu8 A13 c13 r4.2.Slots.e1.Image.Data) :: .res (Box g1 63 [.slice A11 r4.1.L.length c11, .int .i64 r4.1.At]) :: .ro (SlL eu8 A7 c7 s1.2.2.1) :: .ro (SlL eu8 A6 c6 s1.1.Slots.e1.Image.Data) :: .ro (SlL eu8 A5 c5 s1.1.Slots.e0.Image.Data) :: .res (Box g3 35 (bx_T_Device s1.1 A5 c5 A6 c6)) :: R) (fun _ w => w) ?_
          refine St.store 0 rfl rfl rfl rfl rfl rfl (.s (.s (.s (.s (.s (.s (.s .z))))))) rfl ?_
          refine St.done ?_
          refine St.thenN ?_
          refine St.prune (Γ' := [(3, _), (4, _), (6, _)]) ⟨rfl, rfl, rfl, trivial⟩ (.k (.k (.k (.k (.k (.d (.d (.d .z)))))))) ?_
          refine St.seq ?_
          obtain ⟨o3, hj1, h1⟩ := bnd_e h1
          refine St.cutE (fun (e3 : Unit) => [(3, .pointer (some ⟨g1, 0, none⟩)), (4, .pointer (some ⟨g3, 0, none⟩)), (6, .int .i64 s1.2.1), (70, .bool o3)]) (fun e3 => .res (Box g3 35 (bx_T_Device r4.2 A12 c12 A13 c13)) :: .ro (SlL eu8 A11 c11 r4.1.L) :: .ro (SlL eu8 A12 c12 r4.2.Slots.e0.Image.Data) :: .ro (SlL eu8 A13 c13 r4.2.Slots.e1.Image.Data) :: .res (Box g1 63 [.slice A11 r4.1.L.length c11, .int .i64 r4.1.At]) :: R) ?_ ?_
          · refine St.regionF mixed (by kernel_rfl) ?_
            refine St.loadB 0 rfl rfl (.head _) rfl rfl ?_
            obtain ⟨r5, hr5, hj1⟩ := bnd_e hj1
            refine St.callV (c_bank_Valid hr5) ent21 rfl rfl rfl rfl ⟨(.tail _ (.tail _ (.head _))), (.tail _ (.tail _ (.tail _ (.head _)))), trivial⟩ ?_
            refine St.p rfl rfl ?_
            refine St.p rfl rfl ?_
            refine St.gSplit (dj := 30) _ rfl (fun hb4 => ?_) (fun hb4 => ?_)
            · replace hj1 := bif_t hb4 hj1
              refine St.gOff (dj := 30) rfl rfl rfl rfl ?_
              refine St.gOff (dj := 30) rfl rfl rfl rfl ?_
              refine St.gOff (dj := 30) rfl rfl rfl rfl ?_
              refine St.p rfl rfl ?_
              refine St.p rfl rfl ?_
              refine St.gOff (dj := 35) rfl rfl rfl rfl ?_
              refine St.gOff (dj := 35) rfl rfl rfl rfl ?_
              refine St.gOff (dj := 35) rfl rfl rfl rfl ?_
              refine St.p rfl rfl ?_
              refine St.p rfl rfl ?_
              refine St.gOff (dj := 40) rfl rfl rfl rfl ?_
              refine St.gOff (dj := 40) rfl rfl rfl rfl ?_
              refine St.gOff (dj := 40) rfl rfl rfl rfl ?_
              refine St.gOff (dj := 40) rfl rfl rfl rfl ?_
              refine St.gOff (dj := 40) rfl rfl rfl rfl ?_
              refine St.gOff (dj := 40) rfl rfl rfl rfl ?_
              refine St.gOff (dj := 40) rfl rfl rfl rfl ?_
              refine St.p rfl rfl ?_
              refine St.p rfl rfl ?_
              refine St.gOff (dj := 49) rfl rfl rfl rfl ?_
              refine St.gOff (dj := 49) rfl rfl rfl rfl ?_
              refine St.gOff (dj := 49) rfl rfl rfl rfl ?_
              refine St.gOff (dj := 49) rfl rfl rfl rfl ?_
              refine St.gOff (dj := 49) rfl rfl rfl rfl ?_
              refine St.gOff (dj := 49) rfl rfl rfl rfl ?_
              refine St.gOff (dj := 49) rfl rfl rfl rfl ?_
              refine St.gOff (dj := 49) rfl rfl rfl rfl ?_
              refine St.p rfl rfl ?_
              refine St.p rfl rfl ?_
              refine St.gOff (dj := 59) rfl rfl rfl rfl ?_
              refine St.gOff (dj := 59) rfl rfl rfl rfl ?_
              refine St.gOff (dj := 59) rfl rfl rfl rfl ?_
              refine St.gOff (dj := 59) rfl rfl rfl rfl ?_
              refine St.gOff (dj := 59) rfl rfl rfl rfl ?_
              refine St.gOff (dj := 59) rfl rfl rfl rfl ?_
              refine St.gOff (dj := 59) rfl rfl rfl rfl ?_
              refine St.gOff (dj := 59) rfl rfl rfl rfl ?_
              refine St.gOff (dj := 59) rfl rfl rfl rfl ?_
              refine St.gOff (dj := 59) rfl rfl rfl rfl ?_
              refine St.p rfl rfl ?_
              refine St.doneQ ?_
              injection hj1 with hj1
              subst hj1
              refine St.thenN ?_
              exact St.hereE () ⟨rfl, rfl, rfl, rfl, trivial⟩ (fun _ w => ((.k (.k (.k (.k (.k .z))))) : Keep _ _).sat w)
            · replace hj1 := bif_f hb4 hj1
              refine St.gOn (dj := 30) rfl rfl ?_
              refine St.p rfl rfl ?_
              refine St.gOn (dj := 30) rfl rfl ?_
              refine St.loadB 14 rfl rfl (.head _) rfl rfl ?_
              refine St.gOn (dj := 30) rfl rfl ?_
              iterate 3 refine St.p rfl rfl ?_
              refine St.gSplit (dj := 35) _ rfl (fun hb5 => ?_) (fun hb5 => ?_)
              · replace hj1 := bif_t hb5 hj1
                refine St.gOff (dj := 35) rfl rfl rfl rfl ?_
                refine St.gOff (dj := 35) rfl rfl rfl rfl ?_
                refine St.gOff (dj := 35) rfl rfl rfl rfl ?_
                refine St.p rfl rfl ?_
                refine St.p rfl rfl ?_
                refine St.gOff (dj := 40) rfl rfl rfl rfl ?_
                refine St.gOff (dj := 40) rfl rfl rfl rfl ?_
                refine St.gOff (dj := 40) rfl rfl rfl rfl ?_
                refine St.gOff (dj := 40) rfl rfl rfl rfl ?_
                refine St.gOff (dj := 40) rfl rfl rfl rfl ?_
                refine St.gOff (dj := 40) rfl rfl rfl rfl ?_
                refine St.gOff (dj := 40) rfl rfl rfl rfl ?_
                refine St.p rfl rfl ?_
                refine St.p rfl rfl ?_
                refine St.gOff (dj := 49) rfl rfl rfl rfl ?_
                refine St.gOff (dj := 49) rfl rfl rfl rfl ?_
                refine St.gOff (dj := 49) rfl rfl rfl rfl ?_
                refine St.gOff (dj := 49) rfl rfl rfl rfl ?_
                refine St.gOff (dj := 49) rfl rfl rfl rfl ?_
                refine St.gOff (dj := 49) rfl rfl rfl rfl ?_
                refine St.gOff (dj := 49) rfl rfl rfl rfl ?_
                refine St.gOff (dj := 49) rfl rfl rfl rfl ?_
                refine St.p rfl rfl ?_
                refine St.p rfl rfl ?_
                refine St.gOff (dj := 59) rfl rfl rfl rfl ?_
                refine St.gOff (dj := 59) rfl rfl rfl rfl ?_
                refine St.gOff (dj := 59) rfl rfl rfl rfl ?_
                refine St.gOff (dj := 59) rfl rfl rfl rfl ?_
                refine St.gOff (dj := 59) rfl rfl rfl rfl ?_
                refine St.gOff (dj := 59) rfl rfl rfl rfl ?_
                refine St.gOff (dj := 59) rfl rfl rfl rfl ?_
                refine St.gOff (dj := 59) rfl rfl rfl rfl ?_
                refine St.gOff (dj := 59) rfl rfl rfl rfl ?_
                refine St.gOff (dj := 59) rfl rfl rfl rfl ?_
                refine St.p rfl rfl ?_
                refine St.doneQ ?_
                injection hj1 with hj1
                subst hj1
                refine St.thenN ?_
                exact St.hereE () ⟨rfl, rfl, rfl, rfl, trivial⟩ (fun _ w => ((.k (.k (.k (.k (.k .z))))) : Keep _ _).sat w)
              · replace hj1 := bif_f hb5 hj1
                refine St.gOn (dj := 35) rfl rfl ?_
                refine St.p rfl rfl ?_
                refine St.gOn (dj := 35) rfl rfl ?_
                refine St.loadB 14 rfl rfl (.head _) rfl rfl ?_
                refine St.gOn (dj := 35) rfl rfl ?_
                iterate 3 refine St.p rfl rfl ?_
                refine St.gSplit (dj := 40) _ rfl (fun hb6 => ?_) (fun hb6 => ?_)
                · replace hj1 := bif_t hb6 hj1
                  refine St.gOff (dj := 40) rfl rfl rfl rfl ?_
                  refine St.gOff (dj := 40) rfl rfl rfl rfl ?_
                  refine St.gOff (dj := 40) rfl rfl rfl rfl ?_
                  refine St.gOff (dj := 40) rfl rfl rfl rfl ?_
                  refine St.gOff (dj := 40) rfl rfl rfl rfl ?_
                  refine St.gOff (dj := 40) rfl rfl rfl rfl ?_
                  refine St.gOff (dj := 40) rfl rfl rfl rfl ?_
                  refine St.p rfl rfl ?_
                  refine St.p rfl rfl ?_
                  refine St.gOff (dj := 49) rfl rfl rfl rfl ?_
                  refine St.gOff (dj := 49) rfl rfl rfl rfl ?_
                  refine St.gOff (dj := 49) rfl rfl rfl rfl ?_
                  refine St.gOff (dj := 49) rfl rfl rfl rfl ?_
                  refine St.gOff (dj := 49) rfl rfl rfl rfl ?_
                  refine St.gOff (dj := 49) rfl rfl rfl rfl ?_
                  refine St.gOff (dj := 49) rfl rfl rfl rfl ?_
                  refine St.gOff (dj := 49) rfl rfl rfl rfl ?_
                  refine St.p rfl rfl ?_
                  refine St.p rfl rfl ?_
                  refine St.gOff (dj := 59) rfl rfl rfl rfl ?_
                  refine St.gOff (dj := 59) rfl rfl rfl rfl ?_
                  refine St.gOff (dj := 59) rfl rfl rfl rfl ?_
                  refine St.gOff (dj := 59) rfl rfl rfl rfl ?_
                  refine St.gOff (dj := 59) rfl rfl rfl rfl ?_
                  refine St.gOff (dj := 59) rfl rfl rfl rfl ?_
                  refine St.gOff (dj := 59) rfl rfl rfl rfl ?_
                  refine St.gOff (dj := 59) rfl rfl rfl rfl ?_
                  refine St.gOff (dj := 59) rfl rfl rfl rfl ?_
                  refine St.gOff (dj := 59) rfl rfl rfl rfl ?_
                  refine St.p rfl rfl ?_
                  refine St.doneQ ?_
                  injection hj1 with hj1
                  subst hj1
                  refine St.thenN ?_
                  exact St.hereE () ⟨rfl, rfl, rfl, rfl, trivial⟩ (fun _ w => ((.k (.k (.k (.k (.k .z))))) : Keep _ _).sat w)
                · replace hj1 := bif_f hb6 hj1
                  refine St.gOn (dj := 40) rfl rfl ?_
                  refine St.p rfl rfl ?_
                  refine St.gOn (dj := 40) rfl rfl ?_
                  refine St.loadB 14 rfl rfl (.head _) rfl rfl ?_
                  refine St.gOn (dj := 40) rfl rfl ?_
                  refine St.p rfl rfl ?_
                  refine St.gOn (dj := 40) rfl rfl ?_
                  obtain ⟨x1, hx1, hj1⟩ := bnd_e hj1
                  refine St.ixP (sz := 6) hx1 rfl rfl rfl rfl rfl rfl rfl rfl ?_
                  refine St.gOn (dj := 40) rfl rfl ?_
                  refine St.ldP (ls := l_T_Slot) 0 [.string r4.2.Name] [.int .i64 r4.2.Active, .int .i64 r4.2.Running, .bool r4.2.Trial] [(r4.2.Slots.e0, ((A12, c12), ())), (r4.2.Slots.e1, ((A13, c13), ()))] (fun ex => .agg (bx_T_Slot x1 ex.1.1 ex.1.2).toArray) hx1 rfl rfl (.head _) rfl rfl rfl ⟨(.tail _ (.tail _ (.head _))), (.tail _ (.tail _ (.tail _ (.head _)))), trivial⟩ rfl (fun _ => rfl) fun ex1 => ?_
                  obtain ⟨⟨A14, c14⟩, _⟩ := ex1
                  refine St.asrt (F' := .ro (SlL eu8 A14 c14 x1.Image.Data) :: .res (Box g3 35 (bx_T_Device r4.2 A12 c12 A13 c13)) :: .ro (SlL eu8 A11 c11 r4.1.L) :: .ro (SlL eu8 A12 c12 r4.2.Slots.e0.Image.Data) :: .ro (SlL eu8 A13 c13 r4.2.Slots.e1.Image.Data) :: .res (Box g1 63 [.slice A11 r4.1.L.length c11, .int .i64 r4.1.At]) :: R) (fun _ w => w) ?_
                  refine St.gOn (dj := 40) rfl rfl ?_
                  obtain ⟨r6, hr6, hj1⟩ := bnd_e hj1
                  refine St.callV (c_bank_Whole hr6) ent33 rfl rfl rfl rfl ⟨(.head _), trivial⟩ ?_
                  refine St.gOn (dj := 40) rfl rfl ?_
                  iterate 3 refine St.p rfl rfl ?_
                  refine St.gSplit (dj := 49) _ rfl (fun hb7 => ?_) (fun hb7 => ?_)
                  · replace hj1 := bif_t hb7 hj1
                    refine St.gOff (dj := 49) rfl rfl rfl rfl ?_
                    refine St.gOff (dj := 49) rfl rfl rfl rfl ?_
                    refine St.gOff (dj := 49) rfl rfl rfl rfl ?_
                    refine St.gOff (dj := 49) rfl rfl rfl rfl ?_
                    refine St.gOff (dj := 49) rfl rfl rfl rfl ?_
                    refine St.gOff (dj := 49) rfl rfl rfl rfl ?_
                    refine St.gOff (dj := 49) rfl rfl rfl rfl ?_
                    refine St.gOff (dj := 49) rfl rfl rfl rfl ?_
                    refine St.p rfl rfl ?_
                    refine St.p rfl rfl ?_
                    refine St.gOff (dj := 59) rfl rfl rfl rfl ?_
                    refine St.gOff (dj := 59) rfl rfl rfl rfl ?_
                    refine St.gOff (dj := 59) rfl rfl rfl rfl ?_
                    refine St.gOff (dj := 59) rfl rfl rfl rfl ?_
                    refine St.gOff (dj := 59) rfl rfl rfl rfl ?_
                    refine St.gOff (dj := 59) rfl rfl rfl rfl ?_
                    refine St.gOff (dj := 59) rfl rfl rfl rfl ?_
                    refine St.gOff (dj := 59) rfl rfl rfl rfl ?_
                    refine St.gOff (dj := 59) rfl rfl rfl rfl ?_
                    refine St.gOff (dj := 59) rfl rfl rfl rfl ?_
                    refine St.p rfl rfl ?_
                    refine St.doneQ ?_
                    injection hj1 with hj1
                    subst hj1
                    refine St.thenN ?_
                    exact St.hereE () ⟨rfl, rfl, rfl, rfl, trivial⟩ (fun _ w => ((.d (.k (.k (.k (.k (.k .z)))))) : Keep _ _).sat w)
                  · replace hj1 := bif_f hb7 hj1
                    refine St.gOn (dj := 49) rfl rfl ?_
                    refine St.p rfl rfl ?_
                    refine St.gOn (dj := 49) rfl rfl ?_
                    refine St.loadB 14 rfl rfl (.tail _ (.head _)) rfl rfl ?_
                    refine St.gOn (dj := 49) rfl rfl ?_
                    refine St.p rfl rfl ?_
                    refine St.gOn (dj := 49) rfl rfl ?_
                    refine St.ixP (sz := 6) hx1 rfl rfl rfl rfl rfl rfl rfl rfl ?_
                    refine St.gOn (dj := 49) rfl rfl ?_
                    refine St.p rfl rfl ?_
                    refine St.gOn (dj := 49) rfl rfl ?_
                    refine St.p rfl rfl ?_
                    refine St.gOn (dj := 49) rfl rfl ?_
                    refine St.ldP (ls := l_T_Slot) 0 [.string r4.2.Name] [.int .i64 r4.2.Active, .int .i64 r4.2.Running, .bool r4.2.Trial] [(r4.2.Slots.e0, ((A12, c12), ())), (r4.2.Slots.e1, ((A13, c13), ()))] (fun ex => .string x1.Image.Name) hx1 rfl rfl (.tail _ (.head _)) rfl rfl rfl ⟨(.tail _ (.tail _ (.tail _ (.head _)))), (.tail _ (.tail _ (.tail _ (.tail _ (.head _))))), trivial⟩ rfl (fun _ => rfl) fun ex2 => ?_
                    obtain ⟨⟨A15, c15⟩, _⟩ := ex2
                    refine St.asrt (F' := .ro (SlL eu8 A15 c15 x1.Image.Data) :: .ro (SlL eu8 A14 c14 x1.Image.Data) :: .res (Box g3 35 (bx_T_Device r4.2 A12 c12 A13 c13)) :: .ro (SlL eu8 A11 c11 r4.1.L) :: .ro (SlL eu8 A12 c12 r4.2.Slots.e0.Image.Data) :: .ro (SlL eu8 A13 c13 r4.2.Slots.e1.Image.Data) :: .res (Box g1 63 [.slice A11 r4.1.L.length c11, .int .i64 r4.1.At]) :: R) (fun _ w => w) ?_
                    refine St.gOn (dj := 49) rfl rfl ?_
                    iterate 3 refine St.p rfl rfl ?_
                    refine St.gSplit (dj := 59) _ rfl (fun hb8 => ?_) (fun hb8 => ?_)
                    · replace hj1 := bif_t hb8 hj1
                      refine St.gOff (dj := 59) rfl rfl rfl rfl ?_
                      refine St.gOff (dj := 59) rfl rfl rfl rfl ?_
                      refine St.gOff (dj := 59) rfl rfl rfl rfl ?_
                      refine St.gOff (dj := 59) rfl rfl rfl rfl ?_
                      refine St.gOff (dj := 59) rfl rfl rfl rfl ?_
                      refine St.gOff (dj := 59) rfl rfl rfl rfl ?_
                      refine St.gOff (dj := 59) rfl rfl rfl rfl ?_
                      refine St.gOff (dj := 59) rfl rfl rfl rfl ?_
                      refine St.gOff (dj := 59) rfl rfl rfl rfl ?_
                      refine St.gOff (dj := 59) rfl rfl rfl rfl ?_
                      refine St.p rfl rfl ?_
                      refine St.doneQ ?_
                      injection hj1 with hj1
                      subst hj1
                      refine St.thenN ?_
                      exact St.hereE () ⟨rfl, rfl, rfl, rfl, trivial⟩ (fun _ w => ((.d (.d (.k (.k (.k (.k (.k .z))))))) : Keep _ _).sat w)
                    · replace hj1 := bif_f hb8 hj1
                      refine St.gOn (dj := 59) rfl rfl ?_
                      refine St.loadB 0 rfl rfl (.tail _ (.tail _ (.head _))) rfl rfl ?_
                      refine St.gOn (dj := 59) rfl rfl ?_
                      obtain ⟨r7, hr7, hj1⟩ := bnd_e hj1
                      refine St.callV (c_bank_Version hr7) ent31 rfl rfl rfl rfl ⟨(.tail _ (.tail _ (.tail _ (.tail _ (.head _))))), (.tail _ (.tail _ (.tail _ (.tail _ (.tail _ (.head _)))))), trivial⟩ ?_
                      refine St.gOn (dj := 59) rfl rfl ?_
                      refine St.p rfl rfl ?_
                      refine St.gOn (dj := 59) rfl rfl ?_
                      refine St.loadB 14 rfl rfl (.tail _ (.tail _ (.head _))) rfl rfl ?_
                      refine St.gOn (dj := 59) rfl rfl ?_
                      refine St.p rfl rfl ?_
                      refine St.gOn (dj := 59) rfl rfl ?_
                      refine St.ixP (sz := 6) hx1 rfl rfl rfl rfl rfl rfl rfl rfl ?_
                      refine St.gOn (dj := 59) rfl rfl ?_
                      refine St.p rfl rfl ?_
                      refine St.gOn (dj := 59) rfl rfl ?_
                      refine St.p rfl rfl ?_
                      refine St.gOn (dj := 59) rfl rfl ?_
                      refine St.ldP (ls := l_T_Slot) 1 [.string r4.2.Name] [.int .i64 r4.2.Active, .int .i64 r4.2.Running, .bool r4.2.Trial] [(r4.2.Slots.e0, ((A12, c12), ())), (r4.2.Slots.e1, ((A13, c13), ()))] (fun ex => .agg #[.int .i64 x1.Image.Version.Major, .int .i64 x1.Image.Version.Minor, .int .i64 x1.Image.Version.Patch]) hx1 rfl rfl (.tail _ (.tail _ (.head _))) rfl rfl rfl ⟨(.tail _ (.tail _ (.tail _ (.tail _ (.head _))))), (.tail _ (.tail _ (.tail _ (.tail _ (.tail _ (.head _)))))), trivial⟩ rfl (fun _ => rfl) fun ex3 => ?_
                      obtain ⟨⟨A16, c16⟩, _⟩ := ex3
                      refine St.asrt (F' := .ro (SlL eu8 A16 c16 x1.Image.Data) :: .ro (SlL eu8 A15 c15 x1.Image.Data) :: .ro (SlL eu8 A14 c14 x1.Image.Data) :: .res (Box g3 35 (bx_T_Device r4.2 A12 c12 A13 c13)) :: .ro (SlL eu8 A11 c11 r4.1.L) :: .ro (SlL eu8 A12 c12 r4.2.Slots.e0.Image.Data) :: .ro (SlL eu8 A13 c13 r4.2.Slots.e1.Image.Data) :: .res (Box g1 63 [.slice A11 r4.1.L.length c11, .int .i64 r4.1.At]) :: R) (fun _ w => w) ?_
                      refine St.gOn (dj := 59) rfl rfl ?_
                      refine St.p rfl rfl ?_
                      refine St.p rfl rfl ?_
                      refine St.doneQ ?_
                      injection hj1 with hj1
                      subst hj1
                      refine St.thenN ?_
                      exact St.hereE () ⟨rfl, rfl, rfl, rfl, trivial⟩ (fun _ w => ((.d (.d (.d (.k (.k (.k (.k (.k .z)))))))) : Keep _ _).sat w)
          · rintro e3
            refine St.cond _ rfl (fun hb9 => ?_) (fun hb9 => ?_)
            · replace h1 := bif_t hb9 h1
              refine St.seq ?_
              refine St.region ?_
              refine St.p rfl rfl ?_
              refine St.done ?_
              refine St.thenN ?_
              refine St.prune (Γ' := [(2, _)]) ⟨rfl, trivial⟩ (.d (.d (.d (.d (.d .z))))) ?_
              refine St.ret ?_
              repeat (first | refine St.thenR ?_ | refine St.blkR ?_)
              injection h1 with h1
              subst h1
              have ho := hd1 _ rfl
              subst ho
              have h : some _ = some _ := h
              injection h with h
              subst h
              exact St.finR Try.results8 (.tmp rfl .nil) rfl [] ⟨rfl, rfl⟩ (fun _ w => (.z : Keep _ _).sat w)
            · replace h1 := bif_f hb9 h1
              refine St.skip ?_
              refine St.blkN ?_
              refine St.thenN ?_
              refine St.prune (Γ' := [(3, _), (4, _), (6, _)]) ⟨rfl, rfl, rfl, trivial⟩ (.k (.k (.k (.k (.k .z))))) ?_
              refine St.region ?_
              iterate 3 refine St.p rfl rfl ?_
              refine St.done ?_
              injection h1 with h1
              subst h1
              refine St.thenN ?_
              exact St.again _ (A12, c12, A13, c13, A11, c11) hm1 trivial ⟨rfl, rfl, rfl, trivial⟩ (fun _ w => ((.k (.k (.k (.k (.k .z))))) : Keep _ _).sat (((((w.front (.s (.s (.s (.s .z))))).front (.s .z)).front (.s (.s (.s .z)))).front (.s (.s (.s (.s .z))))).front (.s (.s (.s (.s .z))))))
        · replace h1 := bif_f hb3 h1
          refine St.exit ?_
          repeat (first | refine St.thenX ?_ | refine St.blkMiss rfl ?_)
          refine St.blkHit ?_
          injection h1 with h1
          subst h1
          have ho := hd1 _ rfl
          subst ho
          refine St.thenN ?_
          exact St.hereI (s1.1, s1.2.2.1, s1.2.2.2) (A5, c5, A6, c6, A7, c7) rfl trivial (fun _ w => ((.d (.d (.d (.d (.d .z))))) : Keep _ _).sat w)
      · rintro o2 ⟨A8, c8, A9, c9, A10, c10⟩ ho
        subst ho
        have h : _ = some _ := h
        refine St.seq ?_
        refine St.region ?_
        refine St.p rfl rfl ?_
        refine St.done ?_
        refine St.thenN ?_
        refine St.ret ?_
        repeat (first | refine St.thenR ?_ | refine St.blkR ?_)
        injection h with h
        subst h
        exact St.finR Try.results8 (.tmp rfl .nil) rfl [] ⟨rfl, rfl⟩ (fun _ w => (.z : Keep _ _).sat w)

end Go.Proofs.Ytcjhemblnemhfaa
