/-
  Models of functions of the program, and that the functions compute them.
  Conditions: none.
-/
import Derived.Test.YtcjhemblnemhfaaGen
namespace Go.Proofs.Ytcjhemblnemhfaa
open Go
set_option linter.unusedVariables false

theorem ent6 : Ent Try.prog 6 := ⟨_, Try.func6, by kernel_rfl, by kernel_rfl⟩

noncomputable def m_law29_BankTries (codes : (List Int)) : Option Bool :=
  bnd (m_law29_awake) fun r1 => bif !r1 then (some false) else (bnd (m_field_New codes 100) fun r2 => bnd (m_field_Codes_Device r2 (⟨#[109, 101]⟩)) fun r3 => bnd (m_bank_Switch r3.2) fun r4 => bif (r4.2 != 0) then (some true) else (bnd (elt [r3.2.Slots.e0, r3.2.Slots.e1] r3.2.Running) fun x1 => bnd (elt [r3.2.Slots.e0, r3.2.Slots.e1] (IntKind.wrap .i64 (1 - r3.2.Running))) fun x2 => bnd (m_bank_Boot r4.1) fun r5 => bnd (m_bank_Boot r5) fun r6 => bnd (m_bank_Confirm r5) fun r7 => bnd (m_bank_Boot r7.1) fun r8 => bnd (m_bank_Boot r8) fun r9 => bnd ((bif (r7.2 == 0) then (bnd (elt [r5.Slots.e0, r5.Slots.e1] r5.Running) fun x3 => bnd (m_ref28_SameImage x3.Image x2.Image) fun r10 => bif r10 then (bnd (elt [r6.Slots.e0, r6.Slots.e1] r6.Running) fun x4 => bnd (m_ref28_SameImage x4.Image x1.Image) fun r11 => bif r11 then (bnd (elt [r9.Slots.e0, r9.Slots.e1] r9.Running) fun x5 => bnd (m_ref28_SameImage x5.Image x2.Image) fun r12 => bif r12 then (bnd (m_bank_Boot r6) fun r13 => bnd (m_ref29_Same r6 r13) fun r14 => some r14) else (some false)) else (some false)) else (some false)) else (some false) : Option Bool)) fun o1 => some o1))

set_option maxHeartbeats 4000000 in
theorem c_law29_BankTries {codes : (List Int)} {A1 : Option Addr} {c1 : Nat} {r : Bool} (h : m_law29_BankTries codes = some r) :
    Fun Try.prog 6 [.slice A1 codes.length c1] [.ro (SlL eu8 A1 c1 codes)] (Val (.bool r)) := by
  unfold m_law29_BankTries at h
  refine Fun.intro Try.func6 rfl rfl rfl fun w R => ?_
  refine St.seq ?_
  refine St.region ?_
  refine St.p rfl rfl ?_
  refine St.done ?_
  refine St.thenN ?_
  refine St.prune (Γ' := [(0, _)]) ⟨rfl, trivial⟩ (.k .z) ?_
  refine St.seq ?_
  refine St.seq ?_
  refine St.region ?_
  obtain ⟨r1, hr1, h⟩ := bnd_e h
  refine St.callV (c_law29_awake hr1) ent9 rfl rfl rfl rfl trivial ?_
  refine St.p rfl rfl ?_
  refine St.done ?_
  refine St.thenN ?_
  refine St.prune (Γ' := [(0, _), (14, _)]) ⟨rfl, rfl, trivial⟩ (.k .z) ?_
  refine St.cond _ rfl (fun hb1 => ?_) (fun hb1 => ?_)
  · replace h := bif_t hb1 h
    refine St.seq ?_
    refine St.region ?_
    refine St.p rfl rfl ?_
    refine St.done ?_
    refine St.thenN ?_
    refine St.prune (Γ' := [(2, _)]) ⟨rfl, trivial⟩ (.d .z) ?_
    refine St.ret ?_
    repeat (first | refine St.thenR ?_ | refine St.blkR ?_)
    injection h with h
    subst h
    exact St.finR Try.results6 (.tmp rfl .nil) rfl [] ⟨rfl, rfl⟩ (fun _ w => (.z : Keep _ _).sat w)
  · replace h := bif_f hb1 h
    refine St.skip ?_
    refine St.thenN ?_
    refine St.prune (Γ' := [(0, _)]) ⟨rfl, trivial⟩ (.k .z) ?_
    refine St.seq ?_
    refine St.region ?_
    refine St.p rfl rfl ?_
    obtain ⟨r2, hr2, h⟩ := bnd_e h
    refine St.call (c_field_New hr2) ent10 rfl rfl rfl (fun _ w => Sat.dup (G := [.ro (SlL eu8 A1 c1 codes)]) rfl ⟨(.head _), trivial⟩ w) ?_
    rintro _ _ ⟨g1, A2, c2, rfl, rfl⟩
    refine St.asrt (F' := .ro (SlL eu8 A2 c2 r2.L) :: .res (Box g1 63 [.slice A2 r2.L.length c2, .int .i64 r2.At]) :: .ro (SlL eu8 A1 c1 codes) :: R) (fun _ w => w) ?_
    refine St.p rfl rfl ?_
    refine St.done ?_
    refine St.thenN ?_
    refine St.prune (Γ' := [(3, _)]) ⟨rfl, trivial⟩ (.k (.k (.d .z))) ?_
    refine St.seq ?_
    refine St.region ?_
    refine St.p rfl rfl ?_
    obtain ⟨r3, hr3, h⟩ := bnd_e h
    refine St.call (c_field_Codes_Device hr3) ent18 rfl rfl rfl (fun _ w => Sat.dup (G := [.ro (SlL eu8 A2 c2 r2.L)]) rfl ⟨(.tail _ (.head _)), trivial⟩ (w.front (.s .z))) ?_
    rintro _ _ ⟨A3, c3, A4, c4, A5, c5, rfl, rfl⟩
    refine St.asrt (F' := .ro (SlL eu8 A3 c3 r3.1.L) :: .ro (SlL eu8 A4 c4 r3.2.Slots.e0.Image.Data) :: .ro (SlL eu8 A5 c5 r3.2.Slots.e1.Image.Data) :: .res (Box g1 63 [.slice A3 r3.1.L.length c3, .int .i64 r3.1.At]) :: .ro (SlL eu8 A2 c2 r2.L) :: R) (fun _ w => w) ?_
    refine St.alloc rfl rfl fun g2 => ?_
    refine St.store 0 rfl rfl rfl rfl rfl rfl .z rfl ?_
    refine St.done ?_
    refine St.thenN ?_
    refine St.prune (Γ' := [(4, _)]) ⟨rfl, trivial⟩ (.k (.d (.k (.k (.d (.d .z)))))) ?_
    refine St.seq ?_
    refine St.region ?_
    refine St.loadB 0 rfl rfl (.head _) rfl rfl ?_
    obtain ⟨r4, hr4, h⟩ := bnd_e h
    refine St.call (c_bank_Switch hr4) ent14 rfl rfl rfl (fun _ w => Sat.dup (G := [.ro (SlL eu8 A4 c4 r3.2.Slots.e0.Image.Data), .ro (SlL eu8 A5 c5 r3.2.Slots.e1.Image.Data)]) rfl ⟨(.tail _ (.head _)), (.tail _ (.tail _ (.head _))), trivial⟩ w) ?_
    rintro _ _ ⟨A6, c6, A7, c7, rfl, rfl⟩
    refine St.asrt (F' := .ro (SlL eu8 A6 c6 r4.1.Slots.e0.Image.Data) :: .ro (SlL eu8 A7 c7 r4.1.Slots.e1.Image.Data) :: .res (Box g2 35 (bx_T_Device r3.2 A4 c4 A5 c5)) :: .ro (SlL eu8 A4 c4 r3.2.Slots.e0.Image.Data) :: .ro (SlL eu8 A5 c5 r3.2.Slots.e1.Image.Data) :: R) (fun _ w => w) ?_
    iterate 3 refine St.p rfl rfl ?_
    refine St.alloc rfl rfl fun g3 => ?_
    refine St.store 0 rfl rfl rfl rfl rfl rfl .z rfl ?_
    refine St.p rfl rfl ?_
    refine St.done ?_
    refine St.thenN ?_
    refine St.prune (Γ' := [(4, _), (5, _), (6, _)]) ⟨rfl, rfl, rfl, trivial⟩ (.k (.k (.k (.k (.k (.k .z)))))) ?_
    refine St.seq ?_
    refine St.seq ?_
    refine St.region ?_
    refine St.p rfl rfl ?_
    refine St.p rfl rfl ?_
    refine St.done ?_
    refine St.thenN ?_
    refine St.prune (Γ' := [(4, _), (5, _), (25, _)]) ⟨rfl, rfl, rfl, trivial⟩ (.k (.k (.k (.k (.k (.k .z)))))) ?_
    refine St.cond _ rfl (fun hb2 => ?_) (fun hb2 => ?_)
    · replace h := bif_t hb2 h
      refine St.seq ?_
      refine St.region ?_
      refine St.p rfl rfl ?_
      refine St.done ?_
      refine St.thenN ?_
      refine St.prune (Γ' := [(2, _)]) ⟨rfl, trivial⟩ (.d (.d (.d (.d (.d (.d .z)))))) ?_
      refine St.ret ?_
      repeat (first | refine St.thenR ?_ | refine St.blkR ?_)
      injection h with h
      subst h
      exact St.finR Try.results6 (.tmp rfl .nil) rfl [] ⟨rfl, rfl⟩ (fun _ w => (.z : Keep _ _).sat w)
    · replace h := bif_f hb2 h
      refine St.skip ?_
      refine St.thenN ?_
      refine St.prune (Γ' := [(4, _), (5, _)]) ⟨rfl, rfl, trivial⟩ (.k (.k (.k (.k (.k (.k .z)))))) ?_
      refine St.seq ?_
      obtain ⟨x1, hx1, h⟩ := bnd_e h
      obtain ⟨x2, hx2, h⟩ := bnd_e h
      refine St.regionX (iL [(.fl, 0), (.fl, 1), (.fl, 2), (.fl, 6), (.fl, 7), (.fl, 8), (.fl, 9)] (.alt (iL [(.ef, 3), (.fl, 4)] (.alt (iL [(.ef, 5)] (.alt (iL [(.ef, 10), (.fl, 11)] (.alt (iL [(.ef, 12)] (.alt (iL [(.ef, 13)] (iL [(.ef, 14)] (iL [(.ef, 15)] (iL [(.ef, 16)] .nil)))) (iL [(.ef, 14)] (iL [(.ef, 13)] (iL [(.ef, 15)] (iL [(.ef, 16)] .nil)))))) (.alt (iL [(.ef, 13)] (.alt (iL [(.ef, 12)] (iL [(.ef, 14)] (iL [(.ef, 15)] (iL [(.ef, 16)] .nil)))) (iL [(.ef, 14)] (.alt (iL [(.ef, 12)] (iL [(.ef, 15)] (iL [(.ef, 16)] .nil))) (iL [(.ef, 15)] (iL [(.ef, 12)] (iL [(.ef, 16)] .nil))))))) (iL [(.ef, 14)] (.alt (iL [(.ef, 12)] (iL [(.ef, 13)] (iL [(.ef, 15)] (iL [(.ef, 16)] .nil)))) (iL [(.ef, 13)] (.alt (iL [(.ef, 12)] (iL [(.ef, 15)] (iL [(.ef, 16)] .nil))) (iL [(.ef, 15)] (iL [(.ef, 12)] (iL [(.ef, 16)] .nil)))))))))) (.alt (iL [(.ef, 13)] (.alt (iL [(.ef, 10), (.fl, 11)] (.alt (iL [(.ef, 12)] (iL [(.ef, 14)] (iL [(.ef, 15)] (iL [(.ef, 16)] .nil)))) (iL [(.ef, 14)] (.alt (iL [(.ef, 12)] (iL [(.ef, 15)] (iL [(.ef, 16)] .nil))) (iL [(.ef, 15)] (iL [(.ef, 12)] (iL [(.ef, 16)] .nil))))))) (iL [(.ef, 14)] (.alt (iL [(.ef, 10), (.fl, 11)] (.alt (iL [(.ef, 12)] (iL [(.ef, 15)] (iL [(.ef, 16)] .nil))) (iL [(.ef, 15)] (iL [(.ef, 12)] (iL [(.ef, 16)] .nil))))) (iL [(.ef, 15)] (iL [(.ef, 10), (.fl, 11)] (iL [(.ef, 12)] (iL [(.ef, 16)] .nil)))))))) (iL [(.ef, 14)] (.alt (iL [(.ef, 10), (.fl, 11)] (.alt (iL [(.ef, 12)] (iL [(.ef, 13)] (iL [(.ef, 15)] (iL [(.ef, 16)] .nil)))) (iL [(.ef, 13)] (.alt (iL [(.ef, 12)] (iL [(.ef, 15)] (iL [(.ef, 16)] .nil))) (iL [(.ef, 15)] (iL [(.ef, 12)] (iL [(.ef, 16)] .nil))))))) (iL [(.ef, 13)] (.alt (iL [(.ef, 10), (.fl, 11)] (.alt (iL [(.ef, 12)] (iL [(.ef, 15)] (iL [(.ef, 16)] .nil))) (iL [(.ef, 15)] (iL [(.ef, 12)] (iL [(.ef, 16)] .nil))))) (iL [(.ef, 15)] (iL [(.ef, 10), (.fl, 11)] (iL [(.ef, 12)] (iL [(.ef, 16)] .nil))))))))))) (.alt (iL [(.ef, 10), (.fl, 11)] (.alt (iL [(.ef, 5)] (.alt (iL [(.ef, 12)] (.alt (iL [(.ef, 13)] (iL [(.ef, 14)] (iL [(.ef, 15)] (iL [(.ef, 16)] .nil)))) (iL [(.ef, 14)] (iL [(.ef, 13)] (iL [(.ef, 15)] (iL [(.ef, 16)] .nil)))))) (.alt (iL [(.ef, 13)] (.alt (iL [(.ef, 12)] (iL [(.ef, 14)] (iL [(.ef, 15)] (iL [(.ef, 16)] .nil)))) (iL [(.ef, 14)] (.alt (iL [(.ef, 12)] (iL [(.ef, 15)] (iL [(.ef, 16)] .nil))) (iL [(.ef, 15)] (iL [(.ef, 12)] (iL [(.ef, 16)] .nil))))))) (iL [(.ef, 14)] (.alt (iL [(.ef, 12)] (iL [(.ef, 13)] (iL [(.ef, 15)] (iL [(.ef, 16)] .nil)))) (iL [(.ef, 13)] (.alt (iL [(.ef, 12)] (iL [(.ef, 15)] (iL [(.ef, 16)] .nil))) (iL [(.ef, 15)] (iL [(.ef, 12)] (iL [(.ef, 16)] .nil)))))))))) (.alt (iL [(.ef, 12)] (.alt (iL [(.ef, 5)] (.alt (iL [(.ef, 13)] (iL [(.ef, 14)] (iL [(.ef, 15)] (iL [(.ef, 16)] .nil)))) (iL [(.ef, 14)] (iL [(.ef, 13)] (iL [(.ef, 15)] (iL [(.ef, 16)] .nil)))))) (.alt (iL [(.ef, 13)] (.alt (iL [(.ef, 5)] (iL [(.ef, 14)] (iL [(.ef, 15)] (iL [(.ef, 16)] .nil)))) (iL [(.ef, 14)] (iL [(.ef, 5)] (iL [(.ef, 15)] (iL [(.ef, 16)] .nil)))))) (iL [(.ef, 14)] (.alt (iL [(.ef, 5)] (iL [(.ef, 13)] (iL [(.ef, 15)] (iL [(.ef, 16)] .nil)))) (iL [(.ef, 13)] (iL [(.ef, 5)] (iL [(.ef, 15)] (iL [(.ef, 16)] .nil))))))))) (.alt (iL [(.ef, 13)] (.alt (iL [(.ef, 5)] (.alt (iL [(.ef, 12)] (iL [(.ef, 14)] (iL [(.ef, 15)] (iL [(.ef, 16)] .nil)))) (iL [(.ef, 14)] (.alt (iL [(.ef, 12)] (iL [(.ef, 15)] (iL [(.ef, 16)] .nil))) (iL [(.ef, 15)] (iL [(.ef, 12)] (iL [(.ef, 16)] .nil))))))) (.alt (iL [(.ef, 12)] (.alt (iL [(.ef, 5)] (iL [(.ef, 14)] (iL [(.ef, 15)] (iL [(.ef, 16)] .nil)))) (iL [(.ef, 14)] (iL [(.ef, 5)] (iL [(.ef, 15)] (iL [(.ef, 16)] .nil)))))) (iL [(.ef, 14)] (.alt (iL [(.ef, 5)] (.alt (iL [(.ef, 12)] (iL [(.ef, 15)] (iL [(.ef, 16)] .nil))) (iL [(.ef, 15)] (iL [(.ef, 12)] (iL [(.ef, 16)] .nil))))) (iL [(.ef, 12)] (iL [(.ef, 5)] (iL [(.ef, 15)] (iL [(.ef, 16)] .nil))))))))) (iL [(.ef, 14)] (.alt (iL [(.ef, 5)] (.alt (iL [(.ef, 12)] (iL [(.ef, 13)] (iL [(.ef, 15)] (iL [(.ef, 16)] .nil)))) (iL [(.ef, 13)] (.alt (iL [(.ef, 12)] (iL [(.ef, 15)] (iL [(.ef, 16)] .nil))) (iL [(.ef, 15)] (iL [(.ef, 12)] (iL [(.ef, 16)] .nil))))))) (.alt (iL [(.ef, 12)] (.alt (iL [(.ef, 5)] (iL [(.ef, 13)] (iL [(.ef, 15)] (iL [(.ef, 16)] .nil)))) (iL [(.ef, 13)] (iL [(.ef, 5)] (iL [(.ef, 15)] (iL [(.ef, 16)] .nil)))))) (iL [(.ef, 13)] (.alt (iL [(.ef, 5)] (.alt (iL [(.ef, 12)] (iL [(.ef, 15)] (iL [(.ef, 16)] .nil))) (iL [(.ef, 15)] (iL [(.ef, 12)] (iL [(.ef, 16)] .nil))))) (iL [(.ef, 12)] (iL [(.ef, 5)] (iL [(.ef, 15)] (iL [(.ef, 16)] .nil))))))))))))) (.alt (iL [(.ef, 13)] (.alt (iL [(.ef, 5)] (.alt (iL [(.ef, 10), (.fl, 11)] (.alt (iL [(.ef, 12)] (iL [(.ef, 14)] (iL [(.ef, 15)] (iL [(.ef, 16)] .nil)))) (iL [(.ef, 14)] (.alt (iL [(.ef, 12)] (iL [(.ef, 15)] (iL [(.ef, 16)] .nil))) (iL [(.ef, 15)] (iL [(.ef, 12)] (iL [(.ef, 16)] .nil))))))) (iL [(.ef, 14)] (.alt (iL [(.ef, 10), (.fl, 11)] (.alt (iL [(.ef, 12)] (iL [(.ef, 15)] (iL [(.ef, 16)] .nil))) (iL [(.ef, 15)] (iL [(.ef, 12)] (iL [(.ef, 16)] .nil))))) (iL [(.ef, 15)] (iL [(.ef, 10), (.fl, 11)] (iL [(.ef, 12)] (iL [(.ef, 16)] .nil)))))))) (.alt (iL [(.ef, 10), (.fl, 11)] (.alt (iL [(.ef, 5)] (.alt (iL [(.ef, 12)] (iL [(.ef, 14)] (iL [(.ef, 15)] (iL [(.ef, 16)] .nil)))) (iL [(.ef, 14)] (.alt (iL [(.ef, 12)] (iL [(.ef, 15)] (iL [(.ef, 16)] .nil))) (iL [(.ef, 15)] (iL [(.ef, 12)] (iL [(.ef, 16)] .nil))))))) (.alt (iL [(.ef, 12)] (.alt (iL [(.ef, 5)] (iL [(.ef, 14)] (iL [(.ef, 15)] (iL [(.ef, 16)] .nil)))) (iL [(.ef, 14)] (iL [(.ef, 5)] (iL [(.ef, 15)] (iL [(.ef, 16)] .nil)))))) (iL [(.ef, 14)] (.alt (iL [(.ef, 5)] (.alt (iL [(.ef, 12)] (iL [(.ef, 15)] (iL [(.ef, 16)] .nil))) (iL [(.ef, 15)] (iL [(.ef, 12)] (iL [(.ef, 16)] .nil))))) (iL [(.ef, 12)] (iL [(.ef, 5)] (iL [(.ef, 15)] (iL [(.ef, 16)] .nil))))))))) (iL [(.ef, 14)] (.alt (iL [(.ef, 5)] (.alt (iL [(.ef, 10), (.fl, 11)] (.alt (iL [(.ef, 12)] (iL [(.ef, 15)] (iL [(.ef, 16)] .nil))) (iL [(.ef, 15)] (iL [(.ef, 12)] (iL [(.ef, 16)] .nil))))) (iL [(.ef, 15)] (iL [(.ef, 10), (.fl, 11)] (iL [(.ef, 12)] (iL [(.ef, 16)] .nil)))))) (iL [(.ef, 10), (.fl, 11)] (.alt (iL [(.ef, 5)] (.alt (iL [(.ef, 12)] (iL [(.ef, 15)] (iL [(.ef, 16)] .nil))) (iL [(.ef, 15)] (iL [(.ef, 12)] (iL [(.ef, 16)] .nil))))) (iL [(.ef, 12)] (iL [(.ef, 5)] (iL [(.ef, 15)] (iL [(.ef, 16)] .nil))))))))))) (iL [(.ef, 14)] (.alt (iL [(.ef, 5)] (.alt (iL [(.ef, 10), (.fl, 11)] (.alt (iL [(.ef, 12)] (iL [(.ef, 13)] (iL [(.ef, 15)] (iL [(.ef, 16)] .nil)))) (iL [(.ef, 13)] (.alt (iL [(.ef, 12)] (iL [(.ef, 15)] (iL [(.ef, 16)] .nil))) (iL [(.ef, 15)] (iL [(.ef, 12)] (iL [(.ef, 16)] .nil))))))) (iL [(.ef, 13)] (.alt (iL [(.ef, 10), (.fl, 11)] (.alt (iL [(.ef, 12)] (iL [(.ef, 15)] (iL [(.ef, 16)] .nil))) (iL [(.ef, 15)] (iL [(.ef, 12)] (iL [(.ef, 16)] .nil))))) (iL [(.ef, 15)] (iL [(.ef, 10), (.fl, 11)] (iL [(.ef, 12)] (iL [(.ef, 16)] .nil)))))))) (.alt (iL [(.ef, 10), (.fl, 11)] (.alt (iL [(.ef, 5)] (.alt (iL [(.ef, 12)] (iL [(.ef, 13)] (iL [(.ef, 15)] (iL [(.ef, 16)] .nil)))) (iL [(.ef, 13)] (.alt (iL [(.ef, 12)] (iL [(.ef, 15)] (iL [(.ef, 16)] .nil))) (iL [(.ef, 15)] (iL [(.ef, 12)] (iL [(.ef, 16)] .nil))))))) (.alt (iL [(.ef, 12)] (.alt (iL [(.ef, 5)] (iL [(.ef, 13)] (iL [(.ef, 15)] (iL [(.ef, 16)] .nil)))) (iL [(.ef, 13)] (iL [(.ef, 5)] (iL [(.ef, 15)] (iL [(.ef, 16)] .nil)))))) (iL [(.ef, 13)] (.alt (iL [(.ef, 5)] (.alt (iL [(.ef, 12)] (iL [(.ef, 15)] (iL [(.ef, 16)] .nil))) (iL [(.ef, 15)] (iL [(.ef, 12)] (iL [(.ef, 16)] .nil))))) (iL [(.ef, 12)] (iL [(.ef, 5)] (iL [(.ef, 15)] (iL [(.ef, 16)] .nil))))))))) (iL [(.ef, 13)] (.alt (iL [(.ef, 5)] (.alt (iL [(.ef, 10), (.fl, 11)] (.alt (iL [(.ef, 12)] (iL [(.ef, 15)] (iL [(.ef, 16)] .nil))) (iL [(.ef, 15)] (iL [(.ef, 12)] (iL [(.ef, 16)] .nil))))) (iL [(.ef, 15)] (iL [(.ef, 10), (.fl, 11)] (iL [(.ef, 12)] (iL [(.ef, 16)] .nil)))))) (iL [(.ef, 10), (.fl, 11)] (.alt (iL [(.ef, 5)] (.alt (iL [(.ef, 12)] (iL [(.ef, 15)] (iL [(.ef, 16)] .nil))) (iL [(.ef, 15)] (iL [(.ef, 12)] (iL [(.ef, 16)] .nil))))) (iL [(.ef, 12)] (iL [(.ef, 5)] (iL [(.ef, 15)] (iL [(.ef, 16)] .nil))))))))))))))) (.alt (iL [(.ef, 10), (.fl, 11)] (.alt (iL [(.ef, 3), (.fl, 4)] (.alt (iL [(.ef, 5)] (.alt (iL [(.ef, 12)] (.alt (iL [(.ef, 13)] (iL [(.ef, 14)] (iL [(.ef, 15)] (iL [(.ef, 16)] .nil)))) (iL [(.ef, 14)] (iL [(.ef, 13)] (iL [(.ef, 15)] (iL [(.ef, 16)] .nil)))))) (.alt (iL [(.ef, 13)] (.alt (iL [(.ef, 12)] (iL [(.ef, 14)] (iL [(.ef, 15)] (iL [(.ef, 16)] .nil)))) (iL [(.ef, 14)] (.alt (iL [(.ef, 12)] (iL [(.ef, 15)] (iL [(.ef, 16)] .nil))) (iL [(.ef, 15)] (iL [(.ef, 12)] (iL [(.ef, 16)] .nil))))))) (iL [(.ef, 14)] (.alt (iL [(.ef, 12)] (iL [(.ef, 13)] (iL [(.ef, 15)] (iL [(.ef, 16)] .nil)))) (iL [(.ef, 13)] (.alt (iL [(.ef, 12)] (iL [(.ef, 15)] (iL [(.ef, 16)] .nil))) (iL [(.ef, 15)] (iL [(.ef, 12)] (iL [(.ef, 16)] .nil)))))))))) (.alt (iL [(.ef, 12)] (.alt (iL [(.ef, 5)] (.alt (iL [(.ef, 13)] (iL [(.ef, 14)] (iL [(.ef, 15)] (iL [(.ef, 16)] .nil)))) (iL [(.ef, 14)] (iL [(.ef, 13)] (iL [(.ef, 15)] (iL [(.ef, 16)] .nil)))))) (.alt (iL [(.ef, 13)] (.alt (iL [(.ef, 5)] (iL [(.ef, 14)] (iL [(.ef, 15)] (iL [(.ef, 16)] .nil)))) (iL [(.ef, 14)] (iL [(.ef, 5)] (iL [(.ef, 15)] (iL [(.ef, 16)] .nil)))))) (iL [(.ef, 14)] (.alt (iL [(.ef, 5)] (iL [(.ef, 13)] (iL [(.ef, 15)] (iL [(.ef, 16)] .nil)))) (iL [(.ef, 13)] (iL [(.ef, 5)] (iL [(.ef, 15)] (iL [(.ef, 16)] .nil))))))))) (.alt (iL [(.ef, 13)] (.alt (iL [(.ef, 5)] (.alt (iL [(.ef, 12)] (iL [(.ef, 14)] (iL [(.ef, 15)] (iL [(.ef, 16)] .nil)))) (iL [(.ef, 14)] (.alt (iL [(.ef, 12)] (iL [(.ef, 15)] (iL [(.ef, 16)] .nil))) (iL [(.ef, 15)] (iL [(.ef, 12)] (iL [(.ef, 16)] .nil))))))) (.alt (iL [(.ef, 12)] (.alt (iL [(.ef, 5)] (iL [(.ef, 14)] (iL [(.ef, 15)] (iL [(.ef, 16)] .nil)))) (iL [(.ef, 14)] (iL [(.ef, 5)] (iL [(.ef, 15)] (iL [(.ef, 16)] .nil)))))) (iL [(.ef, 14)] (.alt (iL [(.ef, 5)] (.alt (iL [(.ef, 12)] (iL [(.ef, 15)] (iL [(.ef, 16)] .nil))) (iL [(.ef, 15)] (iL [(.ef, 12)] (iL [(.ef, 16)] .nil))))) (iL [(.ef, 12)] (iL [(.ef, 5)] (iL [(.ef, 15)] (iL [(.ef, 16)] .nil))))))))) (iL [(.ef, 14)] (.alt (iL [(.ef, 5)] (.alt (iL [(.ef, 12)] (iL [(.ef, 13)] (iL [(.ef, 15)] (iL [(.ef, 16)] .nil)))) (iL [(.ef, 13)] (.alt (iL [(.ef, 12)] (iL [(.ef, 15)] (iL [(.ef, 16)] .nil))) (iL [(.ef, 15)] (iL [(.ef, 12)] (iL [(.ef, 16)] .nil))))))) (.alt (iL [(.ef, 12)] (.alt (iL [(.ef, 5)] (iL [(.ef, 13)] (iL [(.ef, 15)] (iL [(.ef, 16)] .nil)))) (iL [(.ef, 13)] (iL [(.ef, 5)] (iL [(.ef, 15)] (iL [(.ef, 16)] .nil)))))) (iL [(.ef, 13)] (.alt (iL [(.ef, 5)] (.alt (iL [(.ef, 12)] (iL [(.ef, 15)] (iL [(.ef, 16)] .nil))) (iL [(.ef, 15)] (iL [(.ef, 12)] (iL [(.ef, 16)] .nil))))) (iL [(.ef, 12)] (iL [(.ef, 5)] (iL [(.ef, 15)] (iL [(.ef, 16)] .nil))))))))))))) (.alt (iL [(.ef, 12)] (.alt (iL [(.ef, 3), (.fl, 4)] (.alt (iL [(.ef, 5)] (.alt (iL [(.ef, 13)] (iL [(.ef, 14)] (iL [(.ef, 15)] (iL [(.ef, 16)] .nil)))) (iL [(.ef, 14)] (iL [(.ef, 13)] (iL [(.ef, 15)] (iL [(.ef, 16)] .nil)))))) (.alt (iL [(.ef, 13)] (.alt (iL [(.ef, 5)] (iL [(.ef, 14)] (iL [(.ef, 15)] (iL [(.ef, 16)] .nil)))) (iL [(.ef, 14)] (iL [(.ef, 5)] (iL [(.ef, 15)] (iL [(.ef, 16)] .nil)))))) (iL [(.ef, 14)] (.alt (iL [(.ef, 5)] (iL [(.ef, 13)] (iL [(.ef, 15)] (iL [(.ef, 16)] .nil)))) (iL [(.ef, 13)] (iL [(.ef, 5)] (iL [(.ef, 15)] (iL [(.ef, 16)] .nil))))))))) (.alt (iL [(.ef, 13)] (.alt (iL [(.ef, 3), (.fl, 4)] (.alt (iL [(.ef, 5)] (iL [(.ef, 14)] (iL [(.ef, 15)] (iL [(.ef, 16)] .nil)))) (iL [(.ef, 14)] (iL [(.ef, 5)] (iL [(.ef, 15)] (iL [(.ef, 16)] .nil)))))) (iL [(.ef, 14)] (iL [(.ef, 3), (.fl, 4)] (iL [(.ef, 5)] (iL [(.ef, 15)] (iL [(.ef, 16)] .nil))))))) (iL [(.ef, 14)] (.alt (iL [(.ef, 3), (.fl, 4)] (.alt (iL [(.ef, 5)] (iL [(.ef, 13)] (iL [(.ef, 15)] (iL [(.ef, 16)] .nil)))) (iL [(.ef, 13)] (iL [(.ef, 5)] (iL [(.ef, 15)] (iL [(.ef, 16)] .nil)))))) (iL [(.ef, 13)] (iL [(.ef, 3), (.fl, 4)] (iL [(.ef, 5)] (iL [(.ef, 15)] (iL [(.ef, 16)] .nil)))))))))) (.alt (iL [(.ef, 13)] (.alt (iL [(.ef, 3), (.fl, 4)] (.alt (iL [(.ef, 5)] (.alt (iL [(.ef, 12)] (iL [(.ef, 14)] (iL [(.ef, 15)] (iL [(.ef, 16)] .nil)))) (iL [(.ef, 14)] (.alt (iL [(.ef, 12)] (iL [(.ef, 15)] (iL [(.ef, 16)] .nil))) (iL [(.ef, 15)] (iL [(.ef, 12)] (iL [(.ef, 16)] .nil))))))) (.alt (iL [(.ef, 12)] (.alt (iL [(.ef, 5)] (iL [(.ef, 14)] (iL [(.ef, 15)] (iL [(.ef, 16)] .nil)))) (iL [(.ef, 14)] (iL [(.ef, 5)] (iL [(.ef, 15)] (iL [(.ef, 16)] .nil)))))) (iL [(.ef, 14)] (.alt (iL [(.ef, 5)] (.alt (iL [(.ef, 12)] (iL [(.ef, 15)] (iL [(.ef, 16)] .nil))) (iL [(.ef, 15)] (iL [(.ef, 12)] (iL [(.ef, 16)] .nil))))) (iL [(.ef, 12)] (iL [(.ef, 5)] (iL [(.ef, 15)] (iL [(.ef, 16)] .nil))))))))) (.alt (iL [(.ef, 12)] (.alt (iL [(.ef, 3), (.fl, 4)] (.alt (iL [(.ef, 5)] (iL [(.ef, 14)] (iL [(.ef, 15)] (iL [(.ef, 16)] .nil)))) (iL [(.ef, 14)] (iL [(.ef, 5)] (iL [(.ef, 15)] (iL [(.ef, 16)] .nil)))))) (iL [(.ef, 14)] (iL [(.ef, 3), (.fl, 4)] (iL [(.ef, 5)] (iL [(.ef, 15)] (iL [(.ef, 16)] .nil))))))) (iL [(.ef, 14)] (.alt (iL [(.ef, 3), (.fl, 4)] (.alt (iL [(.ef, 5)] (.alt (iL [(.ef, 12)] (iL [(.ef, 15)] (iL [(.ef, 16)] .nil))) (iL [(.ef, 15)] (iL [(.ef, 12)] (iL [(.ef, 16)] .nil))))) (iL [(.ef, 12)] (iL [(.ef, 5)] (iL [(.ef, 15)] (iL [(.ef, 16)] .nil)))))) (iL [(.ef, 12)] (iL [(.ef, 3), (.fl, 4)] (iL [(.ef, 5)] (iL [(.ef, 15)] (iL [(.ef, 16)] .nil)))))))))) (iL [(.ef, 14)] (.alt (iL [(.ef, 3), (.fl, 4)] (.alt (iL [(.ef, 5)] (.alt (iL [(.ef, 12)] (iL [(.ef, 13)] (iL [(.ef, 15)] (iL [(.ef, 16)] .nil)))) (iL [(.ef, 13)] (.alt (iL [(.ef, 12)] (iL [(.ef, 15)] (iL [(.ef, 16)] .nil))) (iL [(.ef, 15)] (iL [(.ef, 12)] (iL [(.ef, 16)] .nil))))))) (.alt (iL [(.ef, 12)] (.alt (iL [(.ef, 5)] (iL [(.ef, 13)] (iL [(.ef, 15)] (iL [(.ef, 16)] .nil)))) (iL [(.ef, 13)] (iL [(.ef, 5)] (iL [(.ef, 15)] (iL [(.ef, 16)] .nil)))))) (iL [(.ef, 13)] (.alt (iL [(.ef, 5)] (.alt (iL [(.ef, 12)] (iL [(.ef, 15)] (iL [(.ef, 16)] .nil))) (iL [(.ef, 15)] (iL [(.ef, 12)] (iL [(.ef, 16)] .nil))))) (iL [(.ef, 12)] (iL [(.ef, 5)] (iL [(.ef, 15)] (iL [(.ef, 16)] .nil))))))))) (.alt (iL [(.ef, 12)] (.alt (iL [(.ef, 3), (.fl, 4)] (.alt (iL [(.ef, 5)] (iL [(.ef, 13)] (iL [(.ef, 15)] (iL [(.ef, 16)] .nil)))) (iL [(.ef, 13)] (iL [(.ef, 5)] (iL [(.ef, 15)] (iL [(.ef, 16)] .nil)))))) (iL [(.ef, 13)] (iL [(.ef, 3), (.fl, 4)] (iL [(.ef, 5)] (iL [(.ef, 15)] (iL [(.ef, 16)] .nil))))))) (iL [(.ef, 13)] (.alt (iL [(.ef, 3), (.fl, 4)] (.alt (iL [(.ef, 5)] (.alt (iL [(.ef, 12)] (iL [(.ef, 15)] (iL [(.ef, 16)] .nil))) (iL [(.ef, 15)] (iL [(.ef, 12)] (iL [(.ef, 16)] .nil))))) (iL [(.ef, 12)] (iL [(.ef, 5)] (iL [(.ef, 15)] (iL [(.ef, 16)] .nil)))))) (iL [(.ef, 12)] (iL [(.ef, 3), (.fl, 4)] (iL [(.ef, 5)] (iL [(.ef, 15)] (iL [(.ef, 16)] .nil)))))))))))))) (.alt (iL [(.ef, 13)] (.alt (iL [(.ef, 3), (.fl, 4)] (.alt (iL [(.ef, 5)] (.alt (iL [(.ef, 10), (.fl, 11)] (.alt (iL [(.ef, 12)] (iL [(.ef, 14)] (iL [(.ef, 15)] (iL [(.ef, 16)] .nil)))) (iL [(.ef, 14)] (.alt (iL [(.ef, 12)] (iL [(.ef, 15)] (iL [(.ef, 16)] .nil))) (iL [(.ef, 15)] (iL [(.ef, 12)] (iL [(.ef, 16)] .nil))))))) (iL [(.ef, 14)] (.alt (iL [(.ef, 10), (.fl, 11)] (.alt (iL [(.ef, 12)] (iL [(.ef, 15)] (iL [(.ef, 16)] .nil))) (iL [(.ef, 15)] (iL [(.ef, 12)] (iL [(.ef, 16)] .nil))))) (iL [(.ef, 15)] (iL [(.ef, 10), (.fl, 11)] (iL [(.ef, 12)] (iL [(.ef, 16)] .nil)))))))) (.alt (iL [(.ef, 10), (.fl, 11)] (.alt (iL [(.ef, 5)] (.alt (iL [(.ef, 12)] (iL [(.ef, 14)] (iL [(.ef, 15)] (iL [(.ef, 16)] .nil)))) (iL [(.ef, 14)] (.alt (iL [(.ef, 12)] (iL [(.ef, 15)] (iL [(.ef, 16)] .nil))) (iL [(.ef, 15)] (iL [(.ef, 12)] (iL [(.ef, 16)] .nil))))))) (.alt (iL [(.ef, 12)] (.alt (iL [(.ef, 5)] (iL [(.ef, 14)] (iL [(.ef, 15)] (iL [(.ef, 16)] .nil)))) (iL [(.ef, 14)] (iL [(.ef, 5)] (iL [(.ef, 15)] (iL [(.ef, 16)] .nil)))))) (iL [(.ef, 14)] (.alt (iL [(.ef, 5)] (.alt (iL [(.ef, 12)] (iL [(.ef, 15)] (iL [(.ef, 16)] .nil))) (iL [(.ef, 15)] (iL [(.ef, 12)] (iL [(.ef, 16)] .nil))))) (iL [(.ef, 12)] (iL [(.ef, 5)] (iL [(.ef, 15)] (iL [(.ef, 16)] .nil))))))))) (iL [(.ef, 14)] (.alt (iL [(.ef, 5)] (.alt (iL [(.ef, 10), (.fl, 11)] (.alt (iL [(.ef, 12)] (iL [(.ef, 15)] (iL [(.ef, 16)] .nil))) (iL [(.ef, 15)] (iL [(.ef, 12)] (iL [(.ef, 16)] .nil))))) (iL [(.ef, 15)] (iL [(.ef, 10), (.fl, 11)] (iL [(.ef, 12)] (iL [(.ef, 16)] .nil)))))) (iL [(.ef, 10), (.fl, 11)] (.alt (iL [(.ef, 5)] (.alt (iL [(.ef, 12)] (iL [(.ef, 15)] (iL [(.ef, 16)] .nil))) (iL [(.ef, 15)] (iL [(.ef, 12)] (iL [(.ef, 16)] .nil))))) (iL [(.ef, 12)] (iL [(.ef, 5)] (iL [(.ef, 15)] (iL [(.ef, 16)] .nil))))))))))) (.alt (iL [(.ef, 10), (.fl, 11)] (.alt (iL [(.ef, 3), (.fl, 4)] (.alt (iL [(.ef, 5)] (.alt (iL [(.ef, 12)] (iL [(.ef, 14)] (iL [(.ef, 15)] (iL [(.ef, 16)] .nil)))) (iL [(.ef, 14)] (.alt (iL [(.ef, 12)] (iL [(.ef, 15)] (iL [(.ef, 16)] .nil))) (iL [(.ef, 15)] (iL [(.ef, 12)] (iL [(.ef, 16)] .nil))))))) (.alt (iL [(.ef, 12)] (.alt (iL [(.ef, 5)] (iL [(.ef, 14)] (iL [(.ef, 15)] (iL [(.ef, 16)] .nil)))) (iL [(.ef, 14)] (iL [(.ef, 5)] (iL [(.ef, 15)] (iL [(.ef, 16)] .nil)))))) (iL [(.ef, 14)] (.alt (iL [(.ef, 5)] (.alt (iL [(.ef, 12)] (iL [(.ef, 15)] (iL [(.ef, 16)] .nil))) (iL [(.ef, 15)] (iL [(.ef, 12)] (iL [(.ef, 16)] .nil))))) (iL [(.ef, 12)] (iL [(.ef, 5)] (iL [(.ef, 15)] (iL [(.ef, 16)] .nil))))))))) (.alt (iL [(.ef, 12)] (.alt (iL [(.ef, 3), (.fl, 4)] (.alt (iL [(.ef, 5)] (iL [(.ef, 14)] (iL [(.ef, 15)] (iL [(.ef, 16)] .nil)))) (iL [(.ef, 14)] (iL [(.ef, 5)] (iL [(.ef, 15)] (iL [(.ef, 16)] .nil)))))) (iL [(.ef, 14)] (iL [(.ef, 3), (.fl, 4)] (iL [(.ef, 5)] (iL [(.ef, 15)] (iL [(.ef, 16)] .nil))))))) (iL [(.ef, 14)] (.alt (iL [(.ef, 3), (.fl, 4)] (.alt (iL [(.ef, 5)] (.alt (iL [(.ef, 12)] (iL [(.ef, 15)] (iL [(.ef, 16)] .nil))) (iL [(.ef, 15)] (iL [(.ef, 12)] (iL [(.ef, 16)] .nil))))) (iL [(.ef, 12)] (iL [(.ef, 5)] (iL [(.ef, 15)] (iL [(.ef, 16)] .nil)))))) (iL [(.ef, 12)] (iL [(.ef, 3), (.fl, 4)] (iL [(.ef, 5)] (iL [(.ef, 15)] (iL [(.ef, 16)] .nil)))))))))) (iL [(.ef, 14)] (.alt (iL [(.ef, 3), (.fl, 4)] (.alt (iL [(.ef, 5)] (.alt (iL [(.ef, 10), (.fl, 11)] (.alt (iL [(.ef, 12)] (iL [(.ef, 15)] (iL [(.ef, 16)] .nil))) (iL [(.ef, 15)] (iL [(.ef, 12)] (iL [(.ef, 16)] .nil))))) (iL [(.ef, 15)] (iL [(.ef, 10), (.fl, 11)] (iL [(.ef, 12)] (iL [(.ef, 16)] .nil)))))) (iL [(.ef, 10), (.fl, 11)] (.alt (iL [(.ef, 5)] (.alt (iL [(.ef, 12)] (iL [(.ef, 15)] (iL [(.ef, 16)] .nil))) (iL [(.ef, 15)] (iL [(.ef, 12)] (iL [(.ef, 16)] .nil))))) (iL [(.ef, 12)] (iL [(.ef, 5)] (iL [(.ef, 15)] (iL [(.ef, 16)] .nil)))))))) (iL [(.ef, 10), (.fl, 11)] (.alt (iL [(.ef, 3), (.fl, 4)] (.alt (iL [(.ef, 5)] (.alt (iL [(.ef, 12)] (iL [(.ef, 15)] (iL [(.ef, 16)] .nil))) (iL [(.ef, 15)] (iL [(.ef, 12)] (iL [(.ef, 16)] .nil))))) (iL [(.ef, 12)] (iL [(.ef, 5)] (iL [(.ef, 15)] (iL [(.ef, 16)] .nil)))))) (iL [(.ef, 12)] (iL [(.ef, 3), (.fl, 4)] (iL [(.ef, 5)] (iL [(.ef, 15)] (iL [(.ef, 16)] .nil)))))))))))) (iL [(.ef, 14)] (.alt (iL [(.ef, 3), (.fl, 4)] (.alt (iL [(.ef, 5)] (.alt (iL [(.ef, 10), (.fl, 11)] (.alt (iL [(.ef, 12)] (iL [(.ef, 13)] (iL [(.ef, 15)] (iL [(.ef, 16)] .nil)))) (iL [(.ef, 13)] (.alt (iL [(.ef, 12)] (iL [(.ef, 15)] (iL [(.ef, 16)] .nil))) (iL [(.ef, 15)] (iL [(.ef, 12)] (iL [(.ef, 16)] .nil))))))) (iL [(.ef, 13)] (.alt (iL [(.ef, 10), (.fl, 11)] (.alt (iL [(.ef, 12)] (iL [(.ef, 15)] (iL [(.ef, 16)] .nil))) (iL [(.ef, 15)] (iL [(.ef, 12)] (iL [(.ef, 16)] .nil))))) (iL [(.ef, 15)] (iL [(.ef, 10), (.fl, 11)] (iL [(.ef, 12)] (iL [(.ef, 16)] .nil)))))))) (.alt (iL [(.ef, 10), (.fl, 11)] (.alt (iL [(.ef, 5)] (.alt (iL [(.ef, 12)] (iL [(.ef, 13)] (iL [(.ef, 15)] (iL [(.ef, 16)] .nil)))) (iL [(.ef, 13)] (.alt (iL [(.ef, 12)] (iL [(.ef, 15)] (iL [(.ef, 16)] .nil))) (iL [(.ef, 15)] (iL [(.ef, 12)] (iL [(.ef, 16)] .nil))))))) (.alt (iL [(.ef, 12)] (.alt (iL [(.ef, 5)] (iL [(.ef, 13)] (iL [(.ef, 15)] (iL [(.ef, 16)] .nil)))) (iL [(.ef, 13)] (iL [(.ef, 5)] (iL [(.ef, 15)] (iL [(.ef, 16)] .nil)))))) (iL [(.ef, 13)] (.alt (iL [(.ef, 5)] (.alt (iL [(.ef, 12)] (iL [(.ef, 15)] (iL [(.ef, 16)] .nil))) (iL [(.ef, 15)] (iL [(.ef, 12)] (iL [(.ef, 16)] .nil))))) (iL [(.ef, 12)] (iL [(.ef, 5)] (iL [(.ef, 15)] (iL [(.ef, 16)] .nil))))))))) (iL [(.ef, 13)] (.alt (iL [(.ef, 5)] (.alt (iL [(.ef, 10), (.fl, 11)] (.alt (iL [(.ef, 12)] (iL [(.ef, 15)] (iL [(.ef, 16)] .nil))) (iL [(.ef, 15)] (iL [(.ef, 12)] (iL [(.ef, 16)] .nil))))) (iL [(.ef, 15)] (iL [(.ef, 10), (.fl, 11)] (iL [(.ef, 12)] (iL [(.ef, 16)] .nil)))))) (iL [(.ef, 10), (.fl, 11)] (.alt (iL [(.ef, 5)] (.alt (iL [(.ef, 12)] (iL [(.ef, 15)] (iL [(.ef, 16)] .nil))) (iL [(.ef, 15)] (iL [(.ef, 12)] (iL [(.ef, 16)] .nil))))) (iL [(.ef, 12)] (iL [(.ef, 5)] (iL [(.ef, 15)] (iL [(.ef, 16)] .nil))))))))))) (.alt (iL [(.ef, 10), (.fl, 11)] (.alt (iL [(.ef, 3), (.fl, 4)] (.alt (iL [(.ef, 5)] (.alt (iL [(.ef, 12)] (iL [(.ef, 13)] (iL [(.ef, 15)] (iL [(.ef, 16)] .nil)))) (iL [(.ef, 13)] (.alt (iL [(.ef, 12)] (iL [(.ef, 15)] (iL [(.ef, 16)] .nil))) (iL [(.ef, 15)] (iL [(.ef, 12)] (iL [(.ef, 16)] .nil))))))) (.alt (iL [(.ef, 12)] (.alt (iL [(.ef, 5)] (iL [(.ef, 13)] (iL [(.ef, 15)] (iL [(.ef, 16)] .nil)))) (iL [(.ef, 13)] (iL [(.ef, 5)] (iL [(.ef, 15)] (iL [(.ef, 16)] .nil)))))) (iL [(.ef, 13)] (.alt (iL [(.ef, 5)] (.alt (iL [(.ef, 12)] (iL [(.ef, 15)] (iL [(.ef, 16)] .nil))) (iL [(.ef, 15)] (iL [(.ef, 12)] (iL [(.ef, 16)] .nil))))) (iL [(.ef, 12)] (iL [(.ef, 5)] (iL [(.ef, 15)] (iL [(.ef, 16)] .nil))))))))) (.alt (iL [(.ef, 12)] (.alt (iL [(.ef, 3), (.fl, 4)] (.alt (iL [(.ef, 5)] (iL [(.ef, 13)] (iL [(.ef, 15)] (iL [(.ef, 16)] .nil)))) (iL [(.ef, 13)] (iL [(.ef, 5)] (iL [(.ef, 15)] (iL [(.ef, 16)] .nil)))))) (iL [(.ef, 13)] (iL [(.ef, 3), (.fl, 4)] (iL [(.ef, 5)] (iL [(.ef, 15)] (iL [(.ef, 16)] .nil))))))) (iL [(.ef, 13)] (.alt (iL [(.ef, 3), (.fl, 4)] (.alt (iL [(.ef, 5)] (.alt (iL [(.ef, 12)] (iL [(.ef, 15)] (iL [(.ef, 16)] .nil))) (iL [(.ef, 15)] (iL [(.ef, 12)] (iL [(.ef, 16)] .nil))))) (iL [(.ef, 12)] (iL [(.ef, 5)] (iL [(.ef, 15)] (iL [(.ef, 16)] .nil)))))) (iL [(.ef, 12)] (iL [(.ef, 3), (.fl, 4)] (iL [(.ef, 5)] (iL [(.ef, 15)] (iL [(.ef, 16)] .nil)))))))))) (iL [(.ef, 13)] (.alt (iL [(.ef, 3), (.fl, 4)] (.alt (iL [(.ef, 5)] (.alt (iL [(.ef, 10), (.fl, 11)] (.alt (iL [(.ef, 12)] (iL [(.ef, 15)] (iL [(.ef, 16)] .nil))) (iL [(.ef, 15)] (iL [(.ef, 12)] (iL [(.ef, 16)] .nil))))) (iL [(.ef, 15)] (iL [(.ef, 10), (.fl, 11)] (iL [(.ef, 12)] (iL [(.ef, 16)] .nil)))))) (iL [(.ef, 10), (.fl, 11)] (.alt (iL [(.ef, 5)] (.alt (iL [(.ef, 12)] (iL [(.ef, 15)] (iL [(.ef, 16)] .nil))) (iL [(.ef, 15)] (iL [(.ef, 12)] (iL [(.ef, 16)] .nil))))) (iL [(.ef, 12)] (iL [(.ef, 5)] (iL [(.ef, 15)] (iL [(.ef, 16)] .nil)))))))) (iL [(.ef, 10), (.fl, 11)] (.alt (iL [(.ef, 3), (.fl, 4)] (.alt (iL [(.ef, 5)] (.alt (iL [(.ef, 12)] (iL [(.ef, 15)] (iL [(.ef, 16)] .nil))) (iL [(.ef, 15)] (iL [(.ef, 12)] (iL [(.ef, 16)] .nil))))) (iL [(.ef, 12)] (iL [(.ef, 5)] (iL [(.ef, 15)] (iL [(.ef, 16)] .nil)))))) (iL [(.ef, 12)] (iL [(.ef, 3), (.fl, 4)] (iL [(.ef, 5)] (iL [(.ef, 15)] (iL [(.ef, 16)] .nil)))))))))))))))) (.res (Box g3 35 (bx_T_Device r4.1 A6 c6 A7 c7)) :: .ro (SlL eu8 A6 c6 r4.1.Slots.e0.Image.Data) :: .ro (SlL eu8 A7 c7 r4.1.Slots.e1.Image.Data) :: .res (Box g2 35 (bx_T_Device r3.2 A4 c4 A5 c5)) :: .ro (SlL eu8 A4 c4 r3.2.Slots.e0.Image.Data) :: .ro (SlL eu8 A5 c5 r3.2.Slots.e1.Image.Data) :: R) mixed (by kernel_rfl) (fun _ w => ((.k (.k (.k (.k (.k (.k .z)))))) : Keep _ _).sat w) ?_
      refine St.share (Y := ?Ynd1_0) (fun (e : Option Addr × Nat × Option Addr × Nat × Nat × Nat) => [(4, .pointer (some ⟨g2, 0, none⟩)), (5, .pointer (some ⟨g3, 0, none⟩)), (7, .pointer (some ⟨e.2.2.2.2.1, 0, none⟩)), (8, .pointer (some ⟨e.2.2.2.2.2, 0, none⟩)), (26, .pointer (some ⟨g2, 14, none⟩)), (27, .int .i64 r3.2.Running), (28, .pointer (some ⟨g2, 1, none⟩)), (29, .pointer (some ⟨g2, 1 + Int.toNat r3.2.Running * 6, none⟩)), (30, .pointer (some ⟨g2, 1 + Int.toNat r3.2.Running * 6, none⟩)), (31, .agg (bx_T_Image x1.Image e.1 e.2.1).toArray), (32, .pointer (some ⟨g2, 14, none⟩)), (33, .int .i64 r3.2.Running), (34, .int .i64 (IntKind.wrap .i64 (1 - r3.2.Running))), (35, .pointer (some ⟨g2, 1, none⟩)), (36, .pointer (some ⟨g2, 1 + Int.toNat (IntKind.wrap .i64 (1 - r3.2.Running)) * 6, none⟩)), (37, .pointer (some ⟨g2, 1 + Int.toNat (IntKind.wrap .i64 (1 - r3.2.Running)) * 6, none⟩)), (38, .agg (bx_T_Image x2.Image e.2.2.1 e.2.2.2.1).toArray)]) (fun e => .res (Box e.2.2.2.2.1 30 (bx_T_Image x1.Image e.1 e.2.1)) :: .res (Box e.2.2.2.2.2 30 [.string (⟨#[]⟩), .int .i64 0, .int .i64 0, .int .i64 0, .slice none 0 0]) :: .ro (SlL eu8 e.2.2.1 e.2.2.2.1 x2.Image.Data) :: .ro (SlL eu8 e.1 e.2.1 x1.Image.Data) :: .res (Box g3 35 (bx_T_Device r4.1 A6 c6 A7 c7)) :: .ro (SlL eu8 A6 c6 r4.1.Slots.e0.Image.Data) :: .ro (SlL eu8 A7 c7 r4.1.Slots.e1.Image.Data) :: .res (Box g2 35 (bx_T_Device r3.2 A4 c4 A5 c5)) :: .ro (SlL eu8 A4 c4 r3.2.Slots.e0.Image.Data) :: .ro (SlL eu8 A5 c5 r3.2.Slots.e1.Image.Data) :: R) (fun hnd1_0 => ?mnd1_0) ?tnd1_0
      case mnd1_0 =>
        refine St.share (Y := ?Ynd1_1) (fun (e : Option Addr × Nat × Option Addr × Nat × Nat × Nat) => [(4, .pointer (some ⟨g2, 0, none⟩)), (5, .pointer (some ⟨g3, 0, none⟩)), (7, .pointer (some ⟨e.2.2.2.2.1, 0, none⟩)), (8, .pointer (some ⟨e.2.2.2.2.2, 0, none⟩)), (26, .pointer (some ⟨g2, 14, none⟩)), (27, .int .i64 r3.2.Running), (28, .pointer (some ⟨g2, 1, none⟩)), (29, .pointer (some ⟨g2, 1 + Int.toNat r3.2.Running * 6, none⟩)), (30, .pointer (some ⟨g2, 1 + Int.toNat r3.2.Running * 6, none⟩)), (31, .agg (bx_T_Image x1.Image e.1 e.2.1).toArray), (32, .pointer (some ⟨g2, 14, none⟩)), (33, .int .i64 r3.2.Running), (34, .int .i64 (IntKind.wrap .i64 (1 - r3.2.Running))), (35, .pointer (some ⟨g2, 1, none⟩)), (36, .pointer (some ⟨g2, 1 + Int.toNat (IntKind.wrap .i64 (1 - r3.2.Running)) * 6, none⟩)), (37, .pointer (some ⟨g2, 1 + Int.toNat (IntKind.wrap .i64 (1 - r3.2.Running)) * 6, none⟩)), (38, .agg (bx_T_Image x2.Image e.2.2.1 e.2.2.2.1).toArray)]) (fun e => .res (Box e.2.2.2.2.2 30 [.string (⟨#[]⟩), .int .i64 0, .int .i64 0, .int .i64 0, .slice none 0 0]) :: .res (Box e.2.2.2.2.1 30 [.string (⟨#[]⟩), .int .i64 0, .int .i64 0, .int .i64 0, .slice none 0 0]) :: .ro (SlL eu8 e.2.2.1 e.2.2.2.1 x2.Image.Data) :: .ro (SlL eu8 e.1 e.2.1 x1.Image.Data) :: .res (Box g3 35 (bx_T_Device r4.1 A6 c6 A7 c7)) :: .ro (SlL eu8 A6 c6 r4.1.Slots.e0.Image.Data) :: .ro (SlL eu8 A7 c7 r4.1.Slots.e1.Image.Data) :: .res (Box g2 35 (bx_T_Device r3.2 A4 c4 A5 c5)) :: .ro (SlL eu8 A4 c4 r3.2.Slots.e0.Image.Data) :: .ro (SlL eu8 A5 c5 r3.2.Slots.e1.Image.Data) :: R) (fun hnd1_1 => ?mnd1_1) ?tnd1_1
        case mnd1_1 =>
          refine St.share (Y := ?Ynd1_2) (fun (e : Option Addr × Nat × Nat × Nat) => [(4, .pointer (some ⟨g2, 0, none⟩)), (5, .pointer (some ⟨g3, 0, none⟩)), (7, .pointer (some ⟨e.2.2.1, 0, none⟩)), (8, .pointer (some ⟨e.2.2.2, 0, none⟩)), (26, .pointer (some ⟨g2, 14, none⟩)), (27, .int .i64 r3.2.Running), (28, .pointer (some ⟨g2, 1, none⟩)), (29, .pointer (some ⟨g2, 1 + Int.toNat r3.2.Running * 6, none⟩)), (30, .pointer (some ⟨g2, 1 + Int.toNat r3.2.Running * 6, none⟩)), (31, .agg (bx_T_Image x1.Image e.1 e.2.1).toArray), (32, .pointer (some ⟨g2, 14, none⟩)), (33, .int .i64 r3.2.Running), (34, .int .i64 (IntKind.wrap .i64 (1 - r3.2.Running))), (35, .pointer (some ⟨g2, 1, none⟩)), (36, .pointer (some ⟨g2, 1 + Int.toNat (IntKind.wrap .i64 (1 - r3.2.Running)) * 6, none⟩)), (37, .pointer (some ⟨g2, 1 + Int.toNat (IntKind.wrap .i64 (1 - r3.2.Running)) * 6, none⟩))]) (fun e => .res (Box e.2.2.1 30 (bx_T_Image x1.Image e.1 e.2.1)) :: .res (Box e.2.2.2 30 [.string (⟨#[]⟩), .int .i64 0, .int .i64 0, .int .i64 0, .slice none 0 0]) :: .ro (SlL eu8 e.1 e.2.1 x1.Image.Data) :: .res (Box g3 35 (bx_T_Device r4.1 A6 c6 A7 c7)) :: .ro (SlL eu8 A6 c6 r4.1.Slots.e0.Image.Data) :: .ro (SlL eu8 A7 c7 r4.1.Slots.e1.Image.Data) :: .res (Box g2 35 (bx_T_Device r3.2 A4 c4 A5 c5)) :: .ro (SlL eu8 A4 c4 r3.2.Slots.e0.Image.Data) :: .ro (SlL eu8 A5 c5 r3.2.Slots.e1.Image.Data) :: R) (fun hnd1_2 => ?mnd1_2) ?tnd1_2
          case mnd1_2 =>
            refine St.share (Y := ?Ynd1_3) (fun (e : Option Addr × Nat × Option Addr × Nat × Nat) => [(4, .pointer (some ⟨g2, 0, none⟩)), (5, .pointer (some ⟨g3, 0, none⟩)), (7, .pointer (some ⟨e.2.2.2.2, 0, none⟩)), (26, .pointer (some ⟨g2, 14, none⟩)), (27, .int .i64 r3.2.Running), (28, .pointer (some ⟨g2, 1, none⟩)), (29, .pointer (some ⟨g2, 1 + Int.toNat r3.2.Running * 6, none⟩)), (30, .pointer (some ⟨g2, 1 + Int.toNat r3.2.Running * 6, none⟩)), (31, .agg (bx_T_Image x1.Image e.1 e.2.1).toArray), (32, .pointer (some ⟨g2, 14, none⟩)), (33, .int .i64 r3.2.Running), (34, .int .i64 (IntKind.wrap .i64 (1 - r3.2.Running))), (35, .pointer (some ⟨g2, 1, none⟩)), (36, .pointer (some ⟨g2, 1 + Int.toNat (IntKind.wrap .i64 (1 - r3.2.Running)) * 6, none⟩)), (37, .pointer (some ⟨g2, 1 + Int.toNat (IntKind.wrap .i64 (1 - r3.2.Running)) * 6, none⟩)), (38, .agg (bx_T_Image x2.Image e.2.2.1 e.2.2.2.1).toArray)]) (fun e => .res (Box e.2.2.2.2 30 [.string (⟨#[]⟩), .int .i64 0, .int .i64 0, .int .i64 0, .slice none 0 0]) :: .ro (SlL eu8 e.2.2.1 e.2.2.2.1 x2.Image.Data) :: .ro (SlL eu8 e.1 e.2.1 x1.Image.Data) :: .res (Box g3 35 (bx_T_Device r4.1 A6 c6 A7 c7)) :: .ro (SlL eu8 A6 c6 r4.1.Slots.e0.Image.Data) :: .ro (SlL eu8 A7 c7 r4.1.Slots.e1.Image.Data) :: .res (Box g2 35 (bx_T_Device r3.2 A4 c4 A5 c5)) :: .ro (SlL eu8 A4 c4 r3.2.Slots.e0.Image.Data) :: .ro (SlL eu8 A5 c5 r3.2.Slots.e1.Image.Data) :: R) (fun hnd1_3 => ?mnd1_3) ?tnd1_3
            case mnd1_3 =>
              refine St.share (Y := ?Ynd1_4) (fun (e : Option Addr × Nat × Option Addr × Nat × Nat) => [(4, .pointer (some ⟨g2, 0, none⟩)), (5, .pointer (some ⟨g3, 0, none⟩)), (8, .pointer (some ⟨e.2.2.2.2, 0, none⟩)), (26, .pointer (some ⟨g2, 14, none⟩)), (27, .int .i64 r3.2.Running), (28, .pointer (some ⟨g2, 1, none⟩)), (29, .pointer (some ⟨g2, 1 + Int.toNat r3.2.Running * 6, none⟩)), (30, .pointer (some ⟨g2, 1 + Int.toNat r3.2.Running * 6, none⟩)), (31, .agg (bx_T_Image x1.Image e.1 e.2.1).toArray), (32, .pointer (some ⟨g2, 14, none⟩)), (33, .int .i64 r3.2.Running), (34, .int .i64 (IntKind.wrap .i64 (1 - r3.2.Running))), (35, .pointer (some ⟨g2, 1, none⟩)), (36, .pointer (some ⟨g2, 1 + Int.toNat (IntKind.wrap .i64 (1 - r3.2.Running)) * 6, none⟩)), (37, .pointer (some ⟨g2, 1 + Int.toNat (IntKind.wrap .i64 (1 - r3.2.Running)) * 6, none⟩)), (38, .agg (bx_T_Image x2.Image e.2.2.1 e.2.2.2.1).toArray)]) (fun e => .res (Box e.2.2.2.2 30 [.string (⟨#[]⟩), .int .i64 0, .int .i64 0, .int .i64 0, .slice none 0 0]) :: .ro (SlL eu8 e.2.2.1 e.2.2.2.1 x2.Image.Data) :: .ro (SlL eu8 e.1 e.2.1 x1.Image.Data) :: .res (Box g3 35 (bx_T_Device r4.1 A6 c6 A7 c7)) :: .ro (SlL eu8 A6 c6 r4.1.Slots.e0.Image.Data) :: .ro (SlL eu8 A7 c7 r4.1.Slots.e1.Image.Data) :: .res (Box g2 35 (bx_T_Device r3.2 A4 c4 A5 c5)) :: .ro (SlL eu8 A4 c4 r3.2.Slots.e0.Image.Data) :: .ro (SlL eu8 A5 c5 r3.2.Slots.e1.Image.Data) :: R) (fun hnd1_4 => ?mnd1_4) ?tnd1_4
              case mnd1_4 =>
                refine St.share (Y := ?Ynd1_5) (fun (e : Option Addr × Nat × Nat × Nat) => [(4, .pointer (some ⟨g2, 0, none⟩)), (5, .pointer (some ⟨g3, 0, none⟩)), (7, .pointer (some ⟨e.2.2.1, 0, none⟩)), (8, .pointer (some ⟨e.2.2.2, 0, none⟩)), (26, .pointer (some ⟨g2, 14, none⟩)), (27, .int .i64 r3.2.Running), (28, .pointer (some ⟨g2, 1, none⟩)), (29, .pointer (some ⟨g2, 1 + Int.toNat r3.2.Running * 6, none⟩)), (30, .pointer (some ⟨g2, 1 + Int.toNat r3.2.Running * 6, none⟩)), (31, .agg (bx_T_Image x1.Image e.1 e.2.1).toArray), (32, .pointer (some ⟨g2, 14, none⟩)), (33, .int .i64 r3.2.Running), (34, .int .i64 (IntKind.wrap .i64 (1 - r3.2.Running))), (35, .pointer (some ⟨g2, 1, none⟩)), (36, .pointer (some ⟨g2, 1 + Int.toNat (IntKind.wrap .i64 (1 - r3.2.Running)) * 6, none⟩)), (37, .pointer (some ⟨g2, 1 + Int.toNat (IntKind.wrap .i64 (1 - r3.2.Running)) * 6, none⟩))]) (fun e => .res (Box e.2.2.2 30 [.string (⟨#[]⟩), .int .i64 0, .int .i64 0, .int .i64 0, .slice none 0 0]) :: .res (Box e.2.2.1 30 [.string (⟨#[]⟩), .int .i64 0, .int .i64 0, .int .i64 0, .slice none 0 0]) :: .ro (SlL eu8 e.1 e.2.1 x1.Image.Data) :: .res (Box g3 35 (bx_T_Device r4.1 A6 c6 A7 c7)) :: .ro (SlL eu8 A6 c6 r4.1.Slots.e0.Image.Data) :: .ro (SlL eu8 A7 c7 r4.1.Slots.e1.Image.Data) :: .res (Box g2 35 (bx_T_Device r3.2 A4 c4 A5 c5)) :: .ro (SlL eu8 A4 c4 r3.2.Slots.e0.Image.Data) :: .ro (SlL eu8 A5 c5 r3.2.Slots.e1.Image.Data) :: R) (fun hnd1_5 => ?mnd1_5) ?tnd1_5
                case mnd1_5 =>
                  refine St.share (Y := ?Ynd1_6) (fun (e : Option Addr × Nat × Nat × Nat) => [(4, .pointer (some ⟨g2, 0, none⟩)), (5, .pointer (some ⟨g3, 0, none⟩)), (7, .pointer (some ⟨e.2.2.1, 0, none⟩)), (8, .pointer (some ⟨e.2.2.2, 0, none⟩)), (26, .pointer (some ⟨g2, 14, none⟩)), (27, .int .i64 r3.2.Running), (28, .pointer (some ⟨g2, 1, none⟩)), (29, .pointer (some ⟨g2, 1 + Int.toNat r3.2.Running * 6, none⟩)), (30, .pointer (some ⟨g2, 1 + Int.toNat r3.2.Running * 6, none⟩)), (32, .pointer (some ⟨g2, 14, none⟩)), (33, .int .i64 r3.2.Running), (34, .int .i64 (IntKind.wrap .i64 (1 - r3.2.Running))), (35, .pointer (some ⟨g2, 1, none⟩)), (36, .pointer (some ⟨g2, 1 + Int.toNat (IntKind.wrap .i64 (1 - r3.2.Running)) * 6, none⟩)), (37, .pointer (some ⟨g2, 1 + Int.toNat (IntKind.wrap .i64 (1 - r3.2.Running)) * 6, none⟩)), (38, .agg (bx_T_Image x2.Image e.1 e.2.1).toArray)]) (fun e => .res (Box e.2.2.2 30 [.string (⟨#[]⟩), .int .i64 0, .int .i64 0, .int .i64 0, .slice none 0 0]) :: .res (Box e.2.2.1 30 [.string (⟨#[]⟩), .int .i64 0, .int .i64 0, .int .i64 0, .slice none 0 0]) :: .ro (SlL eu8 e.1 e.2.1 x2.Image.Data) :: .res (Box g3 35 (bx_T_Device r4.1 A6 c6 A7 c7)) :: .ro (SlL eu8 A6 c6 r4.1.Slots.e0.Image.Data) :: .ro (SlL eu8 A7 c7 r4.1.Slots.e1.Image.Data) :: .res (Box g2 35 (bx_T_Device r3.2 A4 c4 A5 c5)) :: .ro (SlL eu8 A4 c4 r3.2.Slots.e0.Image.Data) :: .ro (SlL eu8 A5 c5 r3.2.Slots.e1.Image.Data) :: R) (fun hnd1_6 => ?mnd1_6) ?tnd1_6
                  case mnd1_6 =>
                    refine St.share (Y := ?Ynd1_7) (fun (e : Option Addr × Nat × Option Addr × Nat) => [(4, .pointer (some ⟨g2, 0, none⟩)), (5, .pointer (some ⟨g3, 0, none⟩)), (26, .pointer (some ⟨g2, 14, none⟩)), (27, .int .i64 r3.2.Running), (28, .pointer (some ⟨g2, 1, none⟩)), (29, .pointer (some ⟨g2, 1 + Int.toNat r3.2.Running * 6, none⟩)), (30, .pointer (some ⟨g2, 1 + Int.toNat r3.2.Running * 6, none⟩)), (31, .agg (bx_T_Image x1.Image e.1 e.2.1).toArray), (32, .pointer (some ⟨g2, 14, none⟩)), (33, .int .i64 r3.2.Running), (34, .int .i64 (IntKind.wrap .i64 (1 - r3.2.Running))), (35, .pointer (some ⟨g2, 1, none⟩)), (36, .pointer (some ⟨g2, 1 + Int.toNat (IntKind.wrap .i64 (1 - r3.2.Running)) * 6, none⟩)), (37, .pointer (some ⟨g2, 1 + Int.toNat (IntKind.wrap .i64 (1 - r3.2.Running)) * 6, none⟩)), (38, .agg (bx_T_Image x2.Image e.2.2.1 e.2.2.2).toArray)]) (fun e => .ro (SlL eu8 e.2.2.1 e.2.2.2 x2.Image.Data) :: .ro (SlL eu8 e.1 e.2.1 x1.Image.Data) :: .res (Box g3 35 (bx_T_Device r4.1 A6 c6 A7 c7)) :: .ro (SlL eu8 A6 c6 r4.1.Slots.e0.Image.Data) :: .ro (SlL eu8 A7 c7 r4.1.Slots.e1.Image.Data) :: .res (Box g2 35 (bx_T_Device r3.2 A4 c4 A5 c5)) :: .ro (SlL eu8 A4 c4 r3.2.Slots.e0.Image.Data) :: .ro (SlL eu8 A5 c5 r3.2.Slots.e1.Image.Data) :: R) (fun hnd1_7 => ?mnd1_7) ?tnd1_7
                    case mnd1_7 =>
                      refine St.share (Y := ?Ynd1_8) (fun (e : Option Addr × Nat × Nat) => [(4, .pointer (some ⟨g2, 0, none⟩)), (5, .pointer (some ⟨g3, 0, none⟩)), (7, .pointer (some ⟨e.2.2, 0, none⟩)), (26, .pointer (some ⟨g2, 14, none⟩)), (27, .int .i64 r3.2.Running), (28, .pointer (some ⟨g2, 1, none⟩)), (29, .pointer (some ⟨g2, 1 + Int.toNat r3.2.Running * 6, none⟩)), (30, .pointer (some ⟨g2, 1 + Int.toNat r3.2.Running * 6, none⟩)), (31, .agg (bx_T_Image x1.Image e.1 e.2.1).toArray), (32, .pointer (some ⟨g2, 14, none⟩)), (33, .int .i64 r3.2.Running), (34, .int .i64 (IntKind.wrap .i64 (1 - r3.2.Running))), (35, .pointer (some ⟨g2, 1, none⟩)), (36, .pointer (some ⟨g2, 1 + Int.toNat (IntKind.wrap .i64 (1 - r3.2.Running)) * 6, none⟩)), (37, .pointer (some ⟨g2, 1 + Int.toNat (IntKind.wrap .i64 (1 - r3.2.Running)) * 6, none⟩))]) (fun e => .res (Box e.2.2 30 [.string (⟨#[]⟩), .int .i64 0, .int .i64 0, .int .i64 0, .slice none 0 0]) :: .ro (SlL eu8 e.1 e.2.1 x1.Image.Data) :: .res (Box g3 35 (bx_T_Device r4.1 A6 c6 A7 c7)) :: .ro (SlL eu8 A6 c6 r4.1.Slots.e0.Image.Data) :: .ro (SlL eu8 A7 c7 r4.1.Slots.e1.Image.Data) :: .res (Box g2 35 (bx_T_Device r3.2 A4 c4 A5 c5)) :: .ro (SlL eu8 A4 c4 r3.2.Slots.e0.Image.Data) :: .ro (SlL eu8 A5 c5 r3.2.Slots.e1.Image.Data) :: R) (fun hnd1_8 => ?mnd1_8) ?tnd1_8
                      case mnd1_8 =>
                        refine St.share (Y := ?Ynd1_9) (fun (e : Option Addr × Nat × Nat) => [(4, .pointer (some ⟨g2, 0, none⟩)), (5, .pointer (some ⟨g3, 0, none⟩)), (8, .pointer (some ⟨e.2.2, 0, none⟩)), (26, .pointer (some ⟨g2, 14, none⟩)), (27, .int .i64 r3.2.Running), (28, .pointer (some ⟨g2, 1, none⟩)), (29, .pointer (some ⟨g2, 1 + Int.toNat r3.2.Running * 6, none⟩)), (30, .pointer (some ⟨g2, 1 + Int.toNat r3.2.Running * 6, none⟩)), (31, .agg (bx_T_Image x1.Image e.1 e.2.1).toArray), (32, .pointer (some ⟨g2, 14, none⟩)), (33, .int .i64 r3.2.Running), (34, .int .i64 (IntKind.wrap .i64 (1 - r3.2.Running))), (35, .pointer (some ⟨g2, 1, none⟩)), (36, .pointer (some ⟨g2, 1 + Int.toNat (IntKind.wrap .i64 (1 - r3.2.Running)) * 6, none⟩)), (37, .pointer (some ⟨g2, 1 + Int.toNat (IntKind.wrap .i64 (1 - r3.2.Running)) * 6, none⟩))]) (fun e => .res (Box e.2.2 30 [.string (⟨#[]⟩), .int .i64 0, .int .i64 0, .int .i64 0, .slice none 0 0]) :: .ro (SlL eu8 e.1 e.2.1 x1.Image.Data) :: .res (Box g3 35 (bx_T_Device r4.1 A6 c6 A7 c7)) :: .ro (SlL eu8 A6 c6 r4.1.Slots.e0.Image.Data) :: .ro (SlL eu8 A7 c7 r4.1.Slots.e1.Image.Data) :: .res (Box g2 35 (bx_T_Device r3.2 A4 c4 A5 c5)) :: .ro (SlL eu8 A4 c4 r3.2.Slots.e0.Image.Data) :: .ro (SlL eu8 A5 c5 r3.2.Slots.e1.Image.Data) :: R) (fun hnd1_9 => ?mnd1_9) ?tnd1_9
                        case mnd1_9 =>
                          refine St.share (Y := ?Ynd1_10) (fun (e : Option Addr × Nat × Nat × Nat) => [(4, .pointer (some ⟨g2, 0, none⟩)), (5, .pointer (some ⟨g3, 0, none⟩)), (7, .pointer (some ⟨e.2.2.1, 0, none⟩)), (8, .pointer (some ⟨e.2.2.2, 0, none⟩)), (26, .pointer (some ⟨g2, 14, none⟩)), (27, .int .i64 r3.2.Running), (28, .pointer (some ⟨g2, 1, none⟩)), (29, .pointer (some ⟨g2, 1 + Int.toNat r3.2.Running * 6, none⟩)), (30, .pointer (some ⟨g2, 1 + Int.toNat r3.2.Running * 6, none⟩)), (31, .agg (bx_T_Image x1.Image e.1 e.2.1).toArray), (32, .pointer (some ⟨g2, 14, none⟩)), (33, .int .i64 r3.2.Running), (34, .int .i64 (IntKind.wrap .i64 (1 - r3.2.Running))), (35, .pointer (some ⟨g2, 1, none⟩))]) (fun e => .res (Box e.2.2.2 30 [.string (⟨#[]⟩), .int .i64 0, .int .i64 0, .int .i64 0, .slice none 0 0]) :: .res (Box e.2.2.1 30 [.string (⟨#[]⟩), .int .i64 0, .int .i64 0, .int .i64 0, .slice none 0 0]) :: .ro (SlL eu8 e.1 e.2.1 x1.Image.Data) :: .res (Box g3 35 (bx_T_Device r4.1 A6 c6 A7 c7)) :: .ro (SlL eu8 A6 c6 r4.1.Slots.e0.Image.Data) :: .ro (SlL eu8 A7 c7 r4.1.Slots.e1.Image.Data) :: .res (Box g2 35 (bx_T_Device r3.2 A4 c4 A5 c5)) :: .ro (SlL eu8 A4 c4 r3.2.Slots.e0.Image.Data) :: .ro (SlL eu8 A5 c5 r3.2.Slots.e1.Image.Data) :: R) (fun hnd1_10 => ?mnd1_10) ?tnd1_10
                          case mnd1_10 =>
                            refine St.share (Y := ?Ynd1_11) (fun (e : Option Addr × Nat × Nat) => [(4, .pointer (some ⟨g2, 0, none⟩)), (5, .pointer (some ⟨g3, 0, none⟩)), (7, .pointer (some ⟨e.2.2, 0, none⟩)), (26, .pointer (some ⟨g2, 14, none⟩)), (27, .int .i64 r3.2.Running), (28, .pointer (some ⟨g2, 1, none⟩)), (29, .pointer (some ⟨g2, 1 + Int.toNat r3.2.Running * 6, none⟩)), (30, .pointer (some ⟨g2, 1 + Int.toNat r3.2.Running * 6, none⟩)), (32, .pointer (some ⟨g2, 14, none⟩)), (33, .int .i64 r3.2.Running), (34, .int .i64 (IntKind.wrap .i64 (1 - r3.2.Running))), (35, .pointer (some ⟨g2, 1, none⟩)), (36, .pointer (some ⟨g2, 1 + Int.toNat (IntKind.wrap .i64 (1 - r3.2.Running)) * 6, none⟩)), (37, .pointer (some ⟨g2, 1 + Int.toNat (IntKind.wrap .i64 (1 - r3.2.Running)) * 6, none⟩)), (38, .agg (bx_T_Image x2.Image e.1 e.2.1).toArray)]) (fun e => .res (Box e.2.2 30 [.string (⟨#[]⟩), .int .i64 0, .int .i64 0, .int .i64 0, .slice none 0 0]) :: .ro (SlL eu8 e.1 e.2.1 x2.Image.Data) :: .res (Box g3 35 (bx_T_Device r4.1 A6 c6 A7 c7)) :: .ro (SlL eu8 A6 c6 r4.1.Slots.e0.Image.Data) :: .ro (SlL eu8 A7 c7 r4.1.Slots.e1.Image.Data) :: .res (Box g2 35 (bx_T_Device r3.2 A4 c4 A5 c5)) :: .ro (SlL eu8 A4 c4 r3.2.Slots.e0.Image.Data) :: .ro (SlL eu8 A5 c5 r3.2.Slots.e1.Image.Data) :: R) (fun hnd1_11 => ?mnd1_11) ?tnd1_11
                            case mnd1_11 =>
                              refine St.share (Y := ?Ynd1_12) (fun (e : Option Addr × Nat × Nat) => [(4, .pointer (some ⟨g2, 0, none⟩)), (5, .pointer (some ⟨g3, 0, none⟩)), (8, .pointer (some ⟨e.2.2, 0, none⟩)), (26, .pointer (some ⟨g2, 14, none⟩)), (27, .int .i64 r3.2.Running), (28, .pointer (some ⟨g2, 1, none⟩)), (29, .pointer (some ⟨g2, 1 + Int.toNat r3.2.Running * 6, none⟩)), (30, .pointer (some ⟨g2, 1 + Int.toNat r3.2.Running * 6, none⟩)), (32, .pointer (some ⟨g2, 14, none⟩)), (33, .int .i64 r3.2.Running), (34, .int .i64 (IntKind.wrap .i64 (1 - r3.2.Running))), (35, .pointer (some ⟨g2, 1, none⟩)), (36, .pointer (some ⟨g2, 1 + Int.toNat (IntKind.wrap .i64 (1 - r3.2.Running)) * 6, none⟩)), (37, .pointer (some ⟨g2, 1 + Int.toNat (IntKind.wrap .i64 (1 - r3.2.Running)) * 6, none⟩)), (38, .agg (bx_T_Image x2.Image e.1 e.2.1).toArray)]) (fun e => .res (Box e.2.2 30 [.string (⟨#[]⟩), .int .i64 0, .int .i64 0, .int .i64 0, .slice none 0 0]) :: .ro (SlL eu8 e.1 e.2.1 x2.Image.Data) :: .res (Box g3 35 (bx_T_Device r4.1 A6 c6 A7 c7)) :: .ro (SlL eu8 A6 c6 r4.1.Slots.e0.Image.Data) :: .ro (SlL eu8 A7 c7 r4.1.Slots.e1.Image.Data) :: .res (Box g2 35 (bx_T_Device r3.2 A4 c4 A5 c5)) :: .ro (SlL eu8 A4 c4 r3.2.Slots.e0.Image.Data) :: .ro (SlL eu8 A5 c5 r3.2.Slots.e1.Image.Data) :: R) (fun hnd1_12 => ?mnd1_12) ?tnd1_12
                              case mnd1_12 =>
                                refine St.share (Y := ?Ynd1_13) (fun (e : Nat × Nat) => [(4, .pointer (some ⟨g2, 0, none⟩)), (5, .pointer (some ⟨g3, 0, none⟩)), (7, .pointer (some ⟨e.1, 0, none⟩)), (8, .pointer (some ⟨e.2, 0, none⟩)), (26, .pointer (some ⟨g2, 14, none⟩)), (27, .int .i64 r3.2.Running), (28, .pointer (some ⟨g2, 1, none⟩)), (29, .pointer (some ⟨g2, 1 + Int.toNat r3.2.Running * 6, none⟩)), (30, .pointer (some ⟨g2, 1 + Int.toNat r3.2.Running * 6, none⟩)), (32, .pointer (some ⟨g2, 14, none⟩)), (33, .int .i64 r3.2.Running), (34, .int .i64 (IntKind.wrap .i64 (1 - r3.2.Running))), (35, .pointer (some ⟨g2, 1, none⟩)), (36, .pointer (some ⟨g2, 1 + Int.toNat (IntKind.wrap .i64 (1 - r3.2.Running)) * 6, none⟩)), (37, .pointer (some ⟨g2, 1 + Int.toNat (IntKind.wrap .i64 (1 - r3.2.Running)) * 6, none⟩))]) (fun e => .res (Box e.2 30 [.string (⟨#[]⟩), .int .i64 0, .int .i64 0, .int .i64 0, .slice none 0 0]) :: .res (Box e.1 30 [.string (⟨#[]⟩), .int .i64 0, .int .i64 0, .int .i64 0, .slice none 0 0]) :: .res (Box g3 35 (bx_T_Device r4.1 A6 c6 A7 c7)) :: .ro (SlL eu8 A6 c6 r4.1.Slots.e0.Image.Data) :: .ro (SlL eu8 A7 c7 r4.1.Slots.e1.Image.Data) :: .res (Box g2 35 (bx_T_Device r3.2 A4 c4 A5 c5)) :: .ro (SlL eu8 A4 c4 r3.2.Slots.e0.Image.Data) :: .ro (SlL eu8 A5 c5 r3.2.Slots.e1.Image.Data) :: R) (fun hnd1_13 => ?mnd1_13) ?tnd1_13
                                case mnd1_13 =>
                                  refine St.share (Y := ?Ynd1_14) (fun (e : Option Addr × Nat × Nat × Nat) => [(4, .pointer (some ⟨g2, 0, none⟩)), (5, .pointer (some ⟨g3, 0, none⟩)), (7, .pointer (some ⟨e.2.2.1, 0, none⟩)), (8, .pointer (some ⟨e.2.2.2, 0, none⟩)), (26, .pointer (some ⟨g2, 14, none⟩)), (27, .int .i64 r3.2.Running), (28, .pointer (some ⟨g2, 1, none⟩)), (32, .pointer (some ⟨g2, 14, none⟩)), (33, .int .i64 r3.2.Running), (34, .int .i64 (IntKind.wrap .i64 (1 - r3.2.Running))), (35, .pointer (some ⟨g2, 1, none⟩)), (36, .pointer (some ⟨g2, 1 + Int.toNat (IntKind.wrap .i64 (1 - r3.2.Running)) * 6, none⟩)), (37, .pointer (some ⟨g2, 1 + Int.toNat (IntKind.wrap .i64 (1 - r3.2.Running)) * 6, none⟩)), (38, .agg (bx_T_Image x2.Image e.1 e.2.1).toArray)]) (fun e => .res (Box e.2.2.2 30 [.string (⟨#[]⟩), .int .i64 0, .int .i64 0, .int .i64 0, .slice none 0 0]) :: .res (Box e.2.2.1 30 [.string (⟨#[]⟩), .int .i64 0, .int .i64 0, .int .i64 0, .slice none 0 0]) :: .ro (SlL eu8 e.1 e.2.1 x2.Image.Data) :: .res (Box g3 35 (bx_T_Device r4.1 A6 c6 A7 c7)) :: .ro (SlL eu8 A6 c6 r4.1.Slots.e0.Image.Data) :: .ro (SlL eu8 A7 c7 r4.1.Slots.e1.Image.Data) :: .res (Box g2 35 (bx_T_Device r3.2 A4 c4 A5 c5)) :: .ro (SlL eu8 A4 c4 r3.2.Slots.e0.Image.Data) :: .ro (SlL eu8 A5 c5 r3.2.Slots.e1.Image.Data) :: R) (fun hnd1_14 => ?mnd1_14) ?tnd1_14
                                  case mnd1_14 =>
                                    refine St.share (Y := ?Ynd1_15) (fun (e : Option Addr × Nat) => [(4, .pointer (some ⟨g2, 0, none⟩)), (5, .pointer (some ⟨g3, 0, none⟩)), (26, .pointer (some ⟨g2, 14, none⟩)), (27, .int .i64 r3.2.Running), (28, .pointer (some ⟨g2, 1, none⟩)), (29, .pointer (some ⟨g2, 1 + Int.toNat r3.2.Running * 6, none⟩)), (30, .pointer (some ⟨g2, 1 + Int.toNat r3.2.Running * 6, none⟩)), (31, .agg (bx_T_Image x1.Image e.1 e.2).toArray), (32, .pointer (some ⟨g2, 14, none⟩)), (33, .int .i64 r3.2.Running), (34, .int .i64 (IntKind.wrap .i64 (1 - r3.2.Running))), (35, .pointer (some ⟨g2, 1, none⟩)), (36, .pointer (some ⟨g2, 1 + Int.toNat (IntKind.wrap .i64 (1 - r3.2.Running)) * 6, none⟩)), (37, .pointer (some ⟨g2, 1 + Int.toNat (IntKind.wrap .i64 (1 - r3.2.Running)) * 6, none⟩))]) (fun e => .ro (SlL eu8 e.1 e.2 x1.Image.Data) :: .res (Box g3 35 (bx_T_Device r4.1 A6 c6 A7 c7)) :: .ro (SlL eu8 A6 c6 r4.1.Slots.e0.Image.Data) :: .ro (SlL eu8 A7 c7 r4.1.Slots.e1.Image.Data) :: .res (Box g2 35 (bx_T_Device r3.2 A4 c4 A5 c5)) :: .ro (SlL eu8 A4 c4 r3.2.Slots.e0.Image.Data) :: .ro (SlL eu8 A5 c5 r3.2.Slots.e1.Image.Data) :: R) (fun hnd1_15 => ?mnd1_15) ?tnd1_15
                                    case mnd1_15 =>
                                      refine St.share (Y := ?Ynd1_16) (fun (e : Option Addr × Nat × Nat) => [(4, .pointer (some ⟨g2, 0, none⟩)), (5, .pointer (some ⟨g3, 0, none⟩)), (7, .pointer (some ⟨e.2.2, 0, none⟩)), (26, .pointer (some ⟨g2, 14, none⟩)), (27, .int .i64 r3.2.Running), (28, .pointer (some ⟨g2, 1, none⟩)), (29, .pointer (some ⟨g2, 1 + Int.toNat r3.2.Running * 6, none⟩)), (30, .pointer (some ⟨g2, 1 + Int.toNat r3.2.Running * 6, none⟩)), (31, .agg (bx_T_Image x1.Image e.1 e.2.1).toArray), (32, .pointer (some ⟨g2, 14, none⟩)), (33, .int .i64 r3.2.Running), (34, .int .i64 (IntKind.wrap .i64 (1 - r3.2.Running))), (35, .pointer (some ⟨g2, 1, none⟩))]) (fun e => .res (Box e.2.2 30 [.string (⟨#[]⟩), .int .i64 0, .int .i64 0, .int .i64 0, .slice none 0 0]) :: .ro (SlL eu8 e.1 e.2.1 x1.Image.Data) :: .res (Box g3 35 (bx_T_Device r4.1 A6 c6 A7 c7)) :: .ro (SlL eu8 A6 c6 r4.1.Slots.e0.Image.Data) :: .ro (SlL eu8 A7 c7 r4.1.Slots.e1.Image.Data) :: .res (Box g2 35 (bx_T_Device r3.2 A4 c4 A5 c5)) :: .ro (SlL eu8 A4 c4 r3.2.Slots.e0.Image.Data) :: .ro (SlL eu8 A5 c5 r3.2.Slots.e1.Image.Data) :: R) (fun hnd1_16 => ?mnd1_16) ?tnd1_16
                                      case mnd1_16 =>
                                        refine St.share (Y := ?Ynd1_17) (fun (e : Option Addr × Nat × Nat) => [(4, .pointer (some ⟨g2, 0, none⟩)), (5, .pointer (some ⟨g3, 0, none⟩)), (8, .pointer (some ⟨e.2.2, 0, none⟩)), (26, .pointer (some ⟨g2, 14, none⟩)), (27, .int .i64 r3.2.Running), (28, .pointer (some ⟨g2, 1, none⟩)), (29, .pointer (some ⟨g2, 1 + Int.toNat r3.2.Running * 6, none⟩)), (30, .pointer (some ⟨g2, 1 + Int.toNat r3.2.Running * 6, none⟩)), (31, .agg (bx_T_Image x1.Image e.1 e.2.1).toArray), (32, .pointer (some ⟨g2, 14, none⟩)), (33, .int .i64 r3.2.Running), (34, .int .i64 (IntKind.wrap .i64 (1 - r3.2.Running))), (35, .pointer (some ⟨g2, 1, none⟩))]) (fun e => .res (Box e.2.2 30 [.string (⟨#[]⟩), .int .i64 0, .int .i64 0, .int .i64 0, .slice none 0 0]) :: .ro (SlL eu8 e.1 e.2.1 x1.Image.Data) :: .res (Box g3 35 (bx_T_Device r4.1 A6 c6 A7 c7)) :: .ro (SlL eu8 A6 c6 r4.1.Slots.e0.Image.Data) :: .ro (SlL eu8 A7 c7 r4.1.Slots.e1.Image.Data) :: .res (Box g2 35 (bx_T_Device r3.2 A4 c4 A5 c5)) :: .ro (SlL eu8 A4 c4 r3.2.Slots.e0.Image.Data) :: .ro (SlL eu8 A5 c5 r3.2.Slots.e1.Image.Data) :: R) (fun hnd1_17 => ?mnd1_17) ?tnd1_17
                                        case mnd1_17 =>
                                          refine St.share (Y := ?Ynd1_18) (fun (e : Option Addr × Nat) => [(4, .pointer (some ⟨g2, 0, none⟩)), (5, .pointer (some ⟨g3, 0, none⟩)), (26, .pointer (some ⟨g2, 14, none⟩)), (27, .int .i64 r3.2.Running), (28, .pointer (some ⟨g2, 1, none⟩)), (29, .pointer (some ⟨g2, 1 + Int.toNat r3.2.Running * 6, none⟩)), (30, .pointer (some ⟨g2, 1 + Int.toNat r3.2.Running * 6, none⟩)), (32, .pointer (some ⟨g2, 14, none⟩)), (33, .int .i64 r3.2.Running), (34, .int .i64 (IntKind.wrap .i64 (1 - r3.2.Running))), (35, .pointer (some ⟨g2, 1, none⟩)), (36, .pointer (some ⟨g2, 1 + Int.toNat (IntKind.wrap .i64 (1 - r3.2.Running)) * 6, none⟩)), (37, .pointer (some ⟨g2, 1 + Int.toNat (IntKind.wrap .i64 (1 - r3.2.Running)) * 6, none⟩)), (38, .agg (bx_T_Image x2.Image e.1 e.2).toArray)]) (fun e => .ro (SlL eu8 e.1 e.2 x2.Image.Data) :: .res (Box g3 35 (bx_T_Device r4.1 A6 c6 A7 c7)) :: .ro (SlL eu8 A6 c6 r4.1.Slots.e0.Image.Data) :: .ro (SlL eu8 A7 c7 r4.1.Slots.e1.Image.Data) :: .res (Box g2 35 (bx_T_Device r3.2 A4 c4 A5 c5)) :: .ro (SlL eu8 A4 c4 r3.2.Slots.e0.Image.Data) :: .ro (SlL eu8 A5 c5 r3.2.Slots.e1.Image.Data) :: R) (fun hnd1_18 => ?mnd1_18) ?tnd1_18
                                          case mnd1_18 =>
                                            refine St.share (Y := ?Ynd1_19) (fun (e : Nat) => [(4, .pointer (some ⟨g2, 0, none⟩)), (5, .pointer (some ⟨g3, 0, none⟩)), (7, .pointer (some ⟨e, 0, none⟩)), (26, .pointer (some ⟨g2, 14, none⟩)), (27, .int .i64 r3.2.Running), (28, .pointer (some ⟨g2, 1, none⟩)), (29, .pointer (some ⟨g2, 1 + Int.toNat r3.2.Running * 6, none⟩)), (30, .pointer (some ⟨g2, 1 + Int.toNat r3.2.Running * 6, none⟩)), (32, .pointer (some ⟨g2, 14, none⟩)), (33, .int .i64 r3.2.Running), (34, .int .i64 (IntKind.wrap .i64 (1 - r3.2.Running))), (35, .pointer (some ⟨g2, 1, none⟩)), (36, .pointer (some ⟨g2, 1 + Int.toNat (IntKind.wrap .i64 (1 - r3.2.Running)) * 6, none⟩)), (37, .pointer (some ⟨g2, 1 + Int.toNat (IntKind.wrap .i64 (1 - r3.2.Running)) * 6, none⟩))]) (fun e => .res (Box e 30 [.string (⟨#[]⟩), .int .i64 0, .int .i64 0, .int .i64 0, .slice none 0 0]) :: .res (Box g3 35 (bx_T_Device r4.1 A6 c6 A7 c7)) :: .ro (SlL eu8 A6 c6 r4.1.Slots.e0.Image.Data) :: .ro (SlL eu8 A7 c7 r4.1.Slots.e1.Image.Data) :: .res (Box g2 35 (bx_T_Device r3.2 A4 c4 A5 c5)) :: .ro (SlL eu8 A4 c4 r3.2.Slots.e0.Image.Data) :: .ro (SlL eu8 A5 c5 r3.2.Slots.e1.Image.Data) :: R) (fun hnd1_19 => ?mnd1_19) ?tnd1_19
                                            case mnd1_19 =>
                                              refine St.share (Y := ?Ynd1_20) (fun (e : Nat) => [(4, .pointer (some ⟨g2, 0, none⟩)), (5, .pointer (some ⟨g3, 0, none⟩)), (8, .pointer (some ⟨e, 0, none⟩)), (26, .pointer (some ⟨g2, 14, none⟩)), (27, .int .i64 r3.2.Running), (28, .pointer (some ⟨g2, 1, none⟩)), (29, .pointer (some ⟨g2, 1 + Int.toNat r3.2.Running * 6, none⟩)), (30, .pointer (some ⟨g2, 1 + Int.toNat r3.2.Running * 6, none⟩)), (32, .pointer (some ⟨g2, 14, none⟩)), (33, .int .i64 r3.2.Running), (34, .int .i64 (IntKind.wrap .i64 (1 - r3.2.Running))), (35, .pointer (some ⟨g2, 1, none⟩)), (36, .pointer (some ⟨g2, 1 + Int.toNat (IntKind.wrap .i64 (1 - r3.2.Running)) * 6, none⟩)), (37, .pointer (some ⟨g2, 1 + Int.toNat (IntKind.wrap .i64 (1 - r3.2.Running)) * 6, none⟩))]) (fun e => .res (Box e 30 [.string (⟨#[]⟩), .int .i64 0, .int .i64 0, .int .i64 0, .slice none 0 0]) :: .res (Box g3 35 (bx_T_Device r4.1 A6 c6 A7 c7)) :: .ro (SlL eu8 A6 c6 r4.1.Slots.e0.Image.Data) :: .ro (SlL eu8 A7 c7 r4.1.Slots.e1.Image.Data) :: .res (Box g2 35 (bx_T_Device r3.2 A4 c4 A5 c5)) :: .ro (SlL eu8 A4 c4 r3.2.Slots.e0.Image.Data) :: .ro (SlL eu8 A5 c5 r3.2.Slots.e1.Image.Data) :: R) (fun hnd1_20 => ?mnd1_20) ?tnd1_20
                                              case mnd1_20 =>
                                                refine St.share (Y := ?Ynd1_21) (fun (e : Nat × Nat) => [(4, .pointer (some ⟨g2, 0, none⟩)), (5, .pointer (some ⟨g3, 0, none⟩)), (7, .pointer (some ⟨e.1, 0, none⟩)), (8, .pointer (some ⟨e.2, 0, none⟩)), (26, .pointer (some ⟨g2, 14, none⟩)), (27, .int .i64 r3.2.Running), (28, .pointer (some ⟨g2, 1, none⟩)), (29, .pointer (some ⟨g2, 1 + Int.toNat r3.2.Running * 6, none⟩)), (30, .pointer (some ⟨g2, 1 + Int.toNat r3.2.Running * 6, none⟩)), (32, .pointer (some ⟨g2, 14, none⟩)), (33, .int .i64 r3.2.Running), (34, .int .i64 (IntKind.wrap .i64 (1 - r3.2.Running))), (35, .pointer (some ⟨g2, 1, none⟩))]) (fun e => .res (Box e.2 30 [.string (⟨#[]⟩), .int .i64 0, .int .i64 0, .int .i64 0, .slice none 0 0]) :: .res (Box e.1 30 [.string (⟨#[]⟩), .int .i64 0, .int .i64 0, .int .i64 0, .slice none 0 0]) :: .res (Box g3 35 (bx_T_Device r4.1 A6 c6 A7 c7)) :: .ro (SlL eu8 A6 c6 r4.1.Slots.e0.Image.Data) :: .ro (SlL eu8 A7 c7 r4.1.Slots.e1.Image.Data) :: .res (Box g2 35 (bx_T_Device r3.2 A4 c4 A5 c5)) :: .ro (SlL eu8 A4 c4 r3.2.Slots.e0.Image.Data) :: .ro (SlL eu8 A5 c5 r3.2.Slots.e1.Image.Data) :: R) (fun hnd1_21 => ?mnd1_21) ?tnd1_21
                                                case mnd1_21 =>
                                                  refine St.share (Y := ?Ynd1_22) (fun (e : Option Addr × Nat × Nat) => [(4, .pointer (some ⟨g2, 0, none⟩)), (5, .pointer (some ⟨g3, 0, none⟩)), (7, .pointer (some ⟨e.2.2, 0, none⟩)), (26, .pointer (some ⟨g2, 14, none⟩)), (27, .int .i64 r3.2.Running), (28, .pointer (some ⟨g2, 1, none⟩)), (32, .pointer (some ⟨g2, 14, none⟩)), (33, .int .i64 r3.2.Running), (34, .int .i64 (IntKind.wrap .i64 (1 - r3.2.Running))), (35, .pointer (some ⟨g2, 1, none⟩)), (36, .pointer (some ⟨g2, 1 + Int.toNat (IntKind.wrap .i64 (1 - r3.2.Running)) * 6, none⟩)), (37, .pointer (some ⟨g2, 1 + Int.toNat (IntKind.wrap .i64 (1 - r3.2.Running)) * 6, none⟩)), (38, .agg (bx_T_Image x2.Image e.1 e.2.1).toArray)]) (fun e => .res (Box e.2.2 30 [.string (⟨#[]⟩), .int .i64 0, .int .i64 0, .int .i64 0, .slice none 0 0]) :: .ro (SlL eu8 e.1 e.2.1 x2.Image.Data) :: .res (Box g3 35 (bx_T_Device r4.1 A6 c6 A7 c7)) :: .ro (SlL eu8 A6 c6 r4.1.Slots.e0.Image.Data) :: .ro (SlL eu8 A7 c7 r4.1.Slots.e1.Image.Data) :: .res (Box g2 35 (bx_T_Device r3.2 A4 c4 A5 c5)) :: .ro (SlL eu8 A4 c4 r3.2.Slots.e0.Image.Data) :: .ro (SlL eu8 A5 c5 r3.2.Slots.e1.Image.Data) :: R) (fun hnd1_22 => ?mnd1_22) ?tnd1_22
                                                  case mnd1_22 =>
                                                    refine St.share (Y := ?Ynd1_23) (fun (e : Option Addr × Nat × Nat) => [(4, .pointer (some ⟨g2, 0, none⟩)), (5, .pointer (some ⟨g3, 0, none⟩)), (8, .pointer (some ⟨e.2.2, 0, none⟩)), (26, .pointer (some ⟨g2, 14, none⟩)), (27, .int .i64 r3.2.Running), (28, .pointer (some ⟨g2, 1, none⟩)), (32, .pointer (some ⟨g2, 14, none⟩)), (33, .int .i64 r3.2.Running), (34, .int .i64 (IntKind.wrap .i64 (1 - r3.2.Running))), (35, .pointer (some ⟨g2, 1, none⟩)), (36, .pointer (some ⟨g2, 1 + Int.toNat (IntKind.wrap .i64 (1 - r3.2.Running)) * 6, none⟩)), (37, .pointer (some ⟨g2, 1 + Int.toNat (IntKind.wrap .i64 (1 - r3.2.Running)) * 6, none⟩)), (38, .agg (bx_T_Image x2.Image e.1 e.2.1).toArray)]) (fun e => .res (Box e.2.2 30 [.string (⟨#[]⟩), .int .i64 0, .int .i64 0, .int .i64 0, .slice none 0 0]) :: .ro (SlL eu8 e.1 e.2.1 x2.Image.Data) :: .res (Box g3 35 (bx_T_Device r4.1 A6 c6 A7 c7)) :: .ro (SlL eu8 A6 c6 r4.1.Slots.e0.Image.Data) :: .ro (SlL eu8 A7 c7 r4.1.Slots.e1.Image.Data) :: .res (Box g2 35 (bx_T_Device r3.2 A4 c4 A5 c5)) :: .ro (SlL eu8 A4 c4 r3.2.Slots.e0.Image.Data) :: .ro (SlL eu8 A5 c5 r3.2.Slots.e1.Image.Data) :: R) (fun hnd1_23 => ?mnd1_23) ?tnd1_23
                                                    case mnd1_23 =>
                                                      refine St.share (Y := ?Ynd1_24) (fun (e : Nat × Nat) => [(4, .pointer (some ⟨g2, 0, none⟩)), (5, .pointer (some ⟨g3, 0, none⟩)), (7, .pointer (some ⟨e.1, 0, none⟩)), (8, .pointer (some ⟨e.2, 0, none⟩)), (26, .pointer (some ⟨g2, 14, none⟩)), (27, .int .i64 r3.2.Running), (28, .pointer (some ⟨g2, 1, none⟩)), (32, .pointer (some ⟨g2, 14, none⟩)), (33, .int .i64 r3.2.Running), (34, .int .i64 (IntKind.wrap .i64 (1 - r3.2.Running))), (35, .pointer (some ⟨g2, 1, none⟩)), (36, .pointer (some ⟨g2, 1 + Int.toNat (IntKind.wrap .i64 (1 - r3.2.Running)) * 6, none⟩)), (37, .pointer (some ⟨g2, 1 + Int.toNat (IntKind.wrap .i64 (1 - r3.2.Running)) * 6, none⟩))]) (fun e => .res (Box e.2 30 [.string (⟨#[]⟩), .int .i64 0, .int .i64 0, .int .i64 0, .slice none 0 0]) :: .res (Box e.1 30 [.string (⟨#[]⟩), .int .i64 0, .int .i64 0, .int .i64 0, .slice none 0 0]) :: .res (Box g3 35 (bx_T_Device r4.1 A6 c6 A7 c7)) :: .ro (SlL eu8 A6 c6 r4.1.Slots.e0.Image.Data) :: .ro (SlL eu8 A7 c7 r4.1.Slots.e1.Image.Data) :: .res (Box g2 35 (bx_T_Device r3.2 A4 c4 A5 c5)) :: .ro (SlL eu8 A4 c4 r3.2.Slots.e0.Image.Data) :: .ro (SlL eu8 A5 c5 r3.2.Slots.e1.Image.Data) :: R) (fun hnd1_24 => ?mnd1_24) ?tnd1_24
                                                      case mnd1_24 =>
                                                        refine St.share (Y := ?Ynd1_25) (fun (e : Unit) => [(4, .pointer (some ⟨g2, 0, none⟩)), (5, .pointer (some ⟨g3, 0, none⟩)), (26, .pointer (some ⟨g2, 14, none⟩)), (27, .int .i64 r3.2.Running), (28, .pointer (some ⟨g2, 1, none⟩)), (29, .pointer (some ⟨g2, 1 + Int.toNat r3.2.Running * 6, none⟩)), (30, .pointer (some ⟨g2, 1 + Int.toNat r3.2.Running * 6, none⟩)), (32, .pointer (some ⟨g2, 14, none⟩)), (33, .int .i64 r3.2.Running), (34, .int .i64 (IntKind.wrap .i64 (1 - r3.2.Running))), (35, .pointer (some ⟨g2, 1, none⟩)), (36, .pointer (some ⟨g2, 1 + Int.toNat (IntKind.wrap .i64 (1 - r3.2.Running)) * 6, none⟩)), (37, .pointer (some ⟨g2, 1 + Int.toNat (IntKind.wrap .i64 (1 - r3.2.Running)) * 6, none⟩))]) (fun e => .res (Box g3 35 (bx_T_Device r4.1 A6 c6 A7 c7)) :: .ro (SlL eu8 A6 c6 r4.1.Slots.e0.Image.Data) :: .ro (SlL eu8 A7 c7 r4.1.Slots.e1.Image.Data) :: .res (Box g2 35 (bx_T_Device r3.2 A4 c4 A5 c5)) :: .ro (SlL eu8 A4 c4 r3.2.Slots.e0.Image.Data) :: .ro (SlL eu8 A5 c5 r3.2.Slots.e1.Image.Data) :: R) (fun hnd1_25 => ?mnd1_25) ?tnd1_25
                                                        case mnd1_25 =>
                                                          refine St.share (Y := ?Ynd1_26) (fun (e : Nat) => [(4, .pointer (some ⟨g2, 0, none⟩)), (5, .pointer (some ⟨g3, 0, none⟩)), (7, .pointer (some ⟨e, 0, none⟩)), (26, .pointer (some ⟨g2, 14, none⟩)), (27, .int .i64 r3.2.Running), (28, .pointer (some ⟨g2, 1, none⟩)), (29, .pointer (some ⟨g2, 1 + Int.toNat r3.2.Running * 6, none⟩)), (30, .pointer (some ⟨g2, 1 + Int.toNat r3.2.Running * 6, none⟩)), (32, .pointer (some ⟨g2, 14, none⟩)), (33, .int .i64 r3.2.Running), (34, .int .i64 (IntKind.wrap .i64 (1 - r3.2.Running))), (35, .pointer (some ⟨g2, 1, none⟩))]) (fun e => .res (Box e 30 [.string (⟨#[]⟩), .int .i64 0, .int .i64 0, .int .i64 0, .slice none 0 0]) :: .res (Box g3 35 (bx_T_Device r4.1 A6 c6 A7 c7)) :: .ro (SlL eu8 A6 c6 r4.1.Slots.e0.Image.Data) :: .ro (SlL eu8 A7 c7 r4.1.Slots.e1.Image.Data) :: .res (Box g2 35 (bx_T_Device r3.2 A4 c4 A5 c5)) :: .ro (SlL eu8 A4 c4 r3.2.Slots.e0.Image.Data) :: .ro (SlL eu8 A5 c5 r3.2.Slots.e1.Image.Data) :: R) (fun hnd1_26 => ?mnd1_26) ?tnd1_26
                                                          case mnd1_26 =>
                                                            refine St.share (Y := ?Ynd1_27) (fun (e : Nat) => [(4, .pointer (some ⟨g2, 0, none⟩)), (5, .pointer (some ⟨g3, 0, none⟩)), (8, .pointer (some ⟨e, 0, none⟩)), (26, .pointer (some ⟨g2, 14, none⟩)), (27, .int .i64 r3.2.Running), (28, .pointer (some ⟨g2, 1, none⟩)), (29, .pointer (some ⟨g2, 1 + Int.toNat r3.2.Running * 6, none⟩)), (30, .pointer (some ⟨g2, 1 + Int.toNat r3.2.Running * 6, none⟩)), (32, .pointer (some ⟨g2, 14, none⟩)), (33, .int .i64 r3.2.Running), (34, .int .i64 (IntKind.wrap .i64 (1 - r3.2.Running))), (35, .pointer (some ⟨g2, 1, none⟩))]) (fun e => .res (Box e 30 [.string (⟨#[]⟩), .int .i64 0, .int .i64 0, .int .i64 0, .slice none 0 0]) :: .res (Box g3 35 (bx_T_Device r4.1 A6 c6 A7 c7)) :: .ro (SlL eu8 A6 c6 r4.1.Slots.e0.Image.Data) :: .ro (SlL eu8 A7 c7 r4.1.Slots.e1.Image.Data) :: .res (Box g2 35 (bx_T_Device r3.2 A4 c4 A5 c5)) :: .ro (SlL eu8 A4 c4 r3.2.Slots.e0.Image.Data) :: .ro (SlL eu8 A5 c5 r3.2.Slots.e1.Image.Data) :: R) (fun hnd1_27 => ?mnd1_27) ?tnd1_27
                                                            case mnd1_27 =>
                                                              refine St.share (Y := ?Ynd1_28) (fun (e : Nat) => [(4, .pointer (some ⟨g2, 0, none⟩)), (5, .pointer (some ⟨g3, 0, none⟩)), (7, .pointer (some ⟨e, 0, none⟩)), (26, .pointer (some ⟨g2, 14, none⟩)), (27, .int .i64 r3.2.Running), (28, .pointer (some ⟨g2, 1, none⟩)), (32, .pointer (some ⟨g2, 14, none⟩)), (33, .int .i64 r3.2.Running), (34, .int .i64 (IntKind.wrap .i64 (1 - r3.2.Running))), (35, .pointer (some ⟨g2, 1, none⟩)), (36, .pointer (some ⟨g2, 1 + Int.toNat (IntKind.wrap .i64 (1 - r3.2.Running)) * 6, none⟩)), (37, .pointer (some ⟨g2, 1 + Int.toNat (IntKind.wrap .i64 (1 - r3.2.Running)) * 6, none⟩))]) (fun e => .res (Box e 30 [.string (⟨#[]⟩), .int .i64 0, .int .i64 0, .int .i64 0, .slice none 0 0]) :: .res (Box g3 35 (bx_T_Device r4.1 A6 c6 A7 c7)) :: .ro (SlL eu8 A6 c6 r4.1.Slots.e0.Image.Data) :: .ro (SlL eu8 A7 c7 r4.1.Slots.e1.Image.Data) :: .res (Box g2 35 (bx_T_Device r3.2 A4 c4 A5 c5)) :: .ro (SlL eu8 A4 c4 r3.2.Slots.e0.Image.Data) :: .ro (SlL eu8 A5 c5 r3.2.Slots.e1.Image.Data) :: R) (fun hnd1_28 => ?mnd1_28) ?tnd1_28
                                                              case mnd1_28 =>
                                                                refine St.share (Y := ?Ynd1_29) (fun (e : Nat) => [(4, .pointer (some ⟨g2, 0, none⟩)), (5, .pointer (some ⟨g3, 0, none⟩)), (8, .pointer (some ⟨e, 0, none⟩)), (26, .pointer (some ⟨g2, 14, none⟩)), (27, .int .i64 r3.2.Running), (28, .pointer (some ⟨g2, 1, none⟩)), (32, .pointer (some ⟨g2, 14, none⟩)), (33, .int .i64 r3.2.Running), (34, .int .i64 (IntKind.wrap .i64 (1 - r3.2.Running))), (35, .pointer (some ⟨g2, 1, none⟩)), (36, .pointer (some ⟨g2, 1 + Int.toNat (IntKind.wrap .i64 (1 - r3.2.Running)) * 6, none⟩)), (37, .pointer (some ⟨g2, 1 + Int.toNat (IntKind.wrap .i64 (1 - r3.2.Running)) * 6, none⟩))]) (fun e => .res (Box e 30 [.string (⟨#[]⟩), .int .i64 0, .int .i64 0, .int .i64 0, .slice none 0 0]) :: .res (Box g3 35 (bx_T_Device r4.1 A6 c6 A7 c7)) :: .ro (SlL eu8 A6 c6 r4.1.Slots.e0.Image.Data) :: .ro (SlL eu8 A7 c7 r4.1.Slots.e1.Image.Data) :: .res (Box g2 35 (bx_T_Device r3.2 A4 c4 A5 c5)) :: .ro (SlL eu8 A4 c4 r3.2.Slots.e0.Image.Data) :: .ro (SlL eu8 A5 c5 r3.2.Slots.e1.Image.Data) :: R) (fun hnd1_29 => ?mnd1_29) ?tnd1_29
                                                                case mnd1_29 =>
                                                                  refine St.share (Y := ?Ynd1_30) (fun (e : Nat × Nat) => [(4, .pointer (some ⟨g2, 0, none⟩)), (5, .pointer (some ⟨g3, 0, none⟩)), (7, .pointer (some ⟨e.1, 0, none⟩)), (8, .pointer (some ⟨e.2, 0, none⟩)), (26, .pointer (some ⟨g2, 14, none⟩)), (27, .int .i64 r3.2.Running), (28, .pointer (some ⟨g2, 1, none⟩)), (32, .pointer (some ⟨g2, 14, none⟩)), (33, .int .i64 r3.2.Running), (34, .int .i64 (IntKind.wrap .i64 (1 - r3.2.Running))), (35, .pointer (some ⟨g2, 1, none⟩))]) (fun e => .res (Box e.2 30 [.string (⟨#[]⟩), .int .i64 0, .int .i64 0, .int .i64 0, .slice none 0 0]) :: .res (Box e.1 30 [.string (⟨#[]⟩), .int .i64 0, .int .i64 0, .int .i64 0, .slice none 0 0]) :: .res (Box g3 35 (bx_T_Device r4.1 A6 c6 A7 c7)) :: .ro (SlL eu8 A6 c6 r4.1.Slots.e0.Image.Data) :: .ro (SlL eu8 A7 c7 r4.1.Slots.e1.Image.Data) :: .res (Box g2 35 (bx_T_Device r3.2 A4 c4 A5 c5)) :: .ro (SlL eu8 A4 c4 r3.2.Slots.e0.Image.Data) :: .ro (SlL eu8 A5 c5 r3.2.Slots.e1.Image.Data) :: R) (fun hnd1_30 => ?mnd1_30) ?tnd1_30
                                                                  case mnd1_30 =>
                                                                    refine St.xfl (fun _ h => h) (Rd.p rfl) rfl ?_
                                                                    refine St.xfl (fun _ h => h) (Rd.loadB 14 rfl (.tail _ (.tail _ (.tail _ (.head _)))) rfl rfl) rfl ?_
                                                                    refine St.xfl (fun _ h => h) (Rd.p rfl) rfl ?_
                                                                    refine St.xfl (fun _ h => h) (Rd.p rfl) rfl ?_
                                                                    refine St.xfl (fun _ h => h) (Rd.loadB 14 rfl (.tail _ (.tail _ (.tail _ (.head _)))) rfl rfl) rfl ?_
                                                                    refine St.xfl (fun _ h => h) (Rd.p rfl) rfl ?_
                                                                    refine St.xfl (fun _ h => h) (Rd.p rfl) rfl ?_
                                                                    refine St.xalt ?_ ?_
                                                                    · refine St.xef ?_
                                                                      refine St.ixP (sz := 6) hx1 rfl rfl rfl rfl rfl rfl rfl rfl ?_
                                                                      refine St.xk (fun _ w => ((.k (.k (.k (.k (.k (.k .z)))))) : Keep _ _).sat w) ?_
                                                                      refine St.xfl (fun _ h => h) (Rd.p rfl) rfl ?_
                                                                      refine St.xalt ?_ ?_
                                                                      · refine St.xef ?_
                                                                        refine St.ldP (ls := l_T_Slot) 0 [.string r3.2.Name] [.int .i64 r3.2.Active, .int .i64 r3.2.Running, .bool r3.2.Trial] [(r3.2.Slots.e0, ((A4, c4), ())), (r3.2.Slots.e1, ((A5, c5), ()))] (fun ex => .agg (bx_T_Image x1.Image ex.1.1 ex.1.2).toArray) hx1 rfl rfl (.tail _ (.tail _ (.tail _ (.head _)))) rfl rfl rfl ⟨(.tail _ (.tail _ (.tail _ (.tail _ (.head _))))), (.tail _ (.tail _ (.tail _ (.tail _ (.tail _ (.head _)))))), trivial⟩ rfl (fun _ => rfl) fun ex1 => ?_
                                                                        obtain ⟨⟨A8, c8⟩, _⟩ := ex1
                                                                        refine St.asrt (F' := .ro (SlL eu8 A8 c8 x1.Image.Data) :: .res (Box g3 35 (bx_T_Device r4.1 A6 c6 A7 c7)) :: .ro (SlL eu8 A6 c6 r4.1.Slots.e0.Image.Data) :: .ro (SlL eu8 A7 c7 r4.1.Slots.e1.Image.Data) :: .res (Box g2 35 (bx_T_Device r3.2 A4 c4 A5 c5)) :: .ro (SlL eu8 A4 c4 r3.2.Slots.e0.Image.Data) :: .ro (SlL eu8 A5 c5 r3.2.Slots.e1.Image.Data) :: R) (fun _ w => w) ?_
                                                                        refine St.xk (fun _ w => ((.d (.k (.k (.k (.k (.k (.k .z))))))) : Keep _ _).sat w) ?_
                                                                        refine St.xalt ?_ ?_
                                                                        · refine St.xef ?_
                                                                          refine St.ixP (sz := 6) hx2 rfl rfl rfl rfl rfl rfl rfl rfl ?_
                                                                          refine St.xk (fun _ w => ((.d (.k (.k (.k (.k (.k (.k .z))))))) : Keep _ _).sat w) ?_
                                                                          refine St.xfl (fun _ h => h) (Rd.p rfl) rfl ?_
                                                                          refine hnd1_15 _ _ (A8, c8) ?_ ?_
                                                                          · exact ⟨rfl, rfl, rfl, rfl, rfl, rfl, rfl, rfl, rfl, rfl, rfl, rfl, rfl, rfl, trivial⟩
                                                                          · exact fun _ w => ((.k (.k (.k (.k (.k (.k (.k .z))))))) : Keep _ _).sat w
                                                                        · refine St.xalt ?_ ?_
                                                                          · refine St.xef ?_
                                                                            refine St.alloc rfl rfl fun g4 => ?_
                                                                            refine St.xk (fun _ w => ((.d (.d (.k (.k (.k (.k (.k (.k .z)))))))) : Keep _ _).sat w) ?_
                                                                            refine hnd1_16 _ _ (A8, c8, g4) ?_ ?_
                                                                            · exact ⟨rfl, rfl, rfl, rfl, rfl, rfl, rfl, rfl, rfl, rfl, rfl, rfl, rfl, trivial⟩
                                                                            · exact fun _ w => ((.k (.k (.k (.k (.k (.k (.k (.k .z)))))))) : Keep _ _).sat w
                                                                          · refine St.xef ?_
                                                                            refine St.alloc rfl rfl fun g5 => ?_
                                                                            refine St.xk (fun _ w => ((.d (.d (.k (.k (.k (.k (.k (.k .z)))))))) : Keep _ _).sat w) ?_
                                                                            refine hnd1_17 _ _ (A8, c8, g5) ?_ ?_
                                                                            · exact ⟨rfl, rfl, rfl, rfl, rfl, rfl, rfl, rfl, rfl, rfl, rfl, rfl, rfl, trivial⟩
                                                                            · exact fun _ w => ((.k (.k (.k (.k (.k (.k (.k (.k .z)))))))) : Keep _ _).sat w
                                                                      · refine St.xalt ?_ ?_
                                                                        · refine St.xef ?_
                                                                          refine St.ixP (sz := 6) hx2 rfl rfl rfl rfl rfl rfl rfl rfl ?_
                                                                          refine St.xk (fun _ w => ((.k (.k (.k (.k (.k (.k .z)))))) : Keep _ _).sat w) ?_
                                                                          refine St.xfl (fun _ h => h) (Rd.p rfl) rfl ?_
                                                                          refine hnd1_25 _ _ () ?_ ?_
                                                                          · exact ⟨rfl, rfl, rfl, rfl, rfl, rfl, rfl, rfl, rfl, rfl, rfl, rfl, rfl, trivial⟩
                                                                          · exact fun _ w => ((.k (.k (.k (.k (.k (.k .z)))))) : Keep _ _).sat w
                                                                        · refine St.xalt ?_ ?_
                                                                          · refine St.xef ?_
                                                                            refine St.alloc rfl rfl fun g4 => ?_
                                                                            refine St.xk (fun _ w => ((.d (.k (.k (.k (.k (.k (.k .z))))))) : Keep _ _).sat w) ?_
                                                                            refine hnd1_26 _ _ g4 ?_ ?_
                                                                            · exact ⟨rfl, rfl, rfl, rfl, rfl, rfl, rfl, rfl, rfl, rfl, rfl, rfl, trivial⟩
                                                                            · exact fun _ w => ((.k (.k (.k (.k (.k (.k (.k .z))))))) : Keep _ _).sat w
                                                                          · refine St.xef ?_
                                                                            refine St.alloc rfl rfl fun g5 => ?_
                                                                            refine St.xk (fun _ w => ((.d (.k (.k (.k (.k (.k (.k .z))))))) : Keep _ _).sat w) ?_
                                                                            refine hnd1_27 _ _ g5 ?_ ?_
                                                                            · exact ⟨rfl, rfl, rfl, rfl, rfl, rfl, rfl, rfl, rfl, rfl, rfl, rfl, trivial⟩
                                                                            · exact fun _ w => ((.k (.k (.k (.k (.k (.k (.k .z))))))) : Keep _ _).sat w
                                                                    · refine St.xalt ?_ ?_
                                                                      · refine St.xef ?_
                                                                        refine St.ixP (sz := 6) hx2 rfl rfl rfl rfl rfl rfl rfl rfl ?_
                                                                        refine St.xk (fun _ w => ((.k (.k (.k (.k (.k (.k .z)))))) : Keep _ _).sat w) ?_
                                                                        refine St.xfl (fun _ h => h) (Rd.p rfl) rfl ?_
                                                                        refine St.xalt ?_ ?_
                                                                        · refine St.xef ?_
                                                                          refine St.ixP (sz := 6) hx1 rfl rfl rfl rfl rfl rfl rfl rfl ?_
                                                                          refine St.xk (fun _ w => ((.k (.k (.k (.k (.k (.k .z)))))) : Keep _ _).sat w) ?_
                                                                          refine St.xfl (fun _ h => h) (Rd.p rfl) rfl ?_
                                                                          refine hnd1_25 _ _ () ?_ ?_
                                                                          · exact ⟨rfl, rfl, rfl, rfl, rfl, rfl, rfl, rfl, rfl, rfl, rfl, rfl, rfl, trivial⟩
                                                                          · exact fun _ w => ((.k (.k (.k (.k (.k (.k .z)))))) : Keep _ _).sat w
                                                                        · refine St.xalt ?_ ?_
                                                                          · refine St.xef ?_
                                                                            refine St.ldP (ls := l_T_Slot) 0 [.string r3.2.Name] [.int .i64 r3.2.Active, .int .i64 r3.2.Running, .bool r3.2.Trial] [(r3.2.Slots.e0, ((A4, c4), ())), (r3.2.Slots.e1, ((A5, c5), ()))] (fun ex => .agg (bx_T_Image x2.Image ex.1.1 ex.1.2).toArray) hx2 rfl rfl (.tail _ (.tail _ (.tail _ (.head _)))) rfl rfl rfl ⟨(.tail _ (.tail _ (.tail _ (.tail _ (.head _))))), (.tail _ (.tail _ (.tail _ (.tail _ (.tail _ (.head _)))))), trivial⟩ rfl (fun _ => rfl) fun ex2 => ?_
                                                                            obtain ⟨⟨A9, c9⟩, _⟩ := ex2
                                                                            refine St.asrt (F' := .ro (SlL eu8 A9 c9 x2.Image.Data) :: .res (Box g3 35 (bx_T_Device r4.1 A6 c6 A7 c7)) :: .ro (SlL eu8 A6 c6 r4.1.Slots.e0.Image.Data) :: .ro (SlL eu8 A7 c7 r4.1.Slots.e1.Image.Data) :: .res (Box g2 35 (bx_T_Device r3.2 A4 c4 A5 c5)) :: .ro (SlL eu8 A4 c4 r3.2.Slots.e0.Image.Data) :: .ro (SlL eu8 A5 c5 r3.2.Slots.e1.Image.Data) :: R) (fun _ w => w) ?_
                                                                            refine St.xk (fun _ w => ((.d (.k (.k (.k (.k (.k (.k .z))))))) : Keep _ _).sat w) ?_
                                                                            refine St.xalt ?_ ?_
                                                                            · refine St.xef ?_
                                                                              refine St.ixP (sz := 6) hx1 rfl rfl rfl rfl rfl rfl rfl rfl ?_
                                                                              refine St.xk (fun _ w => ((.d (.k (.k (.k (.k (.k (.k .z))))))) : Keep _ _).sat w) ?_
                                                                              refine St.xfl (fun _ h => h) (Rd.p rfl) rfl ?_
                                                                              refine hnd1_18 _ _ (A9, c9) ?_ ?_
                                                                              · exact ⟨rfl, rfl, rfl, rfl, rfl, rfl, rfl, rfl, rfl, rfl, rfl, rfl, rfl, rfl, trivial⟩
                                                                              · exact fun _ w => ((.k (.k (.k (.k (.k (.k (.k .z))))))) : Keep _ _).sat w
                                                                            · refine St.xalt ?_ ?_
                                                                              · refine St.xef ?_
                                                                                refine St.alloc rfl rfl fun g4 => ?_
                                                                                refine St.xk (fun _ w => ((.d (.d (.k (.k (.k (.k (.k (.k .z)))))))) : Keep _ _).sat w) ?_
                                                                                refine hnd1_22 _ _ (A9, c9, g4) ?_ ?_
                                                                                · exact ⟨rfl, rfl, rfl, rfl, rfl, rfl, rfl, rfl, rfl, rfl, rfl, rfl, rfl, trivial⟩
                                                                                · exact fun _ w => ((.k (.k (.k (.k (.k (.k (.k (.k .z)))))))) : Keep _ _).sat w
                                                                              · refine St.xef ?_
                                                                                refine St.alloc rfl rfl fun g5 => ?_
                                                                                refine St.xk (fun _ w => ((.d (.d (.k (.k (.k (.k (.k (.k .z)))))))) : Keep _ _).sat w) ?_
                                                                                refine hnd1_23 _ _ (A9, c9, g5) ?_ ?_
                                                                                · exact ⟨rfl, rfl, rfl, rfl, rfl, rfl, rfl, rfl, rfl, rfl, rfl, rfl, rfl, trivial⟩
                                                                                · exact fun _ w => ((.k (.k (.k (.k (.k (.k (.k (.k .z)))))))) : Keep _ _).sat w
                                                                          · refine St.xalt ?_ ?_
                                                                            · refine St.xef ?_
                                                                              refine St.alloc rfl rfl fun g4 => ?_
                                                                              refine St.xk (fun _ w => ((.d (.k (.k (.k (.k (.k (.k .z))))))) : Keep _ _).sat w) ?_
                                                                              refine hnd1_28 _ _ g4 ?_ ?_
                                                                              · exact ⟨rfl, rfl, rfl, rfl, rfl, rfl, rfl, rfl, rfl, rfl, rfl, rfl, trivial⟩
                                                                              · exact fun _ w => ((.k (.k (.k (.k (.k (.k (.k .z))))))) : Keep _ _).sat w
                                                                            · refine St.xef ?_
                                                                              refine St.alloc rfl rfl fun g5 => ?_
                                                                              refine St.xk (fun _ w => ((.d (.k (.k (.k (.k (.k (.k .z))))))) : Keep _ _).sat w) ?_
                                                                              refine hnd1_29 _ _ g5 ?_ ?_
                                                                              · exact ⟨rfl, rfl, rfl, rfl, rfl, rfl, rfl, rfl, rfl, rfl, rfl, rfl, trivial⟩
                                                                              · exact fun _ w => ((.k (.k (.k (.k (.k (.k (.k .z))))))) : Keep _ _).sat w
                                                                      · refine St.xalt ?_ ?_
                                                                        · refine St.xef ?_
                                                                          refine St.alloc rfl rfl fun g4 => ?_
                                                                          refine St.xk (fun _ w => ((.d (.k (.k (.k (.k (.k (.k .z))))))) : Keep _ _).sat w) ?_
                                                                          refine St.xalt ?_ ?_
                                                                          · refine St.xef ?_
                                                                            refine St.ixP (sz := 6) hx1 rfl rfl rfl rfl rfl rfl rfl rfl ?_
                                                                            refine St.xk (fun _ w => ((.d (.k (.k (.k (.k (.k (.k .z))))))) : Keep _ _).sat w) ?_
                                                                            refine St.xfl (fun _ h => h) (Rd.p rfl) rfl ?_
                                                                            refine hnd1_26 _ _ g4 ?_ ?_
                                                                            · exact ⟨rfl, rfl, rfl, rfl, rfl, rfl, rfl, rfl, rfl, rfl, rfl, rfl, trivial⟩
                                                                            · exact fun _ w => ((.k (.k (.k (.k (.k (.k (.k .z))))))) : Keep _ _).sat w
                                                                          · refine St.xalt ?_ ?_
                                                                            · refine St.xef ?_
                                                                              refine St.ixP (sz := 6) hx2 rfl rfl rfl rfl rfl rfl rfl rfl ?_
                                                                              refine St.xk (fun _ w => ((.d (.k (.k (.k (.k (.k (.k .z))))))) : Keep _ _).sat w) ?_
                                                                              refine St.xfl (fun _ h => h) (Rd.p rfl) rfl ?_
                                                                              refine hnd1_28 _ _ g4 ?_ ?_
                                                                              · exact ⟨rfl, rfl, rfl, rfl, rfl, rfl, rfl, rfl, rfl, rfl, rfl, rfl, trivial⟩
                                                                              · exact fun _ w => ((.k (.k (.k (.k (.k (.k (.k .z))))))) : Keep _ _).sat w
                                                                            · refine St.xef ?_
                                                                              refine St.alloc rfl rfl fun g5 => ?_
                                                                              refine St.xk (fun _ w => ((.d (.d (.k (.k (.k (.k (.k (.k .z)))))))) : Keep _ _).sat w) ?_
                                                                              refine hnd1_30 _ _ (g4, g5) ?_ ?_
                                                                              · exact ⟨rfl, rfl, rfl, rfl, rfl, rfl, rfl, rfl, rfl, rfl, rfl, trivial⟩
                                                                              · exact fun _ w => ((.k (.k (.k (.k (.k (.k (.k (.k .z)))))))) : Keep _ _).sat w
                                                                        · refine St.xef ?_
                                                                          refine St.alloc rfl rfl fun g5 => ?_
                                                                          refine St.xk (fun _ w => ((.d (.k (.k (.k (.k (.k (.k .z))))))) : Keep _ _).sat w) ?_
                                                                          refine St.xalt ?_ ?_
                                                                          · refine St.xef ?_
                                                                            refine St.ixP (sz := 6) hx1 rfl rfl rfl rfl rfl rfl rfl rfl ?_
                                                                            refine St.xk (fun _ w => ((.d (.k (.k (.k (.k (.k (.k .z))))))) : Keep _ _).sat w) ?_
                                                                            refine St.xfl (fun _ h => h) (Rd.p rfl) rfl ?_
                                                                            refine hnd1_27 _ _ g5 ?_ ?_
                                                                            · exact ⟨rfl, rfl, rfl, rfl, rfl, rfl, rfl, rfl, rfl, rfl, rfl, rfl, trivial⟩
                                                                            · exact fun _ w => ((.k (.k (.k (.k (.k (.k (.k .z))))))) : Keep _ _).sat w
                                                                          · refine St.xalt ?_ ?_
                                                                            · refine St.xef ?_
                                                                              refine St.ixP (sz := 6) hx2 rfl rfl rfl rfl rfl rfl rfl rfl ?_
                                                                              refine St.xk (fun _ w => ((.d (.k (.k (.k (.k (.k (.k .z))))))) : Keep _ _).sat w) ?_
                                                                              refine St.xfl (fun _ h => h) (Rd.p rfl) rfl ?_
                                                                              refine hnd1_29 _ _ g5 ?_ ?_
                                                                              · exact ⟨rfl, rfl, rfl, rfl, rfl, rfl, rfl, rfl, rfl, rfl, rfl, rfl, trivial⟩
                                                                              · exact fun _ w => ((.k (.k (.k (.k (.k (.k (.k .z))))))) : Keep _ _).sat w
                                                                            · refine St.xef ?_
                                                                              refine St.alloc rfl rfl fun g4 => ?_
                                                                              refine St.xk (fun _ w => ((.d (.d (.k (.k (.k (.k (.k (.k .z)))))))) : Keep _ _).sat w) ?_
                                                                              refine hnd1_30 _ _ (g4, g5) ?_ ?_
                                                                              · exact ⟨rfl, rfl, rfl, rfl, rfl, rfl, rfl, rfl, rfl, rfl, rfl, trivial⟩
                                                                              · exact fun _ w => ((.k (.k (.k (.k (.k (.k (.k (.k .z)))))))) : Keep _ _).sat ((((((((w.front (.s (.s (.s (.s (.s (.s (.s .z)))))))).front (.s (.s (.s (.s (.s (.s (.s .z)))))))).front (.s (.s (.s (.s (.s (.s (.s .z)))))))).front (.s (.s (.s (.s (.s (.s (.s .z)))))))).front (.s (.s (.s (.s (.s (.s (.s .z)))))))).front (.s (.s (.s (.s (.s (.s (.s .z)))))))).front (.s (.s (.s (.s (.s (.s .z))))))).front (.s (.s (.s (.s (.s (.s (.s .z))))))))
                                                                  case tnd1_30 =>
                                                                    rintro ⟨g4, g5⟩
                                                                    refine St.asrt (F' := .res (Box g5 30 [.string (⟨#[]⟩), .int .i64 0, .int .i64 0, .int .i64 0, .slice none 0 0]) :: .res (Box g4 30 [.string (⟨#[]⟩), .int .i64 0, .int .i64 0, .int .i64 0, .slice none 0 0]) :: .res (Box g3 35 (bx_T_Device r4.1 A6 c6 A7 c7)) :: .ro (SlL eu8 A6 c6 r4.1.Slots.e0.Image.Data) :: .ro (SlL eu8 A7 c7 r4.1.Slots.e1.Image.Data) :: .res (Box g2 35 (bx_T_Device r3.2 A4 c4 A5 c5)) :: .ro (SlL eu8 A4 c4 r3.2.Slots.e0.Image.Data) :: .ro (SlL eu8 A5 c5 r3.2.Slots.e1.Image.Data) :: R) (fun _ w => w) ?_
                                                                    refine St.xalt ?_ ?_
                                                                    · refine St.xef ?_
                                                                      refine St.ixP (sz := 6) hx1 rfl rfl rfl rfl rfl rfl rfl rfl ?_
                                                                      refine St.xk (fun _ w => ((.d (.d (.k (.k (.k (.k (.k (.k .z)))))))) : Keep _ _).sat w) ?_
                                                                      refine St.xfl (fun _ h => h) (Rd.p rfl) rfl ?_
                                                                      refine hnd1_21 _ _ (g4, g5) ?_ ?_
                                                                      · exact ⟨rfl, rfl, rfl, rfl, rfl, rfl, rfl, rfl, rfl, rfl, rfl, rfl, rfl, trivial⟩
                                                                      · exact fun _ w => ((.k (.k (.k (.k (.k (.k (.k (.k .z)))))))) : Keep _ _).sat w
                                                                    · refine St.xef ?_
                                                                      refine St.ixP (sz := 6) hx2 rfl rfl rfl rfl rfl rfl rfl rfl ?_
                                                                      refine St.xk (fun _ w => ((.d (.d (.k (.k (.k (.k (.k (.k .z)))))))) : Keep _ _).sat w) ?_
                                                                      refine St.xfl (fun _ h => h) (Rd.p rfl) rfl ?_
                                                                      refine hnd1_24 _ _ (g4, g5) ?_ ?_
                                                                      · exact ⟨rfl, rfl, rfl, rfl, rfl, rfl, rfl, rfl, rfl, rfl, rfl, rfl, rfl, trivial⟩
                                                                      · exact fun _ w => ((.k (.k (.k (.k (.k (.k (.k (.k .z)))))))) : Keep _ _).sat w
                                                                case tnd1_29 =>
                                                                  rintro g5
                                                                  refine St.asrt (F' := .res (Box g5 30 [.string (⟨#[]⟩), .int .i64 0, .int .i64 0, .int .i64 0, .slice none 0 0]) :: .res (Box g3 35 (bx_T_Device r4.1 A6 c6 A7 c7)) :: .ro (SlL eu8 A6 c6 r4.1.Slots.e0.Image.Data) :: .ro (SlL eu8 A7 c7 r4.1.Slots.e1.Image.Data) :: .res (Box g2 35 (bx_T_Device r3.2 A4 c4 A5 c5)) :: .ro (SlL eu8 A4 c4 r3.2.Slots.e0.Image.Data) :: .ro (SlL eu8 A5 c5 r3.2.Slots.e1.Image.Data) :: R) (fun _ w => w) ?_
                                                                  refine St.xalt ?_ ?_
                                                                  · refine St.xef ?_
                                                                    refine St.ixP (sz := 6) hx1 rfl rfl rfl rfl rfl rfl rfl rfl ?_
                                                                    refine St.xk (fun _ w => ((.d (.k (.k (.k (.k (.k (.k .z))))))) : Keep _ _).sat w) ?_
                                                                    refine St.xfl (fun _ h => h) (Rd.p rfl) rfl ?_
                                                                    refine hnd1_20 _ _ g5 ?_ ?_
                                                                    · exact ⟨rfl, rfl, rfl, rfl, rfl, rfl, rfl, rfl, rfl, rfl, rfl, rfl, rfl, rfl, trivial⟩
                                                                    · exact fun _ w => ((.k (.k (.k (.k (.k (.k (.k .z))))))) : Keep _ _).sat w
                                                                  · refine St.xalt ?_ ?_
                                                                    · refine St.xef ?_
                                                                      refine St.ldP (ls := l_T_Slot) 0 [.string r3.2.Name] [.int .i64 r3.2.Active, .int .i64 r3.2.Running, .bool r3.2.Trial] [(r3.2.Slots.e0, ((A4, c4), ())), (r3.2.Slots.e1, ((A5, c5), ()))] (fun ex => .agg (bx_T_Image x2.Image ex.1.1 ex.1.2).toArray) hx2 rfl rfl (.tail _ (.tail _ (.tail _ (.tail _ (.head _))))) rfl rfl rfl ⟨(.tail _ (.tail _ (.tail _ (.tail _ (.tail _ (.head _)))))), (.tail _ (.tail _ (.tail _ (.tail _ (.tail _ (.tail _ (.head _))))))), trivial⟩ rfl (fun _ => rfl) fun ex2 => ?_
                                                                      obtain ⟨⟨A9, c9⟩, _⟩ := ex2
                                                                      refine St.asrt (F' := .ro (SlL eu8 A9 c9 x2.Image.Data) :: .res (Box g5 30 [.string (⟨#[]⟩), .int .i64 0, .int .i64 0, .int .i64 0, .slice none 0 0]) :: .res (Box g3 35 (bx_T_Device r4.1 A6 c6 A7 c7)) :: .ro (SlL eu8 A6 c6 r4.1.Slots.e0.Image.Data) :: .ro (SlL eu8 A7 c7 r4.1.Slots.e1.Image.Data) :: .res (Box g2 35 (bx_T_Device r3.2 A4 c4 A5 c5)) :: .ro (SlL eu8 A4 c4 r3.2.Slots.e0.Image.Data) :: .ro (SlL eu8 A5 c5 r3.2.Slots.e1.Image.Data) :: R) (fun _ w => w) ?_
                                                                      refine St.xk (fun _ w => ((.d (.d (.k (.k (.k (.k (.k (.k .z)))))))) : Keep _ _).sat w) ?_
                                                                      refine hnd1_23 _ _ (A9, c9, g5) ?_ ?_
                                                                      · exact ⟨rfl, rfl, rfl, rfl, rfl, rfl, rfl, rfl, rfl, rfl, rfl, rfl, rfl, trivial⟩
                                                                      · exact fun _ w => ((.k (.k (.k (.k (.k (.k (.k (.k .z)))))))) : Keep _ _).sat ((((((((w.front (.s (.s (.s (.s (.s (.s (.s .z)))))))).front (.s (.s (.s (.s (.s (.s (.s .z)))))))).front (.s (.s (.s (.s (.s (.s (.s .z)))))))).front (.s (.s (.s (.s (.s (.s (.s .z)))))))).front (.s (.s (.s (.s (.s (.s (.s .z)))))))).front (.s (.s (.s (.s (.s (.s (.s .z)))))))).front (.s (.s (.s (.s (.s (.s .z))))))).front (.s (.s (.s (.s (.s (.s (.s .z))))))))
                                                                    · refine St.xef ?_
                                                                      refine St.alloc rfl rfl fun g4 => ?_
                                                                      refine St.xk (fun _ w => ((.d (.d (.k (.k (.k (.k (.k (.k .z)))))))) : Keep _ _).sat w) ?_
                                                                      refine hnd1_24 _ _ (g4, g5) ?_ ?_
                                                                      · exact ⟨rfl, rfl, rfl, rfl, rfl, rfl, rfl, rfl, rfl, rfl, rfl, rfl, rfl, trivial⟩
                                                                      · exact fun _ w => ((.k (.k (.k (.k (.k (.k (.k (.k .z)))))))) : Keep _ _).sat ((((((((w.front (.s (.s (.s (.s (.s (.s (.s .z)))))))).front (.s (.s (.s (.s (.s (.s (.s .z)))))))).front (.s (.s (.s (.s (.s (.s (.s .z)))))))).front (.s (.s (.s (.s (.s (.s (.s .z)))))))).front (.s (.s (.s (.s (.s (.s (.s .z)))))))).front (.s (.s (.s (.s (.s (.s (.s .z)))))))).front (.s (.s (.s (.s (.s (.s .z))))))).front (.s (.s (.s (.s (.s (.s (.s .z))))))))
                                                              case tnd1_28 =>
                                                                rintro g4
                                                                refine St.asrt (F' := .res (Box g4 30 [.string (⟨#[]⟩), .int .i64 0, .int .i64 0, .int .i64 0, .slice none 0 0]) :: .res (Box g3 35 (bx_T_Device r4.1 A6 c6 A7 c7)) :: .ro (SlL eu8 A6 c6 r4.1.Slots.e0.Image.Data) :: .ro (SlL eu8 A7 c7 r4.1.Slots.e1.Image.Data) :: .res (Box g2 35 (bx_T_Device r3.2 A4 c4 A5 c5)) :: .ro (SlL eu8 A4 c4 r3.2.Slots.e0.Image.Data) :: .ro (SlL eu8 A5 c5 r3.2.Slots.e1.Image.Data) :: R) (fun _ w => w) ?_
                                                                refine St.xalt ?_ ?_
                                                                · refine St.xef ?_
                                                                  refine St.ixP (sz := 6) hx1 rfl rfl rfl rfl rfl rfl rfl rfl ?_
                                                                  refine St.xk (fun _ w => ((.d (.k (.k (.k (.k (.k (.k .z))))))) : Keep _ _).sat w) ?_
                                                                  refine St.xfl (fun _ h => h) (Rd.p rfl) rfl ?_
                                                                  refine hnd1_19 _ _ g4 ?_ ?_
                                                                  · exact ⟨rfl, rfl, rfl, rfl, rfl, rfl, rfl, rfl, rfl, rfl, rfl, rfl, rfl, rfl, trivial⟩
                                                                  · exact fun _ w => ((.k (.k (.k (.k (.k (.k (.k .z))))))) : Keep _ _).sat w
                                                                · refine St.xalt ?_ ?_
                                                                  · refine St.xef ?_
                                                                    refine St.ldP (ls := l_T_Slot) 0 [.string r3.2.Name] [.int .i64 r3.2.Active, .int .i64 r3.2.Running, .bool r3.2.Trial] [(r3.2.Slots.e0, ((A4, c4), ())), (r3.2.Slots.e1, ((A5, c5), ()))] (fun ex => .agg (bx_T_Image x2.Image ex.1.1 ex.1.2).toArray) hx2 rfl rfl (.tail _ (.tail _ (.tail _ (.tail _ (.head _))))) rfl rfl rfl ⟨(.tail _ (.tail _ (.tail _ (.tail _ (.tail _ (.head _)))))), (.tail _ (.tail _ (.tail _ (.tail _ (.tail _ (.tail _ (.head _))))))), trivial⟩ rfl (fun _ => rfl) fun ex2 => ?_
                                                                    obtain ⟨⟨A9, c9⟩, _⟩ := ex2
                                                                    refine St.asrt (F' := .ro (SlL eu8 A9 c9 x2.Image.Data) :: .res (Box g4 30 [.string (⟨#[]⟩), .int .i64 0, .int .i64 0, .int .i64 0, .slice none 0 0]) :: .res (Box g3 35 (bx_T_Device r4.1 A6 c6 A7 c7)) :: .ro (SlL eu8 A6 c6 r4.1.Slots.e0.Image.Data) :: .ro (SlL eu8 A7 c7 r4.1.Slots.e1.Image.Data) :: .res (Box g2 35 (bx_T_Device r3.2 A4 c4 A5 c5)) :: .ro (SlL eu8 A4 c4 r3.2.Slots.e0.Image.Data) :: .ro (SlL eu8 A5 c5 r3.2.Slots.e1.Image.Data) :: R) (fun _ w => w) ?_
                                                                    refine St.xk (fun _ w => ((.d (.d (.k (.k (.k (.k (.k (.k .z)))))))) : Keep _ _).sat w) ?_
                                                                    refine hnd1_22 _ _ (A9, c9, g4) ?_ ?_
                                                                    · exact ⟨rfl, rfl, rfl, rfl, rfl, rfl, rfl, rfl, rfl, rfl, rfl, rfl, rfl, trivial⟩
                                                                    · exact fun _ w => ((.k (.k (.k (.k (.k (.k (.k (.k .z)))))))) : Keep _ _).sat ((((((((w.front (.s (.s (.s (.s (.s (.s (.s .z)))))))).front (.s (.s (.s (.s (.s (.s (.s .z)))))))).front (.s (.s (.s (.s (.s (.s (.s .z)))))))).front (.s (.s (.s (.s (.s (.s (.s .z)))))))).front (.s (.s (.s (.s (.s (.s (.s .z)))))))).front (.s (.s (.s (.s (.s (.s (.s .z)))))))).front (.s (.s (.s (.s (.s (.s .z))))))).front (.s (.s (.s (.s (.s (.s (.s .z))))))))
                                                                  · refine St.xef ?_
                                                                    refine St.alloc rfl rfl fun g5 => ?_
                                                                    refine St.xk (fun _ w => ((.d (.d (.k (.k (.k (.k (.k (.k .z)))))))) : Keep _ _).sat w) ?_
                                                                    refine hnd1_24 _ _ (g4, g5) ?_ ?_
                                                                    · exact ⟨rfl, rfl, rfl, rfl, rfl, rfl, rfl, rfl, rfl, rfl, rfl, rfl, rfl, trivial⟩
                                                                    · exact fun _ w => ((.k (.k (.k (.k (.k (.k (.k (.k .z)))))))) : Keep _ _).sat w
                                                            case tnd1_27 =>
                                                              rintro g5
                                                              refine St.asrt (F' := .res (Box g5 30 [.string (⟨#[]⟩), .int .i64 0, .int .i64 0, .int .i64 0, .slice none 0 0]) :: .res (Box g3 35 (bx_T_Device r4.1 A6 c6 A7 c7)) :: .ro (SlL eu8 A6 c6 r4.1.Slots.e0.Image.Data) :: .ro (SlL eu8 A7 c7 r4.1.Slots.e1.Image.Data) :: .res (Box g2 35 (bx_T_Device r3.2 A4 c4 A5 c5)) :: .ro (SlL eu8 A4 c4 r3.2.Slots.e0.Image.Data) :: .ro (SlL eu8 A5 c5 r3.2.Slots.e1.Image.Data) :: R) (fun _ w => w) ?_
                                                              refine St.xalt ?_ ?_
                                                              · refine St.xef ?_
                                                                refine St.ldP (ls := l_T_Slot) 0 [.string r3.2.Name] [.int .i64 r3.2.Active, .int .i64 r3.2.Running, .bool r3.2.Trial] [(r3.2.Slots.e0, ((A4, c4), ())), (r3.2.Slots.e1, ((A5, c5), ()))] (fun ex => .agg (bx_T_Image x1.Image ex.1.1 ex.1.2).toArray) hx1 rfl rfl (.tail _ (.tail _ (.tail _ (.tail _ (.head _))))) rfl rfl rfl ⟨(.tail _ (.tail _ (.tail _ (.tail _ (.tail _ (.head _)))))), (.tail _ (.tail _ (.tail _ (.tail _ (.tail _ (.tail _ (.head _))))))), trivial⟩ rfl (fun _ => rfl) fun ex1 => ?_
                                                                obtain ⟨⟨A8, c8⟩, _⟩ := ex1
                                                                refine St.asrt (F' := .ro (SlL eu8 A8 c8 x1.Image.Data) :: .res (Box g5 30 [.string (⟨#[]⟩), .int .i64 0, .int .i64 0, .int .i64 0, .slice none 0 0]) :: .res (Box g3 35 (bx_T_Device r4.1 A6 c6 A7 c7)) :: .ro (SlL eu8 A6 c6 r4.1.Slots.e0.Image.Data) :: .ro (SlL eu8 A7 c7 r4.1.Slots.e1.Image.Data) :: .res (Box g2 35 (bx_T_Device r3.2 A4 c4 A5 c5)) :: .ro (SlL eu8 A4 c4 r3.2.Slots.e0.Image.Data) :: .ro (SlL eu8 A5 c5 r3.2.Slots.e1.Image.Data) :: R) (fun _ w => w) ?_
                                                                refine St.xk (fun _ w => ((.d (.d (.k (.k (.k (.k (.k (.k .z)))))))) : Keep _ _).sat w) ?_
                                                                refine hnd1_17 _ _ (A8, c8, g5) ?_ ?_
                                                                · exact ⟨rfl, rfl, rfl, rfl, rfl, rfl, rfl, rfl, rfl, rfl, rfl, rfl, rfl, trivial⟩
                                                                · exact fun _ w => ((.k (.k (.k (.k (.k (.k (.k (.k .z)))))))) : Keep _ _).sat ((((((((w.front (.s (.s (.s (.s (.s (.s (.s .z)))))))).front (.s (.s (.s (.s (.s (.s (.s .z)))))))).front (.s (.s (.s (.s (.s (.s (.s .z)))))))).front (.s (.s (.s (.s (.s (.s (.s .z)))))))).front (.s (.s (.s (.s (.s (.s (.s .z)))))))).front (.s (.s (.s (.s (.s (.s (.s .z)))))))).front (.s (.s (.s (.s (.s (.s .z))))))).front (.s (.s (.s (.s (.s (.s (.s .z))))))))
                                                              · refine St.xalt ?_ ?_
                                                                · refine St.xef ?_
                                                                  refine St.ixP (sz := 6) hx2 rfl rfl rfl rfl rfl rfl rfl rfl ?_
                                                                  refine St.xk (fun _ w => ((.d (.k (.k (.k (.k (.k (.k .z))))))) : Keep _ _).sat w) ?_
                                                                  refine St.xfl (fun _ h => h) (Rd.p rfl) rfl ?_
                                                                  refine hnd1_20 _ _ g5 ?_ ?_
                                                                  · exact ⟨rfl, rfl, rfl, rfl, rfl, rfl, rfl, rfl, rfl, rfl, rfl, rfl, rfl, rfl, trivial⟩
                                                                  · exact fun _ w => ((.k (.k (.k (.k (.k (.k (.k .z))))))) : Keep _ _).sat w
                                                                · refine St.xef ?_
                                                                  refine St.alloc rfl rfl fun g4 => ?_
                                                                  refine St.xk (fun _ w => ((.d (.d (.k (.k (.k (.k (.k (.k .z)))))))) : Keep _ _).sat w) ?_
                                                                  refine hnd1_21 _ _ (g4, g5) ?_ ?_
                                                                  · exact ⟨rfl, rfl, rfl, rfl, rfl, rfl, rfl, rfl, rfl, rfl, rfl, rfl, rfl, trivial⟩
                                                                  · exact fun _ w => ((.k (.k (.k (.k (.k (.k (.k (.k .z)))))))) : Keep _ _).sat ((((((((w.front (.s (.s (.s (.s (.s (.s (.s .z)))))))).front (.s (.s (.s (.s (.s (.s (.s .z)))))))).front (.s (.s (.s (.s (.s (.s (.s .z)))))))).front (.s (.s (.s (.s (.s (.s (.s .z)))))))).front (.s (.s (.s (.s (.s (.s (.s .z)))))))).front (.s (.s (.s (.s (.s (.s (.s .z)))))))).front (.s (.s (.s (.s (.s (.s .z))))))).front (.s (.s (.s (.s (.s (.s (.s .z))))))))
                                                          case tnd1_26 =>
                                                            rintro g4
                                                            refine St.asrt (F' := .res (Box g4 30 [.string (⟨#[]⟩), .int .i64 0, .int .i64 0, .int .i64 0, .slice none 0 0]) :: .res (Box g3 35 (bx_T_Device r4.1 A6 c6 A7 c7)) :: .ro (SlL eu8 A6 c6 r4.1.Slots.e0.Image.Data) :: .ro (SlL eu8 A7 c7 r4.1.Slots.e1.Image.Data) :: .res (Box g2 35 (bx_T_Device r3.2 A4 c4 A5 c5)) :: .ro (SlL eu8 A4 c4 r3.2.Slots.e0.Image.Data) :: .ro (SlL eu8 A5 c5 r3.2.Slots.e1.Image.Data) :: R) (fun _ w => w) ?_
                                                            refine St.xalt ?_ ?_
                                                            · refine St.xef ?_
                                                              refine St.ldP (ls := l_T_Slot) 0 [.string r3.2.Name] [.int .i64 r3.2.Active, .int .i64 r3.2.Running, .bool r3.2.Trial] [(r3.2.Slots.e0, ((A4, c4), ())), (r3.2.Slots.e1, ((A5, c5), ()))] (fun ex => .agg (bx_T_Image x1.Image ex.1.1 ex.1.2).toArray) hx1 rfl rfl (.tail _ (.tail _ (.tail _ (.tail _ (.head _))))) rfl rfl rfl ⟨(.tail _ (.tail _ (.tail _ (.tail _ (.tail _ (.head _)))))), (.tail _ (.tail _ (.tail _ (.tail _ (.tail _ (.tail _ (.head _))))))), trivial⟩ rfl (fun _ => rfl) fun ex1 => ?_
                                                              obtain ⟨⟨A8, c8⟩, _⟩ := ex1
                                                              refine St.asrt (F' := .ro (SlL eu8 A8 c8 x1.Image.Data) :: .res (Box g4 30 [.string (⟨#[]⟩), .int .i64 0, .int .i64 0, .int .i64 0, .slice none 0 0]) :: .res (Box g3 35 (bx_T_Device r4.1 A6 c6 A7 c7)) :: .ro (SlL eu8 A6 c6 r4.1.Slots.e0.Image.Data) :: .ro (SlL eu8 A7 c7 r4.1.Slots.e1.Image.Data) :: .res (Box g2 35 (bx_T_Device r3.2 A4 c4 A5 c5)) :: .ro (SlL eu8 A4 c4 r3.2.Slots.e0.Image.Data) :: .ro (SlL eu8 A5 c5 r3.2.Slots.e1.Image.Data) :: R) (fun _ w => w) ?_
                                                              refine St.xk (fun _ w => ((.d (.d (.k (.k (.k (.k (.k (.k .z)))))))) : Keep _ _).sat w) ?_
                                                              refine hnd1_16 _ _ (A8, c8, g4) ?_ ?_
                                                              · exact ⟨rfl, rfl, rfl, rfl, rfl, rfl, rfl, rfl, rfl, rfl, rfl, rfl, rfl, trivial⟩
                                                              · exact fun _ w => ((.k (.k (.k (.k (.k (.k (.k (.k .z)))))))) : Keep _ _).sat ((((((((w.front (.s (.s (.s (.s (.s (.s (.s .z)))))))).front (.s (.s (.s (.s (.s (.s (.s .z)))))))).front (.s (.s (.s (.s (.s (.s (.s .z)))))))).front (.s (.s (.s (.s (.s (.s (.s .z)))))))).front (.s (.s (.s (.s (.s (.s (.s .z)))))))).front (.s (.s (.s (.s (.s (.s (.s .z)))))))).front (.s (.s (.s (.s (.s (.s .z))))))).front (.s (.s (.s (.s (.s (.s (.s .z))))))))
                                                            · refine St.xalt ?_ ?_
                                                              · refine St.xef ?_
                                                                refine St.ixP (sz := 6) hx2 rfl rfl rfl rfl rfl rfl rfl rfl ?_
                                                                refine St.xk (fun _ w => ((.d (.k (.k (.k (.k (.k (.k .z))))))) : Keep _ _).sat w) ?_
                                                                refine St.xfl (fun _ h => h) (Rd.p rfl) rfl ?_
                                                                refine hnd1_19 _ _ g4 ?_ ?_
                                                                · exact ⟨rfl, rfl, rfl, rfl, rfl, rfl, rfl, rfl, rfl, rfl, rfl, rfl, rfl, rfl, trivial⟩
                                                                · exact fun _ w => ((.k (.k (.k (.k (.k (.k (.k .z))))))) : Keep _ _).sat w
                                                              · refine St.xef ?_
                                                                refine St.alloc rfl rfl fun g5 => ?_
                                                                refine St.xk (fun _ w => ((.d (.d (.k (.k (.k (.k (.k (.k .z)))))))) : Keep _ _).sat w) ?_
                                                                refine hnd1_21 _ _ (g4, g5) ?_ ?_
                                                                · exact ⟨rfl, rfl, rfl, rfl, rfl, rfl, rfl, rfl, rfl, rfl, rfl, rfl, rfl, trivial⟩
                                                                · exact fun _ w => ((.k (.k (.k (.k (.k (.k (.k (.k .z)))))))) : Keep _ _).sat w
                                                        case tnd1_25 =>
                                                          rintro ⟨⟩
                                                          refine St.asrt (F' := .res (Box g3 35 (bx_T_Device r4.1 A6 c6 A7 c7)) :: .ro (SlL eu8 A6 c6 r4.1.Slots.e0.Image.Data) :: .ro (SlL eu8 A7 c7 r4.1.Slots.e1.Image.Data) :: .res (Box g2 35 (bx_T_Device r3.2 A4 c4 A5 c5)) :: .ro (SlL eu8 A4 c4 r3.2.Slots.e0.Image.Data) :: .ro (SlL eu8 A5 c5 r3.2.Slots.e1.Image.Data) :: R) (fun _ w => w) ?_
                                                          refine St.xalt ?_ ?_
                                                          · refine St.xef ?_
                                                            refine St.ldP (ls := l_T_Slot) 0 [.string r3.2.Name] [.int .i64 r3.2.Active, .int .i64 r3.2.Running, .bool r3.2.Trial] [(r3.2.Slots.e0, ((A4, c4), ())), (r3.2.Slots.e1, ((A5, c5), ()))] (fun ex => .agg (bx_T_Image x1.Image ex.1.1 ex.1.2).toArray) hx1 rfl rfl (.tail _ (.tail _ (.tail _ (.head _)))) rfl rfl rfl ⟨(.tail _ (.tail _ (.tail _ (.tail _ (.head _))))), (.tail _ (.tail _ (.tail _ (.tail _ (.tail _ (.head _)))))), trivial⟩ rfl (fun _ => rfl) fun ex1 => ?_
                                                            obtain ⟨⟨A8, c8⟩, _⟩ := ex1
                                                            refine St.asrt (F' := .ro (SlL eu8 A8 c8 x1.Image.Data) :: .res (Box g3 35 (bx_T_Device r4.1 A6 c6 A7 c7)) :: .ro (SlL eu8 A6 c6 r4.1.Slots.e0.Image.Data) :: .ro (SlL eu8 A7 c7 r4.1.Slots.e1.Image.Data) :: .res (Box g2 35 (bx_T_Device r3.2 A4 c4 A5 c5)) :: .ro (SlL eu8 A4 c4 r3.2.Slots.e0.Image.Data) :: .ro (SlL eu8 A5 c5 r3.2.Slots.e1.Image.Data) :: R) (fun _ w => w) ?_
                                                            refine St.xk (fun _ w => ((.d (.k (.k (.k (.k (.k (.k .z))))))) : Keep _ _).sat w) ?_
                                                            refine hnd1_15 _ _ (A8, c8) ?_ ?_
                                                            · exact ⟨rfl, rfl, rfl, rfl, rfl, rfl, rfl, rfl, rfl, rfl, rfl, rfl, rfl, rfl, trivial⟩
                                                            · exact fun _ w => ((.k (.k (.k (.k (.k (.k (.k .z))))))) : Keep _ _).sat w
                                                          · refine St.xalt ?_ ?_
                                                            · refine St.xef ?_
                                                              refine St.ldP (ls := l_T_Slot) 0 [.string r3.2.Name] [.int .i64 r3.2.Active, .int .i64 r3.2.Running, .bool r3.2.Trial] [(r3.2.Slots.e0, ((A4, c4), ())), (r3.2.Slots.e1, ((A5, c5), ()))] (fun ex => .agg (bx_T_Image x2.Image ex.1.1 ex.1.2).toArray) hx2 rfl rfl (.tail _ (.tail _ (.tail _ (.head _)))) rfl rfl rfl ⟨(.tail _ (.tail _ (.tail _ (.tail _ (.head _))))), (.tail _ (.tail _ (.tail _ (.tail _ (.tail _ (.head _)))))), trivial⟩ rfl (fun _ => rfl) fun ex2 => ?_
                                                              obtain ⟨⟨A9, c9⟩, _⟩ := ex2
                                                              refine St.asrt (F' := .ro (SlL eu8 A9 c9 x2.Image.Data) :: .res (Box g3 35 (bx_T_Device r4.1 A6 c6 A7 c7)) :: .ro (SlL eu8 A6 c6 r4.1.Slots.e0.Image.Data) :: .ro (SlL eu8 A7 c7 r4.1.Slots.e1.Image.Data) :: .res (Box g2 35 (bx_T_Device r3.2 A4 c4 A5 c5)) :: .ro (SlL eu8 A4 c4 r3.2.Slots.e0.Image.Data) :: .ro (SlL eu8 A5 c5 r3.2.Slots.e1.Image.Data) :: R) (fun _ w => w) ?_
                                                              refine St.xk (fun _ w => ((.d (.k (.k (.k (.k (.k (.k .z))))))) : Keep _ _).sat w) ?_
                                                              refine hnd1_18 _ _ (A9, c9) ?_ ?_
                                                              · exact ⟨rfl, rfl, rfl, rfl, rfl, rfl, rfl, rfl, rfl, rfl, rfl, rfl, rfl, rfl, trivial⟩
                                                              · exact fun _ w => ((.k (.k (.k (.k (.k (.k (.k .z))))))) : Keep _ _).sat w
                                                            · refine St.xalt ?_ ?_
                                                              · refine St.xef ?_
                                                                refine St.alloc rfl rfl fun g4 => ?_
                                                                refine St.xk (fun _ w => ((.d (.k (.k (.k (.k (.k (.k .z))))))) : Keep _ _).sat w) ?_
                                                                refine hnd1_19 _ _ g4 ?_ ?_
                                                                · exact ⟨rfl, rfl, rfl, rfl, rfl, rfl, rfl, rfl, rfl, rfl, rfl, rfl, rfl, rfl, trivial⟩
                                                                · exact fun _ w => ((.k (.k (.k (.k (.k (.k (.k .z))))))) : Keep _ _).sat w
                                                              · refine St.xef ?_
                                                                refine St.alloc rfl rfl fun g5 => ?_
                                                                refine St.xk (fun _ w => ((.d (.k (.k (.k (.k (.k (.k .z))))))) : Keep _ _).sat w) ?_
                                                                refine hnd1_20 _ _ g5 ?_ ?_
                                                                · exact ⟨rfl, rfl, rfl, rfl, rfl, rfl, rfl, rfl, rfl, rfl, rfl, rfl, rfl, rfl, trivial⟩
                                                                · exact fun _ w => ((.k (.k (.k (.k (.k (.k (.k .z))))))) : Keep _ _).sat w
                                                      case tnd1_24 =>
                                                        rintro ⟨g4, g5⟩
                                                        refine St.asrt (F' := .res (Box g5 30 [.string (⟨#[]⟩), .int .i64 0, .int .i64 0, .int .i64 0, .slice none 0 0]) :: .res (Box g4 30 [.string (⟨#[]⟩), .int .i64 0, .int .i64 0, .int .i64 0, .slice none 0 0]) :: .res (Box g3 35 (bx_T_Device r4.1 A6 c6 A7 c7)) :: .ro (SlL eu8 A6 c6 r4.1.Slots.e0.Image.Data) :: .ro (SlL eu8 A7 c7 r4.1.Slots.e1.Image.Data) :: .res (Box g2 35 (bx_T_Device r3.2 A4 c4 A5 c5)) :: .ro (SlL eu8 A4 c4 r3.2.Slots.e0.Image.Data) :: .ro (SlL eu8 A5 c5 r3.2.Slots.e1.Image.Data) :: R) (fun _ w => w) ?_
                                                        refine St.xalt ?_ ?_
                                                        · refine St.xef ?_
                                                          refine St.ixP (sz := 6) hx1 rfl rfl rfl rfl rfl rfl rfl rfl ?_
                                                          refine St.xk (fun _ w => ((.d (.d (.k (.k (.k (.k (.k (.k .z)))))))) : Keep _ _).sat w) ?_
                                                          refine St.xfl (fun _ h => h) (Rd.p rfl) rfl ?_
                                                          refine hnd1_13 _ _ (g4, g5) ?_ ?_
                                                          · exact ⟨rfl, rfl, rfl, rfl, rfl, rfl, rfl, rfl, rfl, rfl, rfl, rfl, rfl, rfl, rfl, trivial⟩
                                                          · exact fun _ w => ((.k (.k (.k (.k (.k (.k (.k (.k .z)))))))) : Keep _ _).sat w
                                                        · refine St.xef ?_
                                                          refine St.ldP (ls := l_T_Slot) 0 [.string r3.2.Name] [.int .i64 r3.2.Active, .int .i64 r3.2.Running, .bool r3.2.Trial] [(r3.2.Slots.e0, ((A4, c4), ())), (r3.2.Slots.e1, ((A5, c5), ()))] (fun ex => .agg (bx_T_Image x2.Image ex.1.1 ex.1.2).toArray) hx2 rfl rfl (.tail _ (.tail _ (.tail _ (.tail _ (.tail _ (.head _)))))) rfl rfl rfl ⟨(.tail _ (.tail _ (.tail _ (.tail _ (.tail _ (.tail _ (.head _))))))), (.tail _ (.tail _ (.tail _ (.tail _ (.tail _ (.tail _ (.tail _ (.head _)))))))), trivial⟩ rfl (fun _ => rfl) fun ex2 => ?_
                                                          obtain ⟨⟨A9, c9⟩, _⟩ := ex2
                                                          refine St.asrt (F' := .ro (SlL eu8 A9 c9 x2.Image.Data) :: .res (Box g5 30 [.string (⟨#[]⟩), .int .i64 0, .int .i64 0, .int .i64 0, .slice none 0 0]) :: .res (Box g4 30 [.string (⟨#[]⟩), .int .i64 0, .int .i64 0, .int .i64 0, .slice none 0 0]) :: .res (Box g3 35 (bx_T_Device r4.1 A6 c6 A7 c7)) :: .ro (SlL eu8 A6 c6 r4.1.Slots.e0.Image.Data) :: .ro (SlL eu8 A7 c7 r4.1.Slots.e1.Image.Data) :: .res (Box g2 35 (bx_T_Device r3.2 A4 c4 A5 c5)) :: .ro (SlL eu8 A4 c4 r3.2.Slots.e0.Image.Data) :: .ro (SlL eu8 A5 c5 r3.2.Slots.e1.Image.Data) :: R) (fun _ w => w) ?_
                                                          refine St.xk (fun _ w => ((.d (.d (.d (.k (.k (.k (.k (.k (.k .z))))))))) : Keep _ _).sat w) ?_
                                                          refine hnd1_14 _ _ (A9, c9, g4, g5) ?_ ?_
                                                          · exact ⟨rfl, rfl, rfl, rfl, rfl, rfl, rfl, rfl, rfl, rfl, rfl, rfl, rfl, rfl, trivial⟩
                                                          · exact fun _ w => ((.k (.k (.k (.k (.k (.k (.k (.k (.k .z))))))))) : Keep _ _).sat (((((((((w.front (.s (.s (.s (.s (.s (.s (.s (.s .z))))))))).front (.s (.s (.s (.s (.s (.s (.s (.s .z))))))))).front (.s (.s (.s (.s (.s (.s (.s (.s .z))))))))).front (.s (.s (.s (.s (.s (.s (.s (.s .z))))))))).front (.s (.s (.s (.s (.s (.s (.s (.s .z))))))))).front (.s (.s (.s (.s (.s (.s (.s (.s .z))))))))).front (.s (.s (.s (.s (.s (.s .z))))))).front (.s (.s (.s (.s (.s (.s (.s (.s .z))))))))).front (.s (.s (.s (.s (.s (.s (.s (.s .z)))))))))
                                                    case tnd1_23 =>
                                                      rintro ⟨A9, c9, g5⟩
                                                      refine St.asrt (F' := .res (Box g5 30 [.string (⟨#[]⟩), .int .i64 0, .int .i64 0, .int .i64 0, .slice none 0 0]) :: .ro (SlL eu8 A9 c9 x2.Image.Data) :: .res (Box g3 35 (bx_T_Device r4.1 A6 c6 A7 c7)) :: .ro (SlL eu8 A6 c6 r4.1.Slots.e0.Image.Data) :: .ro (SlL eu8 A7 c7 r4.1.Slots.e1.Image.Data) :: .res (Box g2 35 (bx_T_Device r3.2 A4 c4 A5 c5)) :: .ro (SlL eu8 A4 c4 r3.2.Slots.e0.Image.Data) :: .ro (SlL eu8 A5 c5 r3.2.Slots.e1.Image.Data) :: R) (fun _ w => w) ?_
                                                      refine St.xalt ?_ ?_
                                                      · refine St.xef ?_
                                                        refine St.ixP (sz := 6) hx1 rfl rfl rfl rfl rfl rfl rfl rfl ?_
                                                        refine St.xk (fun _ w => ((.d (.d (.k (.k (.k (.k (.k (.k .z)))))))) : Keep _ _).sat w) ?_
                                                        refine St.xfl (fun _ h => h) (Rd.p rfl) rfl ?_
                                                        refine hnd1_12 _ _ (A9, c9, g5) ?_ ?_
                                                        · exact ⟨rfl, rfl, rfl, rfl, rfl, rfl, rfl, rfl, rfl, rfl, rfl, rfl, rfl, rfl, rfl, trivial⟩
                                                        · exact fun _ w => ((.k (.k (.k (.k (.k (.k (.k (.k .z)))))))) : Keep _ _).sat w
                                                      · refine St.xef ?_
                                                        refine St.alloc rfl rfl fun g4 => ?_
                                                        refine St.xk (fun _ w => ((.d (.d (.d (.k (.k (.k (.k (.k (.k .z))))))))) : Keep _ _).sat w) ?_
                                                        refine hnd1_14 _ _ (A9, c9, g4, g5) ?_ ?_
                                                        · exact ⟨rfl, rfl, rfl, rfl, rfl, rfl, rfl, rfl, rfl, rfl, rfl, rfl, rfl, rfl, trivial⟩
                                                        · exact fun _ w => ((.k (.k (.k (.k (.k (.k (.k (.k (.k .z))))))))) : Keep _ _).sat (((((((((w.front (.s (.s (.s (.s (.s (.s (.s (.s .z))))))))).front (.s (.s (.s (.s (.s (.s (.s (.s .z))))))))).front (.s (.s (.s (.s (.s (.s (.s (.s .z))))))))).front (.s (.s (.s (.s (.s (.s (.s (.s .z))))))))).front (.s (.s (.s (.s (.s (.s (.s (.s .z))))))))).front (.s (.s (.s (.s (.s (.s (.s (.s .z))))))))).front (.s (.s (.s (.s (.s (.s (.s (.s .z))))))))).front (.s (.s (.s (.s (.s (.s (.s .z)))))))).front (.s (.s (.s (.s (.s (.s (.s (.s .z)))))))))
                                                  case tnd1_22 =>
                                                    rintro ⟨A9, c9, g4⟩
                                                    refine St.asrt (F' := .res (Box g4 30 [.string (⟨#[]⟩), .int .i64 0, .int .i64 0, .int .i64 0, .slice none 0 0]) :: .ro (SlL eu8 A9 c9 x2.Image.Data) :: .res (Box g3 35 (bx_T_Device r4.1 A6 c6 A7 c7)) :: .ro (SlL eu8 A6 c6 r4.1.Slots.e0.Image.Data) :: .ro (SlL eu8 A7 c7 r4.1.Slots.e1.Image.Data) :: .res (Box g2 35 (bx_T_Device r3.2 A4 c4 A5 c5)) :: .ro (SlL eu8 A4 c4 r3.2.Slots.e0.Image.Data) :: .ro (SlL eu8 A5 c5 r3.2.Slots.e1.Image.Data) :: R) (fun _ w => w) ?_
                                                    refine St.xalt ?_ ?_
                                                    · refine St.xef ?_
                                                      refine St.ixP (sz := 6) hx1 rfl rfl rfl rfl rfl rfl rfl rfl ?_
                                                      refine St.xk (fun _ w => ((.d (.d (.k (.k (.k (.k (.k (.k .z)))))))) : Keep _ _).sat w) ?_
                                                      refine St.xfl (fun _ h => h) (Rd.p rfl) rfl ?_
                                                      refine hnd1_11 _ _ (A9, c9, g4) ?_ ?_
                                                      · exact ⟨rfl, rfl, rfl, rfl, rfl, rfl, rfl, rfl, rfl, rfl, rfl, rfl, rfl, rfl, rfl, trivial⟩
                                                      · exact fun _ w => ((.k (.k (.k (.k (.k (.k (.k (.k .z)))))))) : Keep _ _).sat w
                                                    · refine St.xef ?_
                                                      refine St.alloc rfl rfl fun g5 => ?_
                                                      refine St.xk (fun _ w => ((.d (.d (.d (.k (.k (.k (.k (.k (.k .z))))))))) : Keep _ _).sat w) ?_
                                                      refine hnd1_14 _ _ (A9, c9, g4, g5) ?_ ?_
                                                      · exact ⟨rfl, rfl, rfl, rfl, rfl, rfl, rfl, rfl, rfl, rfl, rfl, rfl, rfl, rfl, trivial⟩
                                                      · exact fun _ w => ((.k (.k (.k (.k (.k (.k (.k (.k (.k .z))))))))) : Keep _ _).sat w
                                                case tnd1_21 =>
                                                  rintro ⟨g4, g5⟩
                                                  refine St.asrt (F' := .res (Box g5 30 [.string (⟨#[]⟩), .int .i64 0, .int .i64 0, .int .i64 0, .slice none 0 0]) :: .res (Box g4 30 [.string (⟨#[]⟩), .int .i64 0, .int .i64 0, .int .i64 0, .slice none 0 0]) :: .res (Box g3 35 (bx_T_Device r4.1 A6 c6 A7 c7)) :: .ro (SlL eu8 A6 c6 r4.1.Slots.e0.Image.Data) :: .ro (SlL eu8 A7 c7 r4.1.Slots.e1.Image.Data) :: .res (Box g2 35 (bx_T_Device r3.2 A4 c4 A5 c5)) :: .ro (SlL eu8 A4 c4 r3.2.Slots.e0.Image.Data) :: .ro (SlL eu8 A5 c5 r3.2.Slots.e1.Image.Data) :: R) (fun _ w => w) ?_
                                                  refine St.xalt ?_ ?_
                                                  · refine St.xef ?_
                                                    refine St.ldP (ls := l_T_Slot) 0 [.string r3.2.Name] [.int .i64 r3.2.Active, .int .i64 r3.2.Running, .bool r3.2.Trial] [(r3.2.Slots.e0, ((A4, c4), ())), (r3.2.Slots.e1, ((A5, c5), ()))] (fun ex => .agg (bx_T_Image x1.Image ex.1.1 ex.1.2).toArray) hx1 rfl rfl (.tail _ (.tail _ (.tail _ (.tail _ (.tail _ (.head _)))))) rfl rfl rfl ⟨(.tail _ (.tail _ (.tail _ (.tail _ (.tail _ (.tail _ (.head _))))))), (.tail _ (.tail _ (.tail _ (.tail _ (.tail _ (.tail _ (.tail _ (.head _)))))))), trivial⟩ rfl (fun _ => rfl) fun ex1 => ?_
                                                    obtain ⟨⟨A8, c8⟩, _⟩ := ex1
                                                    refine St.asrt (F' := .ro (SlL eu8 A8 c8 x1.Image.Data) :: .res (Box g5 30 [.string (⟨#[]⟩), .int .i64 0, .int .i64 0, .int .i64 0, .slice none 0 0]) :: .res (Box g4 30 [.string (⟨#[]⟩), .int .i64 0, .int .i64 0, .int .i64 0, .slice none 0 0]) :: .res (Box g3 35 (bx_T_Device r4.1 A6 c6 A7 c7)) :: .ro (SlL eu8 A6 c6 r4.1.Slots.e0.Image.Data) :: .ro (SlL eu8 A7 c7 r4.1.Slots.e1.Image.Data) :: .res (Box g2 35 (bx_T_Device r3.2 A4 c4 A5 c5)) :: .ro (SlL eu8 A4 c4 r3.2.Slots.e0.Image.Data) :: .ro (SlL eu8 A5 c5 r3.2.Slots.e1.Image.Data) :: R) (fun _ w => w) ?_
                                                    refine St.xk (fun _ w => ((.d (.d (.d (.k (.k (.k (.k (.k (.k .z))))))))) : Keep _ _).sat w) ?_
                                                    refine hnd1_10 _ _ (A8, c8, g4, g5) ?_ ?_
                                                    · exact ⟨rfl, rfl, rfl, rfl, rfl, rfl, rfl, rfl, rfl, rfl, rfl, rfl, rfl, rfl, trivial⟩
                                                    · exact fun _ w => ((.k (.k (.k (.k (.k (.k (.k (.k (.k .z))))))))) : Keep _ _).sat (((((((((w.front (.s (.s (.s (.s (.s (.s (.s (.s .z))))))))).front (.s (.s (.s (.s (.s (.s (.s (.s .z))))))))).front (.s (.s (.s (.s (.s (.s (.s (.s .z))))))))).front (.s (.s (.s (.s (.s (.s (.s (.s .z))))))))).front (.s (.s (.s (.s (.s (.s (.s (.s .z))))))))).front (.s (.s (.s (.s (.s (.s (.s (.s .z))))))))).front (.s (.s (.s (.s (.s (.s .z))))))).front (.s (.s (.s (.s (.s (.s (.s (.s .z))))))))).front (.s (.s (.s (.s (.s (.s (.s (.s .z)))))))))
                                                  · refine St.xef ?_
                                                    refine St.ixP (sz := 6) hx2 rfl rfl rfl rfl rfl rfl rfl rfl ?_
                                                    refine St.xk (fun _ w => ((.d (.d (.k (.k (.k (.k (.k (.k .z)))))))) : Keep _ _).sat w) ?_
                                                    refine St.xfl (fun _ h => h) (Rd.p rfl) rfl ?_
                                                    refine hnd1_13 _ _ (g4, g5) ?_ ?_
                                                    · exact ⟨rfl, rfl, rfl, rfl, rfl, rfl, rfl, rfl, rfl, rfl, rfl, rfl, rfl, rfl, rfl, trivial⟩
                                                    · exact fun _ w => ((.k (.k (.k (.k (.k (.k (.k (.k .z)))))))) : Keep _ _).sat w
                                              case tnd1_20 =>
                                                rintro g5
                                                refine St.asrt (F' := .res (Box g5 30 [.string (⟨#[]⟩), .int .i64 0, .int .i64 0, .int .i64 0, .slice none 0 0]) :: .res (Box g3 35 (bx_T_Device r4.1 A6 c6 A7 c7)) :: .ro (SlL eu8 A6 c6 r4.1.Slots.e0.Image.Data) :: .ro (SlL eu8 A7 c7 r4.1.Slots.e1.Image.Data) :: .res (Box g2 35 (bx_T_Device r3.2 A4 c4 A5 c5)) :: .ro (SlL eu8 A4 c4 r3.2.Slots.e0.Image.Data) :: .ro (SlL eu8 A5 c5 r3.2.Slots.e1.Image.Data) :: R) (fun _ w => w) ?_
                                                refine St.xalt ?_ ?_
                                                · refine St.xef ?_
                                                  refine St.ldP (ls := l_T_Slot) 0 [.string r3.2.Name] [.int .i64 r3.2.Active, .int .i64 r3.2.Running, .bool r3.2.Trial] [(r3.2.Slots.e0, ((A4, c4), ())), (r3.2.Slots.e1, ((A5, c5), ()))] (fun ex => .agg (bx_T_Image x1.Image ex.1.1 ex.1.2).toArray) hx1 rfl rfl (.tail _ (.tail _ (.tail _ (.tail _ (.head _))))) rfl rfl rfl ⟨(.tail _ (.tail _ (.tail _ (.tail _ (.tail _ (.head _)))))), (.tail _ (.tail _ (.tail _ (.tail _ (.tail _ (.tail _ (.head _))))))), trivial⟩ rfl (fun _ => rfl) fun ex1 => ?_
                                                  obtain ⟨⟨A8, c8⟩, _⟩ := ex1
                                                  refine St.asrt (F' := .ro (SlL eu8 A8 c8 x1.Image.Data) :: .res (Box g5 30 [.string (⟨#[]⟩), .int .i64 0, .int .i64 0, .int .i64 0, .slice none 0 0]) :: .res (Box g3 35 (bx_T_Device r4.1 A6 c6 A7 c7)) :: .ro (SlL eu8 A6 c6 r4.1.Slots.e0.Image.Data) :: .ro (SlL eu8 A7 c7 r4.1.Slots.e1.Image.Data) :: .res (Box g2 35 (bx_T_Device r3.2 A4 c4 A5 c5)) :: .ro (SlL eu8 A4 c4 r3.2.Slots.e0.Image.Data) :: .ro (SlL eu8 A5 c5 r3.2.Slots.e1.Image.Data) :: R) (fun _ w => w) ?_
                                                  refine St.xk (fun _ w => ((.d (.d (.k (.k (.k (.k (.k (.k .z)))))))) : Keep _ _).sat w) ?_
                                                  refine hnd1_9 _ _ (A8, c8, g5) ?_ ?_
                                                  · exact ⟨rfl, rfl, rfl, rfl, rfl, rfl, rfl, rfl, rfl, rfl, rfl, rfl, rfl, rfl, rfl, trivial⟩
                                                  · exact fun _ w => ((.k (.k (.k (.k (.k (.k (.k (.k .z)))))))) : Keep _ _).sat ((((((((w.front (.s (.s (.s (.s (.s (.s (.s .z)))))))).front (.s (.s (.s (.s (.s (.s (.s .z)))))))).front (.s (.s (.s (.s (.s (.s (.s .z)))))))).front (.s (.s (.s (.s (.s (.s (.s .z)))))))).front (.s (.s (.s (.s (.s (.s (.s .z)))))))).front (.s (.s (.s (.s (.s (.s (.s .z)))))))).front (.s (.s (.s (.s (.s (.s .z))))))).front (.s (.s (.s (.s (.s (.s (.s .z))))))))
                                                · refine St.xalt ?_ ?_
                                                  · refine St.xef ?_
                                                    refine St.ldP (ls := l_T_Slot) 0 [.string r3.2.Name] [.int .i64 r3.2.Active, .int .i64 r3.2.Running, .bool r3.2.Trial] [(r3.2.Slots.e0, ((A4, c4), ())), (r3.2.Slots.e1, ((A5, c5), ()))] (fun ex => .agg (bx_T_Image x2.Image ex.1.1 ex.1.2).toArray) hx2 rfl rfl (.tail _ (.tail _ (.tail _ (.tail _ (.head _))))) rfl rfl rfl ⟨(.tail _ (.tail _ (.tail _ (.tail _ (.tail _ (.head _)))))), (.tail _ (.tail _ (.tail _ (.tail _ (.tail _ (.tail _ (.head _))))))), trivial⟩ rfl (fun _ => rfl) fun ex2 => ?_
                                                    obtain ⟨⟨A9, c9⟩, _⟩ := ex2
                                                    refine St.asrt (F' := .ro (SlL eu8 A9 c9 x2.Image.Data) :: .res (Box g5 30 [.string (⟨#[]⟩), .int .i64 0, .int .i64 0, .int .i64 0, .slice none 0 0]) :: .res (Box g3 35 (bx_T_Device r4.1 A6 c6 A7 c7)) :: .ro (SlL eu8 A6 c6 r4.1.Slots.e0.Image.Data) :: .ro (SlL eu8 A7 c7 r4.1.Slots.e1.Image.Data) :: .res (Box g2 35 (bx_T_Device r3.2 A4 c4 A5 c5)) :: .ro (SlL eu8 A4 c4 r3.2.Slots.e0.Image.Data) :: .ro (SlL eu8 A5 c5 r3.2.Slots.e1.Image.Data) :: R) (fun _ w => w) ?_
                                                    refine St.xk (fun _ w => ((.d (.d (.k (.k (.k (.k (.k (.k .z)))))))) : Keep _ _).sat w) ?_
                                                    refine hnd1_12 _ _ (A9, c9, g5) ?_ ?_
                                                    · exact ⟨rfl, rfl, rfl, rfl, rfl, rfl, rfl, rfl, rfl, rfl, rfl, rfl, rfl, rfl, rfl, trivial⟩
                                                    · exact fun _ w => ((.k (.k (.k (.k (.k (.k (.k (.k .z)))))))) : Keep _ _).sat ((((((((w.front (.s (.s (.s (.s (.s (.s (.s .z)))))))).front (.s (.s (.s (.s (.s (.s (.s .z)))))))).front (.s (.s (.s (.s (.s (.s (.s .z)))))))).front (.s (.s (.s (.s (.s (.s (.s .z)))))))).front (.s (.s (.s (.s (.s (.s (.s .z)))))))).front (.s (.s (.s (.s (.s (.s (.s .z)))))))).front (.s (.s (.s (.s (.s (.s .z))))))).front (.s (.s (.s (.s (.s (.s (.s .z))))))))
                                                  · refine St.xef ?_
                                                    refine St.alloc rfl rfl fun g4 => ?_
                                                    refine St.xk (fun _ w => ((.d (.d (.k (.k (.k (.k (.k (.k .z)))))))) : Keep _ _).sat w) ?_
                                                    refine hnd1_13 _ _ (g4, g5) ?_ ?_
                                                    · exact ⟨rfl, rfl, rfl, rfl, rfl, rfl, rfl, rfl, rfl, rfl, rfl, rfl, rfl, rfl, rfl, trivial⟩
                                                    · exact fun _ w => ((.k (.k (.k (.k (.k (.k (.k (.k .z)))))))) : Keep _ _).sat ((((((((w.front (.s (.s (.s (.s (.s (.s (.s .z)))))))).front (.s (.s (.s (.s (.s (.s (.s .z)))))))).front (.s (.s (.s (.s (.s (.s (.s .z)))))))).front (.s (.s (.s (.s (.s (.s (.s .z)))))))).front (.s (.s (.s (.s (.s (.s (.s .z)))))))).front (.s (.s (.s (.s (.s (.s (.s .z)))))))).front (.s (.s (.s (.s (.s (.s .z))))))).front (.s (.s (.s (.s (.s (.s (.s .z))))))))
                                            case tnd1_19 =>
                                              rintro g4
                                              refine St.asrt (F' := .res (Box g4 30 [.string (⟨#[]⟩), .int .i64 0, .int .i64 0, .int .i64 0, .slice none 0 0]) :: .res (Box g3 35 (bx_T_Device r4.1 A6 c6 A7 c7)) :: .ro (SlL eu8 A6 c6 r4.1.Slots.e0.Image.Data) :: .ro (SlL eu8 A7 c7 r4.1.Slots.e1.Image.Data) :: .res (Box g2 35 (bx_T_Device r3.2 A4 c4 A5 c5)) :: .ro (SlL eu8 A4 c4 r3.2.Slots.e0.Image.Data) :: .ro (SlL eu8 A5 c5 r3.2.Slots.e1.Image.Data) :: R) (fun _ w => w) ?_
                                              refine St.xalt ?_ ?_
                                              · refine St.xef ?_
                                                refine St.ldP (ls := l_T_Slot) 0 [.string r3.2.Name] [.int .i64 r3.2.Active, .int .i64 r3.2.Running, .bool r3.2.Trial] [(r3.2.Slots.e0, ((A4, c4), ())), (r3.2.Slots.e1, ((A5, c5), ()))] (fun ex => .agg (bx_T_Image x1.Image ex.1.1 ex.1.2).toArray) hx1 rfl rfl (.tail _ (.tail _ (.tail _ (.tail _ (.head _))))) rfl rfl rfl ⟨(.tail _ (.tail _ (.tail _ (.tail _ (.tail _ (.head _)))))), (.tail _ (.tail _ (.tail _ (.tail _ (.tail _ (.tail _ (.head _))))))), trivial⟩ rfl (fun _ => rfl) fun ex1 => ?_
                                                obtain ⟨⟨A8, c8⟩, _⟩ := ex1
                                                refine St.asrt (F' := .ro (SlL eu8 A8 c8 x1.Image.Data) :: .res (Box g4 30 [.string (⟨#[]⟩), .int .i64 0, .int .i64 0, .int .i64 0, .slice none 0 0]) :: .res (Box g3 35 (bx_T_Device r4.1 A6 c6 A7 c7)) :: .ro (SlL eu8 A6 c6 r4.1.Slots.e0.Image.Data) :: .ro (SlL eu8 A7 c7 r4.1.Slots.e1.Image.Data) :: .res (Box g2 35 (bx_T_Device r3.2 A4 c4 A5 c5)) :: .ro (SlL eu8 A4 c4 r3.2.Slots.e0.Image.Data) :: .ro (SlL eu8 A5 c5 r3.2.Slots.e1.Image.Data) :: R) (fun _ w => w) ?_
                                                refine St.xk (fun _ w => ((.d (.d (.k (.k (.k (.k (.k (.k .z)))))))) : Keep _ _).sat w) ?_
                                                refine hnd1_8 _ _ (A8, c8, g4) ?_ ?_
                                                · exact ⟨rfl, rfl, rfl, rfl, rfl, rfl, rfl, rfl, rfl, rfl, rfl, rfl, rfl, rfl, rfl, trivial⟩
                                                · exact fun _ w => ((.k (.k (.k (.k (.k (.k (.k (.k .z)))))))) : Keep _ _).sat ((((((((w.front (.s (.s (.s (.s (.s (.s (.s .z)))))))).front (.s (.s (.s (.s (.s (.s (.s .z)))))))).front (.s (.s (.s (.s (.s (.s (.s .z)))))))).front (.s (.s (.s (.s (.s (.s (.s .z)))))))).front (.s (.s (.s (.s (.s (.s (.s .z)))))))).front (.s (.s (.s (.s (.s (.s (.s .z)))))))).front (.s (.s (.s (.s (.s (.s .z))))))).front (.s (.s (.s (.s (.s (.s (.s .z))))))))
                                              · refine St.xalt ?_ ?_
                                                · refine St.xef ?_
                                                  refine St.ldP (ls := l_T_Slot) 0 [.string r3.2.Name] [.int .i64 r3.2.Active, .int .i64 r3.2.Running, .bool r3.2.Trial] [(r3.2.Slots.e0, ((A4, c4), ())), (r3.2.Slots.e1, ((A5, c5), ()))] (fun ex => .agg (bx_T_Image x2.Image ex.1.1 ex.1.2).toArray) hx2 rfl rfl (.tail _ (.tail _ (.tail _ (.tail _ (.head _))))) rfl rfl rfl ⟨(.tail _ (.tail _ (.tail _ (.tail _ (.tail _ (.head _)))))), (.tail _ (.tail _ (.tail _ (.tail _ (.tail _ (.tail _ (.head _))))))), trivial⟩ rfl (fun _ => rfl) fun ex2 => ?_
                                                  obtain ⟨⟨A9, c9⟩, _⟩ := ex2
                                                  refine St.asrt (F' := .ro (SlL eu8 A9 c9 x2.Image.Data) :: .res (Box g4 30 [.string (⟨#[]⟩), .int .i64 0, .int .i64 0, .int .i64 0, .slice none 0 0]) :: .res (Box g3 35 (bx_T_Device r4.1 A6 c6 A7 c7)) :: .ro (SlL eu8 A6 c6 r4.1.Slots.e0.Image.Data) :: .ro (SlL eu8 A7 c7 r4.1.Slots.e1.Image.Data) :: .res (Box g2 35 (bx_T_Device r3.2 A4 c4 A5 c5)) :: .ro (SlL eu8 A4 c4 r3.2.Slots.e0.Image.Data) :: .ro (SlL eu8 A5 c5 r3.2.Slots.e1.Image.Data) :: R) (fun _ w => w) ?_
                                                  refine St.xk (fun _ w => ((.d (.d (.k (.k (.k (.k (.k (.k .z)))))))) : Keep _ _).sat w) ?_
                                                  refine hnd1_11 _ _ (A9, c9, g4) ?_ ?_
                                                  · exact ⟨rfl, rfl, rfl, rfl, rfl, rfl, rfl, rfl, rfl, rfl, rfl, rfl, rfl, rfl, rfl, trivial⟩
                                                  · exact fun _ w => ((.k (.k (.k (.k (.k (.k (.k (.k .z)))))))) : Keep _ _).sat ((((((((w.front (.s (.s (.s (.s (.s (.s (.s .z)))))))).front (.s (.s (.s (.s (.s (.s (.s .z)))))))).front (.s (.s (.s (.s (.s (.s (.s .z)))))))).front (.s (.s (.s (.s (.s (.s (.s .z)))))))).front (.s (.s (.s (.s (.s (.s (.s .z)))))))).front (.s (.s (.s (.s (.s (.s (.s .z)))))))).front (.s (.s (.s (.s (.s (.s .z))))))).front (.s (.s (.s (.s (.s (.s (.s .z))))))))
                                                · refine St.xef ?_
                                                  refine St.alloc rfl rfl fun g5 => ?_
                                                  refine St.xk (fun _ w => ((.d (.d (.k (.k (.k (.k (.k (.k .z)))))))) : Keep _ _).sat w) ?_
                                                  refine hnd1_13 _ _ (g4, g5) ?_ ?_
                                                  · exact ⟨rfl, rfl, rfl, rfl, rfl, rfl, rfl, rfl, rfl, rfl, rfl, rfl, rfl, rfl, rfl, trivial⟩
                                                  · exact fun _ w => ((.k (.k (.k (.k (.k (.k (.k (.k .z)))))))) : Keep _ _).sat w
                                          case tnd1_18 =>
                                            rintro ⟨A9, c9⟩
                                            refine St.asrt (F' := .ro (SlL eu8 A9 c9 x2.Image.Data) :: .res (Box g3 35 (bx_T_Device r4.1 A6 c6 A7 c7)) :: .ro (SlL eu8 A6 c6 r4.1.Slots.e0.Image.Data) :: .ro (SlL eu8 A7 c7 r4.1.Slots.e1.Image.Data) :: .res (Box g2 35 (bx_T_Device r3.2 A4 c4 A5 c5)) :: .ro (SlL eu8 A4 c4 r3.2.Slots.e0.Image.Data) :: .ro (SlL eu8 A5 c5 r3.2.Slots.e1.Image.Data) :: R) (fun _ w => w) ?_
                                            refine St.xalt ?_ ?_
                                            · refine St.xef ?_
                                              refine St.ldP (ls := l_T_Slot) 0 [.string r3.2.Name] [.int .i64 r3.2.Active, .int .i64 r3.2.Running, .bool r3.2.Trial] [(r3.2.Slots.e0, ((A4, c4), ())), (r3.2.Slots.e1, ((A5, c5), ()))] (fun ex => .agg (bx_T_Image x1.Image ex.1.1 ex.1.2).toArray) hx1 rfl rfl (.tail _ (.tail _ (.tail _ (.tail _ (.head _))))) rfl rfl rfl ⟨(.tail _ (.tail _ (.tail _ (.tail _ (.tail _ (.head _)))))), (.tail _ (.tail _ (.tail _ (.tail _ (.tail _ (.tail _ (.head _))))))), trivial⟩ rfl (fun _ => rfl) fun ex1 => ?_
                                              obtain ⟨⟨A8, c8⟩, _⟩ := ex1
                                              refine St.asrt (F' := .ro (SlL eu8 A8 c8 x1.Image.Data) :: .ro (SlL eu8 A9 c9 x2.Image.Data) :: .res (Box g3 35 (bx_T_Device r4.1 A6 c6 A7 c7)) :: .ro (SlL eu8 A6 c6 r4.1.Slots.e0.Image.Data) :: .ro (SlL eu8 A7 c7 r4.1.Slots.e1.Image.Data) :: .res (Box g2 35 (bx_T_Device r3.2 A4 c4 A5 c5)) :: .ro (SlL eu8 A4 c4 r3.2.Slots.e0.Image.Data) :: .ro (SlL eu8 A5 c5 r3.2.Slots.e1.Image.Data) :: R) (fun _ w => w) ?_
                                              refine St.xk (fun _ w => ((.d (.d (.k (.k (.k (.k (.k (.k .z)))))))) : Keep _ _).sat w) ?_
                                              refine hnd1_7 _ _ (A8, c8, A9, c9) ?_ ?_
                                              · exact ⟨rfl, rfl, rfl, rfl, rfl, rfl, rfl, rfl, rfl, rfl, rfl, rfl, rfl, rfl, rfl, trivial⟩
                                              · exact fun _ w => ((.k (.k (.k (.k (.k (.k (.k (.k .z)))))))) : Keep _ _).sat ((((((((w.front (.s (.s (.s (.s (.s (.s (.s .z)))))))).front (.s (.s (.s (.s (.s (.s (.s .z)))))))).front (.s (.s (.s (.s (.s (.s (.s .z)))))))).front (.s (.s (.s (.s (.s (.s (.s .z)))))))).front (.s (.s (.s (.s (.s (.s (.s .z)))))))).front (.s (.s (.s (.s (.s (.s (.s .z)))))))).front (.s (.s (.s (.s (.s (.s .z))))))).front (.s (.s (.s (.s (.s (.s (.s .z))))))))
                                            · refine St.xalt ?_ ?_
                                              · refine St.xef ?_
                                                refine St.alloc rfl rfl fun g4 => ?_
                                                refine St.xk (fun _ w => ((.d (.d (.k (.k (.k (.k (.k (.k .z)))))))) : Keep _ _).sat w) ?_
                                                refine hnd1_11 _ _ (A9, c9, g4) ?_ ?_
                                                · exact ⟨rfl, rfl, rfl, rfl, rfl, rfl, rfl, rfl, rfl, rfl, rfl, rfl, rfl, rfl, rfl, trivial⟩
                                                · exact fun _ w => ((.k (.k (.k (.k (.k (.k (.k (.k .z)))))))) : Keep _ _).sat w
                                              · refine St.xef ?_
                                                refine St.alloc rfl rfl fun g5 => ?_
                                                refine St.xk (fun _ w => ((.d (.d (.k (.k (.k (.k (.k (.k .z)))))))) : Keep _ _).sat w) ?_
                                                refine hnd1_12 _ _ (A9, c9, g5) ?_ ?_
                                                · exact ⟨rfl, rfl, rfl, rfl, rfl, rfl, rfl, rfl, rfl, rfl, rfl, rfl, rfl, rfl, rfl, trivial⟩
                                                · exact fun _ w => ((.k (.k (.k (.k (.k (.k (.k (.k .z)))))))) : Keep _ _).sat w
                                        case tnd1_17 =>
                                          rintro ⟨A8, c8, g5⟩
                                          refine St.asrt (F' := .res (Box g5 30 [.string (⟨#[]⟩), .int .i64 0, .int .i64 0, .int .i64 0, .slice none 0 0]) :: .ro (SlL eu8 A8 c8 x1.Image.Data) :: .res (Box g3 35 (bx_T_Device r4.1 A6 c6 A7 c7)) :: .ro (SlL eu8 A6 c6 r4.1.Slots.e0.Image.Data) :: .ro (SlL eu8 A7 c7 r4.1.Slots.e1.Image.Data) :: .res (Box g2 35 (bx_T_Device r3.2 A4 c4 A5 c5)) :: .ro (SlL eu8 A4 c4 r3.2.Slots.e0.Image.Data) :: .ro (SlL eu8 A5 c5 r3.2.Slots.e1.Image.Data) :: R) (fun _ w => w) ?_
                                          refine St.xalt ?_ ?_
                                          · refine St.xef ?_
                                            refine St.ixP (sz := 6) hx2 rfl rfl rfl rfl rfl rfl rfl rfl ?_
                                            refine St.xk (fun _ w => ((.d (.d (.k (.k (.k (.k (.k (.k .z)))))))) : Keep _ _).sat w) ?_
                                            refine St.xfl (fun _ h => h) (Rd.p rfl) rfl ?_
                                            refine hnd1_9 _ _ (A8, c8, g5) ?_ ?_
                                            · exact ⟨rfl, rfl, rfl, rfl, rfl, rfl, rfl, rfl, rfl, rfl, rfl, rfl, rfl, rfl, rfl, trivial⟩
                                            · exact fun _ w => ((.k (.k (.k (.k (.k (.k (.k (.k .z)))))))) : Keep _ _).sat w
                                          · refine St.xef ?_
                                            refine St.alloc rfl rfl fun g4 => ?_
                                            refine St.xk (fun _ w => ((.d (.d (.d (.k (.k (.k (.k (.k (.k .z))))))))) : Keep _ _).sat w) ?_
                                            refine hnd1_10 _ _ (A8, c8, g4, g5) ?_ ?_
                                            · exact ⟨rfl, rfl, rfl, rfl, rfl, rfl, rfl, rfl, rfl, rfl, rfl, rfl, rfl, rfl, trivial⟩
                                            · exact fun _ w => ((.k (.k (.k (.k (.k (.k (.k (.k (.k .z))))))))) : Keep _ _).sat (((((((((w.front (.s (.s (.s (.s (.s (.s (.s (.s .z))))))))).front (.s (.s (.s (.s (.s (.s (.s (.s .z))))))))).front (.s (.s (.s (.s (.s (.s (.s (.s .z))))))))).front (.s (.s (.s (.s (.s (.s (.s (.s .z))))))))).front (.s (.s (.s (.s (.s (.s (.s (.s .z))))))))).front (.s (.s (.s (.s (.s (.s (.s (.s .z))))))))).front (.s (.s (.s (.s (.s (.s (.s (.s .z))))))))).front (.s (.s (.s (.s (.s (.s (.s .z)))))))).front (.s (.s (.s (.s (.s (.s (.s (.s .z)))))))))
                                      case tnd1_16 =>
                                        rintro ⟨A8, c8, g4⟩
                                        refine St.asrt (F' := .res (Box g4 30 [.string (⟨#[]⟩), .int .i64 0, .int .i64 0, .int .i64 0, .slice none 0 0]) :: .ro (SlL eu8 A8 c8 x1.Image.Data) :: .res (Box g3 35 (bx_T_Device r4.1 A6 c6 A7 c7)) :: .ro (SlL eu8 A6 c6 r4.1.Slots.e0.Image.Data) :: .ro (SlL eu8 A7 c7 r4.1.Slots.e1.Image.Data) :: .res (Box g2 35 (bx_T_Device r3.2 A4 c4 A5 c5)) :: .ro (SlL eu8 A4 c4 r3.2.Slots.e0.Image.Data) :: .ro (SlL eu8 A5 c5 r3.2.Slots.e1.Image.Data) :: R) (fun _ w => w) ?_
                                        refine St.xalt ?_ ?_
                                        · refine St.xef ?_
                                          refine St.ixP (sz := 6) hx2 rfl rfl rfl rfl rfl rfl rfl rfl ?_
                                          refine St.xk (fun _ w => ((.d (.d (.k (.k (.k (.k (.k (.k .z)))))))) : Keep _ _).sat w) ?_
                                          refine St.xfl (fun _ h => h) (Rd.p rfl) rfl ?_
                                          refine hnd1_8 _ _ (A8, c8, g4) ?_ ?_
                                          · exact ⟨rfl, rfl, rfl, rfl, rfl, rfl, rfl, rfl, rfl, rfl, rfl, rfl, rfl, rfl, rfl, trivial⟩
                                          · exact fun _ w => ((.k (.k (.k (.k (.k (.k (.k (.k .z)))))))) : Keep _ _).sat w
                                        · refine St.xef ?_
                                          refine St.alloc rfl rfl fun g5 => ?_
                                          refine St.xk (fun _ w => ((.d (.d (.d (.k (.k (.k (.k (.k (.k .z))))))))) : Keep _ _).sat w) ?_
                                          refine hnd1_10 _ _ (A8, c8, g4, g5) ?_ ?_
                                          · exact ⟨rfl, rfl, rfl, rfl, rfl, rfl, rfl, rfl, rfl, rfl, rfl, rfl, rfl, rfl, trivial⟩
                                          · exact fun _ w => ((.k (.k (.k (.k (.k (.k (.k (.k (.k .z))))))))) : Keep _ _).sat w
                                    case tnd1_15 =>
                                      rintro ⟨A8, c8⟩
                                      refine St.asrt (F' := .ro (SlL eu8 A8 c8 x1.Image.Data) :: .res (Box g3 35 (bx_T_Device r4.1 A6 c6 A7 c7)) :: .ro (SlL eu8 A6 c6 r4.1.Slots.e0.Image.Data) :: .ro (SlL eu8 A7 c7 r4.1.Slots.e1.Image.Data) :: .res (Box g2 35 (bx_T_Device r3.2 A4 c4 A5 c5)) :: .ro (SlL eu8 A4 c4 r3.2.Slots.e0.Image.Data) :: .ro (SlL eu8 A5 c5 r3.2.Slots.e1.Image.Data) :: R) (fun _ w => w) ?_
                                      refine St.xalt ?_ ?_
                                      · refine St.xef ?_
                                        refine St.ldP (ls := l_T_Slot) 0 [.string r3.2.Name] [.int .i64 r3.2.Active, .int .i64 r3.2.Running, .bool r3.2.Trial] [(r3.2.Slots.e0, ((A4, c4), ())), (r3.2.Slots.e1, ((A5, c5), ()))] (fun ex => .agg (bx_T_Image x2.Image ex.1.1 ex.1.2).toArray) hx2 rfl rfl (.tail _ (.tail _ (.tail _ (.tail _ (.head _))))) rfl rfl rfl ⟨(.tail _ (.tail _ (.tail _ (.tail _ (.tail _ (.head _)))))), (.tail _ (.tail _ (.tail _ (.tail _ (.tail _ (.tail _ (.head _))))))), trivial⟩ rfl (fun _ => rfl) fun ex2 => ?_
                                        obtain ⟨⟨A9, c9⟩, _⟩ := ex2
                                        refine St.asrt (F' := .ro (SlL eu8 A9 c9 x2.Image.Data) :: .ro (SlL eu8 A8 c8 x1.Image.Data) :: .res (Box g3 35 (bx_T_Device r4.1 A6 c6 A7 c7)) :: .ro (SlL eu8 A6 c6 r4.1.Slots.e0.Image.Data) :: .ro (SlL eu8 A7 c7 r4.1.Slots.e1.Image.Data) :: .res (Box g2 35 (bx_T_Device r3.2 A4 c4 A5 c5)) :: .ro (SlL eu8 A4 c4 r3.2.Slots.e0.Image.Data) :: .ro (SlL eu8 A5 c5 r3.2.Slots.e1.Image.Data) :: R) (fun _ w => w) ?_
                                        refine St.xk (fun _ w => ((.d (.d (.k (.k (.k (.k (.k (.k .z)))))))) : Keep _ _).sat w) ?_
                                        refine hnd1_7 _ _ (A8, c8, A9, c9) ?_ ?_
                                        · exact ⟨rfl, rfl, rfl, rfl, rfl, rfl, rfl, rfl, rfl, rfl, rfl, rfl, rfl, rfl, rfl, trivial⟩
                                        · exact fun _ w => ((.k (.k (.k (.k (.k (.k (.k (.k .z)))))))) : Keep _ _).sat w
                                      · refine St.xalt ?_ ?_
                                        · refine St.xef ?_
                                          refine St.alloc rfl rfl fun g4 => ?_
                                          refine St.xk (fun _ w => ((.d (.d (.k (.k (.k (.k (.k (.k .z)))))))) : Keep _ _).sat w) ?_
                                          refine hnd1_8 _ _ (A8, c8, g4) ?_ ?_
                                          · exact ⟨rfl, rfl, rfl, rfl, rfl, rfl, rfl, rfl, rfl, rfl, rfl, rfl, rfl, rfl, rfl, trivial⟩
                                          · exact fun _ w => ((.k (.k (.k (.k (.k (.k (.k (.k .z)))))))) : Keep _ _).sat w
                                        · refine St.xef ?_
                                          refine St.alloc rfl rfl fun g5 => ?_
                                          refine St.xk (fun _ w => ((.d (.d (.k (.k (.k (.k (.k (.k .z)))))))) : Keep _ _).sat w) ?_
                                          refine hnd1_9 _ _ (A8, c8, g5) ?_ ?_
                                          · exact ⟨rfl, rfl, rfl, rfl, rfl, rfl, rfl, rfl, rfl, rfl, rfl, rfl, rfl, rfl, rfl, trivial⟩
                                          · exact fun _ w => ((.k (.k (.k (.k (.k (.k (.k (.k .z)))))))) : Keep _ _).sat w
                                  case tnd1_14 =>
                                    rintro ⟨A9, c9, g4, g5⟩
                                    refine St.asrt (F' := .res (Box g5 30 [.string (⟨#[]⟩), .int .i64 0, .int .i64 0, .int .i64 0, .slice none 0 0]) :: .res (Box g4 30 [.string (⟨#[]⟩), .int .i64 0, .int .i64 0, .int .i64 0, .slice none 0 0]) :: .ro (SlL eu8 A9 c9 x2.Image.Data) :: .res (Box g3 35 (bx_T_Device r4.1 A6 c6 A7 c7)) :: .ro (SlL eu8 A6 c6 r4.1.Slots.e0.Image.Data) :: .ro (SlL eu8 A7 c7 r4.1.Slots.e1.Image.Data) :: .res (Box g2 35 (bx_T_Device r3.2 A4 c4 A5 c5)) :: .ro (SlL eu8 A4 c4 r3.2.Slots.e0.Image.Data) :: .ro (SlL eu8 A5 c5 r3.2.Slots.e1.Image.Data) :: R) (fun _ w => w) ?_
                                    refine St.xef ?_
                                    refine St.ixP (sz := 6) hx1 rfl rfl rfl rfl rfl rfl rfl rfl ?_
                                    refine St.xk (fun _ w => ((.d (.d (.d (.k (.k (.k (.k (.k (.k .z))))))))) : Keep _ _).sat w) ?_
                                    refine St.xfl (fun _ h => h) (Rd.p rfl) rfl ?_
                                    refine hnd1_6 _ _ (A9, c9, g4, g5) ?_ ?_
                                    · exact ⟨rfl, rfl, rfl, rfl, rfl, rfl, rfl, rfl, rfl, rfl, rfl, rfl, rfl, rfl, rfl, rfl, trivial⟩
                                    · exact fun _ w => ((.k (.k (.k (.k (.k (.k (.k (.k (.k .z))))))))) : Keep _ _).sat w
                                case tnd1_13 =>
                                  rintro ⟨g4, g5⟩
                                  refine St.asrt (F' := .res (Box g5 30 [.string (⟨#[]⟩), .int .i64 0, .int .i64 0, .int .i64 0, .slice none 0 0]) :: .res (Box g4 30 [.string (⟨#[]⟩), .int .i64 0, .int .i64 0, .int .i64 0, .slice none 0 0]) :: .res (Box g3 35 (bx_T_Device r4.1 A6 c6 A7 c7)) :: .ro (SlL eu8 A6 c6 r4.1.Slots.e0.Image.Data) :: .ro (SlL eu8 A7 c7 r4.1.Slots.e1.Image.Data) :: .res (Box g2 35 (bx_T_Device r3.2 A4 c4 A5 c5)) :: .ro (SlL eu8 A4 c4 r3.2.Slots.e0.Image.Data) :: .ro (SlL eu8 A5 c5 r3.2.Slots.e1.Image.Data) :: R) (fun _ w => w) ?_
                                  refine St.xalt ?_ ?_
                                  · refine St.xef ?_
                                    refine St.ldP (ls := l_T_Slot) 0 [.string r3.2.Name] [.int .i64 r3.2.Active, .int .i64 r3.2.Running, .bool r3.2.Trial] [(r3.2.Slots.e0, ((A4, c4), ())), (r3.2.Slots.e1, ((A5, c5), ()))] (fun ex => .agg (bx_T_Image x1.Image ex.1.1 ex.1.2).toArray) hx1 rfl rfl (.tail _ (.tail _ (.tail _ (.tail _ (.tail _ (.head _)))))) rfl rfl rfl ⟨(.tail _ (.tail _ (.tail _ (.tail _ (.tail _ (.tail _ (.head _))))))), (.tail _ (.tail _ (.tail _ (.tail _ (.tail _ (.tail _ (.tail _ (.head _)))))))), trivial⟩ rfl (fun _ => rfl) fun ex1 => ?_
                                    obtain ⟨⟨A8, c8⟩, _⟩ := ex1
                                    refine St.asrt (F' := .ro (SlL eu8 A8 c8 x1.Image.Data) :: .res (Box g5 30 [.string (⟨#[]⟩), .int .i64 0, .int .i64 0, .int .i64 0, .slice none 0 0]) :: .res (Box g4 30 [.string (⟨#[]⟩), .int .i64 0, .int .i64 0, .int .i64 0, .slice none 0 0]) :: .res (Box g3 35 (bx_T_Device r4.1 A6 c6 A7 c7)) :: .ro (SlL eu8 A6 c6 r4.1.Slots.e0.Image.Data) :: .ro (SlL eu8 A7 c7 r4.1.Slots.e1.Image.Data) :: .res (Box g2 35 (bx_T_Device r3.2 A4 c4 A5 c5)) :: .ro (SlL eu8 A4 c4 r3.2.Slots.e0.Image.Data) :: .ro (SlL eu8 A5 c5 r3.2.Slots.e1.Image.Data) :: R) (fun _ w => w) ?_
                                    refine St.xk (fun _ w => ((.d (.d (.d (.k (.k (.k (.k (.k (.k .z))))))))) : Keep _ _).sat w) ?_
                                    refine hnd1_5 _ _ (A8, c8, g4, g5) ?_ ?_
                                    · exact ⟨rfl, rfl, rfl, rfl, rfl, rfl, rfl, rfl, rfl, rfl, rfl, rfl, rfl, rfl, rfl, rfl, trivial⟩
                                    · exact fun _ w => ((.k (.k (.k (.k (.k (.k (.k (.k (.k .z))))))))) : Keep _ _).sat (((((((((w.front (.s (.s (.s (.s (.s (.s (.s (.s .z))))))))).front (.s (.s (.s (.s (.s (.s (.s (.s .z))))))))).front (.s (.s (.s (.s (.s (.s (.s (.s .z))))))))).front (.s (.s (.s (.s (.s (.s (.s (.s .z))))))))).front (.s (.s (.s (.s (.s (.s (.s (.s .z))))))))).front (.s (.s (.s (.s (.s (.s (.s (.s .z))))))))).front (.s (.s (.s (.s (.s (.s .z))))))).front (.s (.s (.s (.s (.s (.s (.s (.s .z))))))))).front (.s (.s (.s (.s (.s (.s (.s (.s .z)))))))))
                                  · refine St.xef ?_
                                    refine St.ldP (ls := l_T_Slot) 0 [.string r3.2.Name] [.int .i64 r3.2.Active, .int .i64 r3.2.Running, .bool r3.2.Trial] [(r3.2.Slots.e0, ((A4, c4), ())), (r3.2.Slots.e1, ((A5, c5), ()))] (fun ex => .agg (bx_T_Image x2.Image ex.1.1 ex.1.2).toArray) hx2 rfl rfl (.tail _ (.tail _ (.tail _ (.tail _ (.tail _ (.head _)))))) rfl rfl rfl ⟨(.tail _ (.tail _ (.tail _ (.tail _ (.tail _ (.tail _ (.head _))))))), (.tail _ (.tail _ (.tail _ (.tail _ (.tail _ (.tail _ (.tail _ (.head _)))))))), trivial⟩ rfl (fun _ => rfl) fun ex2 => ?_
                                    obtain ⟨⟨A9, c9⟩, _⟩ := ex2
                                    refine St.asrt (F' := .ro (SlL eu8 A9 c9 x2.Image.Data) :: .res (Box g5 30 [.string (⟨#[]⟩), .int .i64 0, .int .i64 0, .int .i64 0, .slice none 0 0]) :: .res (Box g4 30 [.string (⟨#[]⟩), .int .i64 0, .int .i64 0, .int .i64 0, .slice none 0 0]) :: .res (Box g3 35 (bx_T_Device r4.1 A6 c6 A7 c7)) :: .ro (SlL eu8 A6 c6 r4.1.Slots.e0.Image.Data) :: .ro (SlL eu8 A7 c7 r4.1.Slots.e1.Image.Data) :: .res (Box g2 35 (bx_T_Device r3.2 A4 c4 A5 c5)) :: .ro (SlL eu8 A4 c4 r3.2.Slots.e0.Image.Data) :: .ro (SlL eu8 A5 c5 r3.2.Slots.e1.Image.Data) :: R) (fun _ w => w) ?_
                                    refine St.xk (fun _ w => ((.d (.d (.d (.k (.k (.k (.k (.k (.k .z))))))))) : Keep _ _).sat w) ?_
                                    refine hnd1_6 _ _ (A9, c9, g4, g5) ?_ ?_
                                    · exact ⟨rfl, rfl, rfl, rfl, rfl, rfl, rfl, rfl, rfl, rfl, rfl, rfl, rfl, rfl, rfl, rfl, trivial⟩
                                    · exact fun _ w => ((.k (.k (.k (.k (.k (.k (.k (.k (.k .z))))))))) : Keep _ _).sat (((((((((w.front (.s (.s (.s (.s (.s (.s (.s (.s .z))))))))).front (.s (.s (.s (.s (.s (.s (.s (.s .z))))))))).front (.s (.s (.s (.s (.s (.s (.s (.s .z))))))))).front (.s (.s (.s (.s (.s (.s (.s (.s .z))))))))).front (.s (.s (.s (.s (.s (.s (.s (.s .z))))))))).front (.s (.s (.s (.s (.s (.s (.s (.s .z))))))))).front (.s (.s (.s (.s (.s (.s .z))))))).front (.s (.s (.s (.s (.s (.s (.s (.s .z))))))))).front (.s (.s (.s (.s (.s (.s (.s (.s .z)))))))))
                              case tnd1_12 =>
                                rintro ⟨A9, c9, g5⟩
                                refine St.asrt (F' := .res (Box g5 30 [.string (⟨#[]⟩), .int .i64 0, .int .i64 0, .int .i64 0, .slice none 0 0]) :: .ro (SlL eu8 A9 c9 x2.Image.Data) :: .res (Box g3 35 (bx_T_Device r4.1 A6 c6 A7 c7)) :: .ro (SlL eu8 A6 c6 r4.1.Slots.e0.Image.Data) :: .ro (SlL eu8 A7 c7 r4.1.Slots.e1.Image.Data) :: .res (Box g2 35 (bx_T_Device r3.2 A4 c4 A5 c5)) :: .ro (SlL eu8 A4 c4 r3.2.Slots.e0.Image.Data) :: .ro (SlL eu8 A5 c5 r3.2.Slots.e1.Image.Data) :: R) (fun _ w => w) ?_
                                refine St.xalt ?_ ?_
                                · refine St.xef ?_
                                  refine St.ldP (ls := l_T_Slot) 0 [.string r3.2.Name] [.int .i64 r3.2.Active, .int .i64 r3.2.Running, .bool r3.2.Trial] [(r3.2.Slots.e0, ((A4, c4), ())), (r3.2.Slots.e1, ((A5, c5), ()))] (fun ex => .agg (bx_T_Image x1.Image ex.1.1 ex.1.2).toArray) hx1 rfl rfl (.tail _ (.tail _ (.tail _ (.tail _ (.tail _ (.head _)))))) rfl rfl rfl ⟨(.tail _ (.tail _ (.tail _ (.tail _ (.tail _ (.tail _ (.head _))))))), (.tail _ (.tail _ (.tail _ (.tail _ (.tail _ (.tail _ (.tail _ (.head _)))))))), trivial⟩ rfl (fun _ => rfl) fun ex1 => ?_
                                  obtain ⟨⟨A8, c8⟩, _⟩ := ex1
                                  refine St.asrt (F' := .ro (SlL eu8 A8 c8 x1.Image.Data) :: .res (Box g5 30 [.string (⟨#[]⟩), .int .i64 0, .int .i64 0, .int .i64 0, .slice none 0 0]) :: .ro (SlL eu8 A9 c9 x2.Image.Data) :: .res (Box g3 35 (bx_T_Device r4.1 A6 c6 A7 c7)) :: .ro (SlL eu8 A6 c6 r4.1.Slots.e0.Image.Data) :: .ro (SlL eu8 A7 c7 r4.1.Slots.e1.Image.Data) :: .res (Box g2 35 (bx_T_Device r3.2 A4 c4 A5 c5)) :: .ro (SlL eu8 A4 c4 r3.2.Slots.e0.Image.Data) :: .ro (SlL eu8 A5 c5 r3.2.Slots.e1.Image.Data) :: R) (fun _ w => w) ?_
                                  refine St.xk (fun _ w => ((.d (.d (.d (.k (.k (.k (.k (.k (.k .z))))))))) : Keep _ _).sat w) ?_
                                  refine hnd1_4 _ _ (A8, c8, A9, c9, g5) ?_ ?_
                                  · exact ⟨rfl, rfl, rfl, rfl, rfl, rfl, rfl, rfl, rfl, rfl, rfl, rfl, rfl, rfl, rfl, rfl, trivial⟩
                                  · exact fun _ w => ((.k (.k (.k (.k (.k (.k (.k (.k (.k .z))))))))) : Keep _ _).sat (((((((((w.front (.s (.s (.s (.s (.s (.s (.s (.s .z))))))))).front (.s (.s (.s (.s (.s (.s (.s (.s .z))))))))).front (.s (.s (.s (.s (.s (.s (.s (.s .z))))))))).front (.s (.s (.s (.s (.s (.s (.s (.s .z))))))))).front (.s (.s (.s (.s (.s (.s (.s (.s .z))))))))).front (.s (.s (.s (.s (.s (.s (.s (.s .z))))))))).front (.s (.s (.s (.s (.s (.s .z))))))).front (.s (.s (.s (.s (.s (.s (.s (.s .z))))))))).front (.s (.s (.s (.s (.s (.s (.s (.s .z)))))))))
                                · refine St.xef ?_
                                  refine St.alloc rfl rfl fun g4 => ?_
                                  refine St.xk (fun _ w => ((.d (.d (.d (.k (.k (.k (.k (.k (.k .z))))))))) : Keep _ _).sat w) ?_
                                  refine hnd1_6 _ _ (A9, c9, g4, g5) ?_ ?_
                                  · exact ⟨rfl, rfl, rfl, rfl, rfl, rfl, rfl, rfl, rfl, rfl, rfl, rfl, rfl, rfl, rfl, rfl, trivial⟩
                                  · exact fun _ w => ((.k (.k (.k (.k (.k (.k (.k (.k (.k .z))))))))) : Keep _ _).sat (((((((((w.front (.s (.s (.s (.s (.s (.s (.s (.s .z))))))))).front (.s (.s (.s (.s (.s (.s (.s (.s .z))))))))).front (.s (.s (.s (.s (.s (.s (.s (.s .z))))))))).front (.s (.s (.s (.s (.s (.s (.s (.s .z))))))))).front (.s (.s (.s (.s (.s (.s (.s (.s .z))))))))).front (.s (.s (.s (.s (.s (.s (.s (.s .z))))))))).front (.s (.s (.s (.s (.s (.s (.s (.s .z))))))))).front (.s (.s (.s (.s (.s (.s (.s .z)))))))).front (.s (.s (.s (.s (.s (.s (.s (.s .z)))))))))
                            case tnd1_11 =>
                              rintro ⟨A9, c9, g4⟩
                              refine St.asrt (F' := .res (Box g4 30 [.string (⟨#[]⟩), .int .i64 0, .int .i64 0, .int .i64 0, .slice none 0 0]) :: .ro (SlL eu8 A9 c9 x2.Image.Data) :: .res (Box g3 35 (bx_T_Device r4.1 A6 c6 A7 c7)) :: .ro (SlL eu8 A6 c6 r4.1.Slots.e0.Image.Data) :: .ro (SlL eu8 A7 c7 r4.1.Slots.e1.Image.Data) :: .res (Box g2 35 (bx_T_Device r3.2 A4 c4 A5 c5)) :: .ro (SlL eu8 A4 c4 r3.2.Slots.e0.Image.Data) :: .ro (SlL eu8 A5 c5 r3.2.Slots.e1.Image.Data) :: R) (fun _ w => w) ?_
                              refine St.xalt ?_ ?_
                              · refine St.xef ?_
                                refine St.ldP (ls := l_T_Slot) 0 [.string r3.2.Name] [.int .i64 r3.2.Active, .int .i64 r3.2.Running, .bool r3.2.Trial] [(r3.2.Slots.e0, ((A4, c4), ())), (r3.2.Slots.e1, ((A5, c5), ()))] (fun ex => .agg (bx_T_Image x1.Image ex.1.1 ex.1.2).toArray) hx1 rfl rfl (.tail _ (.tail _ (.tail _ (.tail _ (.tail _ (.head _)))))) rfl rfl rfl ⟨(.tail _ (.tail _ (.tail _ (.tail _ (.tail _ (.tail _ (.head _))))))), (.tail _ (.tail _ (.tail _ (.tail _ (.tail _ (.tail _ (.tail _ (.head _)))))))), trivial⟩ rfl (fun _ => rfl) fun ex1 => ?_
                                obtain ⟨⟨A8, c8⟩, _⟩ := ex1
                                refine St.asrt (F' := .ro (SlL eu8 A8 c8 x1.Image.Data) :: .res (Box g4 30 [.string (⟨#[]⟩), .int .i64 0, .int .i64 0, .int .i64 0, .slice none 0 0]) :: .ro (SlL eu8 A9 c9 x2.Image.Data) :: .res (Box g3 35 (bx_T_Device r4.1 A6 c6 A7 c7)) :: .ro (SlL eu8 A6 c6 r4.1.Slots.e0.Image.Data) :: .ro (SlL eu8 A7 c7 r4.1.Slots.e1.Image.Data) :: .res (Box g2 35 (bx_T_Device r3.2 A4 c4 A5 c5)) :: .ro (SlL eu8 A4 c4 r3.2.Slots.e0.Image.Data) :: .ro (SlL eu8 A5 c5 r3.2.Slots.e1.Image.Data) :: R) (fun _ w => w) ?_
                                refine St.xk (fun _ w => ((.d (.d (.d (.k (.k (.k (.k (.k (.k .z))))))))) : Keep _ _).sat w) ?_
                                refine hnd1_3 _ _ (A8, c8, A9, c9, g4) ?_ ?_
                                · exact ⟨rfl, rfl, rfl, rfl, rfl, rfl, rfl, rfl, rfl, rfl, rfl, rfl, rfl, rfl, rfl, rfl, trivial⟩
                                · exact fun _ w => ((.k (.k (.k (.k (.k (.k (.k (.k (.k .z))))))))) : Keep _ _).sat (((((((((w.front (.s (.s (.s (.s (.s (.s (.s (.s .z))))))))).front (.s (.s (.s (.s (.s (.s (.s (.s .z))))))))).front (.s (.s (.s (.s (.s (.s (.s (.s .z))))))))).front (.s (.s (.s (.s (.s (.s (.s (.s .z))))))))).front (.s (.s (.s (.s (.s (.s (.s (.s .z))))))))).front (.s (.s (.s (.s (.s (.s (.s (.s .z))))))))).front (.s (.s (.s (.s (.s (.s .z))))))).front (.s (.s (.s (.s (.s (.s (.s (.s .z))))))))).front (.s (.s (.s (.s (.s (.s (.s (.s .z)))))))))
                              · refine St.xef ?_
                                refine St.alloc rfl rfl fun g5 => ?_
                                refine St.xk (fun _ w => ((.d (.d (.d (.k (.k (.k (.k (.k (.k .z))))))))) : Keep _ _).sat w) ?_
                                refine hnd1_6 _ _ (A9, c9, g4, g5) ?_ ?_
                                · exact ⟨rfl, rfl, rfl, rfl, rfl, rfl, rfl, rfl, rfl, rfl, rfl, rfl, rfl, rfl, rfl, rfl, trivial⟩
                                · exact fun _ w => ((.k (.k (.k (.k (.k (.k (.k (.k (.k .z))))))))) : Keep _ _).sat w
                          case tnd1_10 =>
                            rintro ⟨A8, c8, g4, g5⟩
                            refine St.asrt (F' := .res (Box g5 30 [.string (⟨#[]⟩), .int .i64 0, .int .i64 0, .int .i64 0, .slice none 0 0]) :: .res (Box g4 30 [.string (⟨#[]⟩), .int .i64 0, .int .i64 0, .int .i64 0, .slice none 0 0]) :: .ro (SlL eu8 A8 c8 x1.Image.Data) :: .res (Box g3 35 (bx_T_Device r4.1 A6 c6 A7 c7)) :: .ro (SlL eu8 A6 c6 r4.1.Slots.e0.Image.Data) :: .ro (SlL eu8 A7 c7 r4.1.Slots.e1.Image.Data) :: .res (Box g2 35 (bx_T_Device r3.2 A4 c4 A5 c5)) :: .ro (SlL eu8 A4 c4 r3.2.Slots.e0.Image.Data) :: .ro (SlL eu8 A5 c5 r3.2.Slots.e1.Image.Data) :: R) (fun _ w => w) ?_
                            refine St.xalt ?_ ?_
                            · refine St.xef ?_
                              refine St.ixP (sz := 6) hx2 rfl rfl rfl rfl rfl rfl rfl rfl ?_
                              refine St.xk (fun _ w => ((.d (.d (.d (.k (.k (.k (.k (.k (.k .z))))))))) : Keep _ _).sat w) ?_
                              refine St.xfl (fun _ h => h) (Rd.p rfl) rfl ?_
                              refine hnd1_5 _ _ (A8, c8, g4, g5) ?_ ?_
                              · exact ⟨rfl, rfl, rfl, rfl, rfl, rfl, rfl, rfl, rfl, rfl, rfl, rfl, rfl, rfl, rfl, rfl, trivial⟩
                              · exact fun _ w => ((.k (.k (.k (.k (.k (.k (.k (.k (.k .z))))))))) : Keep _ _).sat w
                            · refine St.xef ?_
                              refine St.store 0 rfl rfl rfl rfl rfl rfl (.s .z) rfl ?_
                              refine St.xk (fun _ w => ((.d (.d (.d (.k (.k (.k (.k (.k (.k .z))))))))) : Keep _ _).sat w) ?_
                              refine St.xef ?_
                              refine St.ixP (sz := 6) hx2 rfl rfl rfl rfl rfl rfl rfl rfl ?_
                              refine St.xk (fun _ w => ((.d (.d (.d (.k (.k (.k (.k (.k (.k .z))))))))) : Keep _ _).sat w) ?_
                              refine St.xfl (fun _ h => h) (Rd.p rfl) rfl ?_
                              refine hnd1_2 _ _ (A8, c8, g4, g5) ?_ ?_
                              · exact ⟨rfl, rfl, rfl, rfl, rfl, rfl, rfl, rfl, rfl, rfl, rfl, rfl, rfl, rfl, rfl, rfl, trivial⟩
                              · exact fun _ w => ((.k (.k (.k (.k (.k (.k (.k (.k (.k .z))))))))) : Keep _ _).sat w
                        case tnd1_9 =>
                          rintro ⟨A8, c8, g5⟩
                          refine St.asrt (F' := .res (Box g5 30 [.string (⟨#[]⟩), .int .i64 0, .int .i64 0, .int .i64 0, .slice none 0 0]) :: .ro (SlL eu8 A8 c8 x1.Image.Data) :: .res (Box g3 35 (bx_T_Device r4.1 A6 c6 A7 c7)) :: .ro (SlL eu8 A6 c6 r4.1.Slots.e0.Image.Data) :: .ro (SlL eu8 A7 c7 r4.1.Slots.e1.Image.Data) :: .res (Box g2 35 (bx_T_Device r3.2 A4 c4 A5 c5)) :: .ro (SlL eu8 A4 c4 r3.2.Slots.e0.Image.Data) :: .ro (SlL eu8 A5 c5 r3.2.Slots.e1.Image.Data) :: R) (fun _ w => w) ?_
                          refine St.xalt ?_ ?_
                          · refine St.xef ?_
                            refine St.ldP (ls := l_T_Slot) 0 [.string r3.2.Name] [.int .i64 r3.2.Active, .int .i64 r3.2.Running, .bool r3.2.Trial] [(r3.2.Slots.e0, ((A4, c4), ())), (r3.2.Slots.e1, ((A5, c5), ()))] (fun ex => .agg (bx_T_Image x2.Image ex.1.1 ex.1.2).toArray) hx2 rfl rfl (.tail _ (.tail _ (.tail _ (.tail _ (.tail _ (.head _)))))) rfl rfl rfl ⟨(.tail _ (.tail _ (.tail _ (.tail _ (.tail _ (.tail _ (.head _))))))), (.tail _ (.tail _ (.tail _ (.tail _ (.tail _ (.tail _ (.tail _ (.head _)))))))), trivial⟩ rfl (fun _ => rfl) fun ex2 => ?_
                            obtain ⟨⟨A9, c9⟩, _⟩ := ex2
                            refine St.asrt (F' := .ro (SlL eu8 A9 c9 x2.Image.Data) :: .res (Box g5 30 [.string (⟨#[]⟩), .int .i64 0, .int .i64 0, .int .i64 0, .slice none 0 0]) :: .ro (SlL eu8 A8 c8 x1.Image.Data) :: .res (Box g3 35 (bx_T_Device r4.1 A6 c6 A7 c7)) :: .ro (SlL eu8 A6 c6 r4.1.Slots.e0.Image.Data) :: .ro (SlL eu8 A7 c7 r4.1.Slots.e1.Image.Data) :: .res (Box g2 35 (bx_T_Device r3.2 A4 c4 A5 c5)) :: .ro (SlL eu8 A4 c4 r3.2.Slots.e0.Image.Data) :: .ro (SlL eu8 A5 c5 r3.2.Slots.e1.Image.Data) :: R) (fun _ w => w) ?_
                            refine St.xk (fun _ w => ((.d (.d (.d (.k (.k (.k (.k (.k (.k .z))))))))) : Keep _ _).sat w) ?_
                            refine hnd1_4 _ _ (A8, c8, A9, c9, g5) ?_ ?_
                            · exact ⟨rfl, rfl, rfl, rfl, rfl, rfl, rfl, rfl, rfl, rfl, rfl, rfl, rfl, rfl, rfl, rfl, trivial⟩
                            · exact fun _ w => ((.k (.k (.k (.k (.k (.k (.k (.k (.k .z))))))))) : Keep _ _).sat (((((((((w.front (.s (.s (.s (.s (.s (.s (.s (.s .z))))))))).front (.s (.s (.s (.s (.s (.s (.s (.s .z))))))))).front (.s (.s (.s (.s (.s (.s (.s (.s .z))))))))).front (.s (.s (.s (.s (.s (.s (.s (.s .z))))))))).front (.s (.s (.s (.s (.s (.s (.s (.s .z))))))))).front (.s (.s (.s (.s (.s (.s (.s (.s .z))))))))).front (.s (.s (.s (.s (.s (.s (.s (.s .z))))))))).front (.s (.s (.s (.s (.s (.s (.s .z)))))))).front (.s (.s (.s (.s (.s (.s (.s (.s .z)))))))))
                          · refine St.xef ?_
                            refine St.alloc rfl rfl fun g4 => ?_
                            refine St.xk (fun _ w => ((.d (.d (.d (.k (.k (.k (.k (.k (.k .z))))))))) : Keep _ _).sat w) ?_
                            refine hnd1_5 _ _ (A8, c8, g4, g5) ?_ ?_
                            · exact ⟨rfl, rfl, rfl, rfl, rfl, rfl, rfl, rfl, rfl, rfl, rfl, rfl, rfl, rfl, rfl, rfl, trivial⟩
                            · exact fun _ w => ((.k (.k (.k (.k (.k (.k (.k (.k (.k .z))))))))) : Keep _ _).sat (((((((((w.front (.s (.s (.s (.s (.s (.s (.s (.s .z))))))))).front (.s (.s (.s (.s (.s (.s (.s (.s .z))))))))).front (.s (.s (.s (.s (.s (.s (.s (.s .z))))))))).front (.s (.s (.s (.s (.s (.s (.s (.s .z))))))))).front (.s (.s (.s (.s (.s (.s (.s (.s .z))))))))).front (.s (.s (.s (.s (.s (.s (.s (.s .z))))))))).front (.s (.s (.s (.s (.s (.s (.s (.s .z))))))))).front (.s (.s (.s (.s (.s (.s (.s .z)))))))).front (.s (.s (.s (.s (.s (.s (.s (.s .z)))))))))
                      case tnd1_8 =>
                        rintro ⟨A8, c8, g4⟩
                        refine St.asrt (F' := .res (Box g4 30 [.string (⟨#[]⟩), .int .i64 0, .int .i64 0, .int .i64 0, .slice none 0 0]) :: .ro (SlL eu8 A8 c8 x1.Image.Data) :: .res (Box g3 35 (bx_T_Device r4.1 A6 c6 A7 c7)) :: .ro (SlL eu8 A6 c6 r4.1.Slots.e0.Image.Data) :: .ro (SlL eu8 A7 c7 r4.1.Slots.e1.Image.Data) :: .res (Box g2 35 (bx_T_Device r3.2 A4 c4 A5 c5)) :: .ro (SlL eu8 A4 c4 r3.2.Slots.e0.Image.Data) :: .ro (SlL eu8 A5 c5 r3.2.Slots.e1.Image.Data) :: R) (fun _ w => w) ?_
                        refine St.xalt ?_ ?_
                        · refine St.xef ?_
                          refine St.ldP (ls := l_T_Slot) 0 [.string r3.2.Name] [.int .i64 r3.2.Active, .int .i64 r3.2.Running, .bool r3.2.Trial] [(r3.2.Slots.e0, ((A4, c4), ())), (r3.2.Slots.e1, ((A5, c5), ()))] (fun ex => .agg (bx_T_Image x2.Image ex.1.1 ex.1.2).toArray) hx2 rfl rfl (.tail _ (.tail _ (.tail _ (.tail _ (.tail _ (.head _)))))) rfl rfl rfl ⟨(.tail _ (.tail _ (.tail _ (.tail _ (.tail _ (.tail _ (.head _))))))), (.tail _ (.tail _ (.tail _ (.tail _ (.tail _ (.tail _ (.tail _ (.head _)))))))), trivial⟩ rfl (fun _ => rfl) fun ex2 => ?_
                          obtain ⟨⟨A9, c9⟩, _⟩ := ex2
                          refine St.asrt (F' := .ro (SlL eu8 A9 c9 x2.Image.Data) :: .res (Box g4 30 [.string (⟨#[]⟩), .int .i64 0, .int .i64 0, .int .i64 0, .slice none 0 0]) :: .ro (SlL eu8 A8 c8 x1.Image.Data) :: .res (Box g3 35 (bx_T_Device r4.1 A6 c6 A7 c7)) :: .ro (SlL eu8 A6 c6 r4.1.Slots.e0.Image.Data) :: .ro (SlL eu8 A7 c7 r4.1.Slots.e1.Image.Data) :: .res (Box g2 35 (bx_T_Device r3.2 A4 c4 A5 c5)) :: .ro (SlL eu8 A4 c4 r3.2.Slots.e0.Image.Data) :: .ro (SlL eu8 A5 c5 r3.2.Slots.e1.Image.Data) :: R) (fun _ w => w) ?_
                          refine St.xk (fun _ w => ((.d (.d (.d (.k (.k (.k (.k (.k (.k .z))))))))) : Keep _ _).sat w) ?_
                          refine hnd1_3 _ _ (A8, c8, A9, c9, g4) ?_ ?_
                          · exact ⟨rfl, rfl, rfl, rfl, rfl, rfl, rfl, rfl, rfl, rfl, rfl, rfl, rfl, rfl, rfl, rfl, trivial⟩
                          · exact fun _ w => ((.k (.k (.k (.k (.k (.k (.k (.k (.k .z))))))))) : Keep _ _).sat (((((((((w.front (.s (.s (.s (.s (.s (.s (.s (.s .z))))))))).front (.s (.s (.s (.s (.s (.s (.s (.s .z))))))))).front (.s (.s (.s (.s (.s (.s (.s (.s .z))))))))).front (.s (.s (.s (.s (.s (.s (.s (.s .z))))))))).front (.s (.s (.s (.s (.s (.s (.s (.s .z))))))))).front (.s (.s (.s (.s (.s (.s (.s (.s .z))))))))).front (.s (.s (.s (.s (.s (.s (.s (.s .z))))))))).front (.s (.s (.s (.s (.s (.s (.s .z)))))))).front (.s (.s (.s (.s (.s (.s (.s (.s .z)))))))))
                        · refine St.xef ?_
                          refine St.alloc rfl rfl fun g5 => ?_
                          refine St.xk (fun _ w => ((.d (.d (.d (.k (.k (.k (.k (.k (.k .z))))))))) : Keep _ _).sat w) ?_
                          refine hnd1_5 _ _ (A8, c8, g4, g5) ?_ ?_
                          · exact ⟨rfl, rfl, rfl, rfl, rfl, rfl, rfl, rfl, rfl, rfl, rfl, rfl, rfl, rfl, rfl, rfl, trivial⟩
                          · exact fun _ w => ((.k (.k (.k (.k (.k (.k (.k (.k (.k .z))))))))) : Keep _ _).sat w
                    case tnd1_7 =>
                      rintro ⟨A8, c8, A9, c9⟩
                      refine St.asrt (F' := .ro (SlL eu8 A9 c9 x2.Image.Data) :: .ro (SlL eu8 A8 c8 x1.Image.Data) :: .res (Box g3 35 (bx_T_Device r4.1 A6 c6 A7 c7)) :: .ro (SlL eu8 A6 c6 r4.1.Slots.e0.Image.Data) :: .ro (SlL eu8 A7 c7 r4.1.Slots.e1.Image.Data) :: .res (Box g2 35 (bx_T_Device r3.2 A4 c4 A5 c5)) :: .ro (SlL eu8 A4 c4 r3.2.Slots.e0.Image.Data) :: .ro (SlL eu8 A5 c5 r3.2.Slots.e1.Image.Data) :: R) (fun _ w => w) ?_
                      refine St.xalt ?_ ?_
                      · refine St.xef ?_
                        refine St.alloc rfl rfl fun g4 => ?_
                        refine St.xk (fun _ w => ((.d (.d (.d (.k (.k (.k (.k (.k (.k .z))))))))) : Keep _ _).sat w) ?_
                        refine hnd1_3 _ _ (A8, c8, A9, c9, g4) ?_ ?_
                        · exact ⟨rfl, rfl, rfl, rfl, rfl, rfl, rfl, rfl, rfl, rfl, rfl, rfl, rfl, rfl, rfl, rfl, trivial⟩
                        · exact fun _ w => ((.k (.k (.k (.k (.k (.k (.k (.k (.k .z))))))))) : Keep _ _).sat w
                      · refine St.xef ?_
                        refine St.alloc rfl rfl fun g5 => ?_
                        refine St.xk (fun _ w => ((.d (.d (.d (.k (.k (.k (.k (.k (.k .z))))))))) : Keep _ _).sat w) ?_
                        refine hnd1_4 _ _ (A8, c8, A9, c9, g5) ?_ ?_
                        · exact ⟨rfl, rfl, rfl, rfl, rfl, rfl, rfl, rfl, rfl, rfl, rfl, rfl, rfl, rfl, rfl, rfl, trivial⟩
                        · exact fun _ w => ((.k (.k (.k (.k (.k (.k (.k (.k (.k .z))))))))) : Keep _ _).sat w
                  case tnd1_6 =>
                    rintro ⟨A9, c9, g4, g5⟩
                    refine St.asrt (F' := .res (Box g5 30 [.string (⟨#[]⟩), .int .i64 0, .int .i64 0, .int .i64 0, .slice none 0 0]) :: .res (Box g4 30 [.string (⟨#[]⟩), .int .i64 0, .int .i64 0, .int .i64 0, .slice none 0 0]) :: .ro (SlL eu8 A9 c9 x2.Image.Data) :: .res (Box g3 35 (bx_T_Device r4.1 A6 c6 A7 c7)) :: .ro (SlL eu8 A6 c6 r4.1.Slots.e0.Image.Data) :: .ro (SlL eu8 A7 c7 r4.1.Slots.e1.Image.Data) :: .res (Box g2 35 (bx_T_Device r3.2 A4 c4 A5 c5)) :: .ro (SlL eu8 A4 c4 r3.2.Slots.e0.Image.Data) :: .ro (SlL eu8 A5 c5 r3.2.Slots.e1.Image.Data) :: R) (fun _ w => w) ?_
                    refine St.xef ?_
                    refine St.ldP (ls := l_T_Slot) 0 [.string r3.2.Name] [.int .i64 r3.2.Active, .int .i64 r3.2.Running, .bool r3.2.Trial] [(r3.2.Slots.e0, ((A4, c4), ())), (r3.2.Slots.e1, ((A5, c5), ()))] (fun ex => .agg (bx_T_Image x1.Image ex.1.1 ex.1.2).toArray) hx1 rfl rfl (.tail _ (.tail _ (.tail _ (.tail _ (.tail _ (.tail _ (.head _))))))) rfl rfl rfl ⟨(.tail _ (.tail _ (.tail _ (.tail _ (.tail _ (.tail _ (.tail _ (.head _)))))))), (.tail _ (.tail _ (.tail _ (.tail _ (.tail _ (.tail _ (.tail _ (.tail _ (.head _))))))))), trivial⟩ rfl (fun _ => rfl) fun ex1 => ?_
                    obtain ⟨⟨A8, c8⟩, _⟩ := ex1
                    refine St.asrt (F' := .ro (SlL eu8 A8 c8 x1.Image.Data) :: .res (Box g5 30 [.string (⟨#[]⟩), .int .i64 0, .int .i64 0, .int .i64 0, .slice none 0 0]) :: .res (Box g4 30 [.string (⟨#[]⟩), .int .i64 0, .int .i64 0, .int .i64 0, .slice none 0 0]) :: .ro (SlL eu8 A9 c9 x2.Image.Data) :: .res (Box g3 35 (bx_T_Device r4.1 A6 c6 A7 c7)) :: .ro (SlL eu8 A6 c6 r4.1.Slots.e0.Image.Data) :: .ro (SlL eu8 A7 c7 r4.1.Slots.e1.Image.Data) :: .res (Box g2 35 (bx_T_Device r3.2 A4 c4 A5 c5)) :: .ro (SlL eu8 A4 c4 r3.2.Slots.e0.Image.Data) :: .ro (SlL eu8 A5 c5 r3.2.Slots.e1.Image.Data) :: R) (fun _ w => w) ?_
                    refine St.xk (fun _ w => ((.d (.d (.d (.d (.k (.k (.k (.k (.k (.k .z)))))))))) : Keep _ _).sat w) ?_
                    refine hnd1_1 _ _ (A8, c8, A9, c9, g4, g5) ?_ ?_
                    · exact ⟨rfl, rfl, rfl, rfl, rfl, rfl, rfl, rfl, rfl, rfl, rfl, rfl, rfl, rfl, rfl, rfl, rfl, trivial⟩
                    · exact fun _ w => ((.k (.k (.k (.k (.k (.k (.k (.k (.k (.k .z)))))))))) : Keep _ _).sat ((((((((((w.front (.s (.s (.s (.s (.s (.s (.s (.s (.s .z)))))))))).front (.s (.s (.s (.s (.s (.s (.s (.s (.s .z)))))))))).front (.s (.s (.s (.s (.s (.s (.s (.s (.s .z)))))))))).front (.s (.s (.s (.s (.s (.s (.s (.s (.s .z)))))))))).front (.s (.s (.s (.s (.s (.s (.s (.s (.s .z)))))))))).front (.s (.s (.s (.s (.s (.s (.s (.s (.s .z)))))))))).front (.s (.s (.s (.s (.s (.s .z))))))).front (.s (.s (.s (.s (.s (.s (.s (.s (.s .z)))))))))).front (.s (.s (.s (.s (.s (.s (.s (.s (.s .z)))))))))).front (.s (.s (.s (.s (.s (.s (.s (.s (.s .z))))))))))
                case tnd1_5 =>
                  rintro ⟨A8, c8, g4, g5⟩
                  refine St.asrt (F' := .res (Box g5 30 [.string (⟨#[]⟩), .int .i64 0, .int .i64 0, .int .i64 0, .slice none 0 0]) :: .res (Box g4 30 [.string (⟨#[]⟩), .int .i64 0, .int .i64 0, .int .i64 0, .slice none 0 0]) :: .ro (SlL eu8 A8 c8 x1.Image.Data) :: .res (Box g3 35 (bx_T_Device r4.1 A6 c6 A7 c7)) :: .ro (SlL eu8 A6 c6 r4.1.Slots.e0.Image.Data) :: .ro (SlL eu8 A7 c7 r4.1.Slots.e1.Image.Data) :: .res (Box g2 35 (bx_T_Device r3.2 A4 c4 A5 c5)) :: .ro (SlL eu8 A4 c4 r3.2.Slots.e0.Image.Data) :: .ro (SlL eu8 A5 c5 r3.2.Slots.e1.Image.Data) :: R) (fun _ w => w) ?_
                  refine St.xalt ?_ ?_
                  · refine St.xef ?_
                    refine St.ldP (ls := l_T_Slot) 0 [.string r3.2.Name] [.int .i64 r3.2.Active, .int .i64 r3.2.Running, .bool r3.2.Trial] [(r3.2.Slots.e0, ((A4, c4), ())), (r3.2.Slots.e1, ((A5, c5), ()))] (fun ex => .agg (bx_T_Image x2.Image ex.1.1 ex.1.2).toArray) hx2 rfl rfl (.tail _ (.tail _ (.tail _ (.tail _ (.tail _ (.tail _ (.head _))))))) rfl rfl rfl ⟨(.tail _ (.tail _ (.tail _ (.tail _ (.tail _ (.tail _ (.tail _ (.head _)))))))), (.tail _ (.tail _ (.tail _ (.tail _ (.tail _ (.tail _ (.tail _ (.tail _ (.head _))))))))), trivial⟩ rfl (fun _ => rfl) fun ex2 => ?_
                    obtain ⟨⟨A9, c9⟩, _⟩ := ex2
                    refine St.asrt (F' := .ro (SlL eu8 A9 c9 x2.Image.Data) :: .res (Box g5 30 [.string (⟨#[]⟩), .int .i64 0, .int .i64 0, .int .i64 0, .slice none 0 0]) :: .res (Box g4 30 [.string (⟨#[]⟩), .int .i64 0, .int .i64 0, .int .i64 0, .slice none 0 0]) :: .ro (SlL eu8 A8 c8 x1.Image.Data) :: .res (Box g3 35 (bx_T_Device r4.1 A6 c6 A7 c7)) :: .ro (SlL eu8 A6 c6 r4.1.Slots.e0.Image.Data) :: .ro (SlL eu8 A7 c7 r4.1.Slots.e1.Image.Data) :: .res (Box g2 35 (bx_T_Device r3.2 A4 c4 A5 c5)) :: .ro (SlL eu8 A4 c4 r3.2.Slots.e0.Image.Data) :: .ro (SlL eu8 A5 c5 r3.2.Slots.e1.Image.Data) :: R) (fun _ w => w) ?_
                    refine St.xk (fun _ w => ((.d (.d (.d (.d (.k (.k (.k (.k (.k (.k .z)))))))))) : Keep _ _).sat w) ?_
                    refine hnd1_1 _ _ (A8, c8, A9, c9, g4, g5) ?_ ?_
                    · exact ⟨rfl, rfl, rfl, rfl, rfl, rfl, rfl, rfl, rfl, rfl, rfl, rfl, rfl, rfl, rfl, rfl, rfl, trivial⟩
                    · exact fun _ w => ((.k (.k (.k (.k (.k (.k (.k (.k (.k (.k .z)))))))))) : Keep _ _).sat ((((((((((w.front (.s (.s (.s (.s (.s (.s (.s (.s (.s .z)))))))))).front (.s (.s (.s (.s (.s (.s (.s (.s (.s .z)))))))))).front (.s (.s (.s (.s (.s (.s (.s (.s (.s .z)))))))))).front (.s (.s (.s (.s (.s (.s (.s (.s (.s .z)))))))))).front (.s (.s (.s (.s (.s (.s (.s (.s (.s .z)))))))))).front (.s (.s (.s (.s (.s (.s (.s (.s (.s .z)))))))))).front (.s (.s (.s (.s (.s (.s (.s (.s (.s .z)))))))))).front (.s (.s (.s (.s (.s (.s (.s .z)))))))).front (.s (.s (.s (.s (.s (.s (.s (.s (.s .z)))))))))).front (.s (.s (.s (.s (.s (.s (.s (.s (.s .z))))))))))
                  · refine St.xef ?_
                    refine St.store 0 rfl rfl rfl rfl rfl rfl (.s .z) rfl ?_
                    refine St.xk (fun _ w => ((.d (.d (.d (.k (.k (.k (.k (.k (.k .z))))))))) : Keep _ _).sat w) ?_
                    refine hnd1_2 _ _ (A8, c8, g4, g5) ?_ ?_
                    · exact ⟨rfl, rfl, rfl, rfl, rfl, rfl, rfl, rfl, rfl, rfl, rfl, rfl, rfl, rfl, rfl, rfl, trivial⟩
                    · exact fun _ w => ((.k (.k (.k (.k (.k (.k (.k (.k (.k .z))))))))) : Keep _ _).sat w
              case tnd1_4 =>
                rintro ⟨A8, c8, A9, c9, g5⟩
                refine St.asrt (F' := .res (Box g5 30 [.string (⟨#[]⟩), .int .i64 0, .int .i64 0, .int .i64 0, .slice none 0 0]) :: .ro (SlL eu8 A9 c9 x2.Image.Data) :: .ro (SlL eu8 A8 c8 x1.Image.Data) :: .res (Box g3 35 (bx_T_Device r4.1 A6 c6 A7 c7)) :: .ro (SlL eu8 A6 c6 r4.1.Slots.e0.Image.Data) :: .ro (SlL eu8 A7 c7 r4.1.Slots.e1.Image.Data) :: .res (Box g2 35 (bx_T_Device r3.2 A4 c4 A5 c5)) :: .ro (SlL eu8 A4 c4 r3.2.Slots.e0.Image.Data) :: .ro (SlL eu8 A5 c5 r3.2.Slots.e1.Image.Data) :: R) (fun _ w => w) ?_
                refine St.xef ?_
                refine St.alloc rfl rfl fun g4 => ?_
                refine St.xk (fun _ w => ((.d (.d (.d (.d (.k (.k (.k (.k (.k (.k .z)))))))))) : Keep _ _).sat w) ?_
                refine hnd1_1 _ _ (A8, c8, A9, c9, g4, g5) ?_ ?_
                · exact ⟨rfl, rfl, rfl, rfl, rfl, rfl, rfl, rfl, rfl, rfl, rfl, rfl, rfl, rfl, rfl, rfl, rfl, trivial⟩
                · exact fun _ w => ((.k (.k (.k (.k (.k (.k (.k (.k (.k (.k .z)))))))))) : Keep _ _).sat ((((((((((w.front (.s (.s (.s (.s (.s (.s (.s (.s (.s .z)))))))))).front (.s (.s (.s (.s (.s (.s (.s (.s (.s .z)))))))))).front (.s (.s (.s (.s (.s (.s (.s (.s (.s .z)))))))))).front (.s (.s (.s (.s (.s (.s (.s (.s (.s .z)))))))))).front (.s (.s (.s (.s (.s (.s (.s (.s (.s .z)))))))))).front (.s (.s (.s (.s (.s (.s (.s (.s (.s .z)))))))))).front (.s (.s (.s (.s (.s (.s (.s (.s (.s .z)))))))))).front (.s (.s (.s (.s (.s (.s (.s (.s (.s .z)))))))))).front (.s (.s (.s (.s (.s (.s (.s (.s .z))))))))).front (.s (.s (.s (.s (.s (.s (.s (.s (.s .z))))))))))
            case tnd1_3 =>
              rintro ⟨A8, c8, A9, c9, g4⟩
              refine St.asrt (F' := .res (Box g4 30 [.string (⟨#[]⟩), .int .i64 0, .int .i64 0, .int .i64 0, .slice none 0 0]) :: .ro (SlL eu8 A9 c9 x2.Image.Data) :: .ro (SlL eu8 A8 c8 x1.Image.Data) :: .res (Box g3 35 (bx_T_Device r4.1 A6 c6 A7 c7)) :: .ro (SlL eu8 A6 c6 r4.1.Slots.e0.Image.Data) :: .ro (SlL eu8 A7 c7 r4.1.Slots.e1.Image.Data) :: .res (Box g2 35 (bx_T_Device r3.2 A4 c4 A5 c5)) :: .ro (SlL eu8 A4 c4 r3.2.Slots.e0.Image.Data) :: .ro (SlL eu8 A5 c5 r3.2.Slots.e1.Image.Data) :: R) (fun _ w => w) ?_
              refine St.xef ?_
              refine St.alloc rfl rfl fun g5 => ?_
              refine St.xk (fun _ w => ((.d (.d (.d (.d (.k (.k (.k (.k (.k (.k .z)))))))))) : Keep _ _).sat w) ?_
              refine hnd1_1 _ _ (A8, c8, A9, c9, g4, g5) ?_ ?_
              · exact ⟨rfl, rfl, rfl, rfl, rfl, rfl, rfl, rfl, rfl, rfl, rfl, rfl, rfl, rfl, rfl, rfl, rfl, trivial⟩
              · exact fun _ w => ((.k (.k (.k (.k (.k (.k (.k (.k (.k (.k .z)))))))))) : Keep _ _).sat w
          case tnd1_2 =>
            rintro ⟨A8, c8, g4, g5⟩
            refine St.asrt (F' := .res (Box g4 30 (bx_T_Image x1.Image A8 c8)) :: .res (Box g5 30 [.string (⟨#[]⟩), .int .i64 0, .int .i64 0, .int .i64 0, .slice none 0 0]) :: .ro (SlL eu8 A8 c8 x1.Image.Data) :: .res (Box g3 35 (bx_T_Device r4.1 A6 c6 A7 c7)) :: .ro (SlL eu8 A6 c6 r4.1.Slots.e0.Image.Data) :: .ro (SlL eu8 A7 c7 r4.1.Slots.e1.Image.Data) :: .res (Box g2 35 (bx_T_Device r3.2 A4 c4 A5 c5)) :: .ro (SlL eu8 A4 c4 r3.2.Slots.e0.Image.Data) :: .ro (SlL eu8 A5 c5 r3.2.Slots.e1.Image.Data) :: R) (fun _ w => w) ?_
            refine St.xef ?_
            refine St.ldP (ls := l_T_Slot) 0 [.string r3.2.Name] [.int .i64 r3.2.Active, .int .i64 r3.2.Running, .bool r3.2.Trial] [(r3.2.Slots.e0, ((A4, c4), ())), (r3.2.Slots.e1, ((A5, c5), ()))] (fun ex => .agg (bx_T_Image x2.Image ex.1.1 ex.1.2).toArray) hx2 rfl rfl (.tail _ (.tail _ (.tail _ (.tail _ (.tail _ (.tail _ (.head _))))))) rfl rfl rfl ⟨(.tail _ (.tail _ (.tail _ (.tail _ (.tail _ (.tail _ (.tail _ (.head _)))))))), (.tail _ (.tail _ (.tail _ (.tail _ (.tail _ (.tail _ (.tail _ (.tail _ (.head _))))))))), trivial⟩ rfl (fun _ => rfl) fun ex2 => ?_
            obtain ⟨⟨A9, c9⟩, _⟩ := ex2
            refine St.asrt (F' := .ro (SlL eu8 A9 c9 x2.Image.Data) :: .res (Box g4 30 (bx_T_Image x1.Image A8 c8)) :: .res (Box g5 30 [.string (⟨#[]⟩), .int .i64 0, .int .i64 0, .int .i64 0, .slice none 0 0]) :: .ro (SlL eu8 A8 c8 x1.Image.Data) :: .res (Box g3 35 (bx_T_Device r4.1 A6 c6 A7 c7)) :: .ro (SlL eu8 A6 c6 r4.1.Slots.e0.Image.Data) :: .ro (SlL eu8 A7 c7 r4.1.Slots.e1.Image.Data) :: .res (Box g2 35 (bx_T_Device r3.2 A4 c4 A5 c5)) :: .ro (SlL eu8 A4 c4 r3.2.Slots.e0.Image.Data) :: .ro (SlL eu8 A5 c5 r3.2.Slots.e1.Image.Data) :: R) (fun _ w => w) ?_
            refine St.xk (fun _ w => ((.d (.d (.d (.d (.k (.k (.k (.k (.k (.k .z)))))))))) : Keep _ _).sat w) ?_
            refine hnd1_0 _ _ (A8, c8, A9, c9, g4, g5) ?_ ?_
            · exact ⟨rfl, rfl, rfl, rfl, rfl, rfl, rfl, rfl, rfl, rfl, rfl, rfl, rfl, rfl, rfl, rfl, rfl, trivial⟩
            · exact fun _ w => ((.k (.k (.k (.k (.k (.k (.k (.k (.k (.k .z)))))))))) : Keep _ _).sat ((((((((((w.front (.s (.s (.s (.s (.s (.s (.s (.s (.s .z)))))))))).front (.s (.s (.s (.s (.s (.s (.s (.s (.s .z)))))))))).front (.s (.s (.s (.s (.s (.s (.s (.s (.s .z)))))))))).front (.s (.s (.s (.s (.s (.s (.s (.s (.s .z)))))))))).front (.s (.s (.s (.s (.s (.s (.s (.s (.s .z)))))))))).front (.s (.s (.s (.s (.s (.s (.s (.s (.s .z)))))))))).front (.s (.s (.s (.s (.s (.s (.s (.s (.s .z)))))))))).front (.s (.s (.s (.s (.s (.s (.s .z)))))))).front (.s (.s (.s (.s (.s (.s (.s (.s (.s .z)))))))))).front (.s (.s (.s (.s (.s (.s (.s (.s (.s .z))))))))))
        case tnd1_1 =>
          rintro ⟨A8, c8, A9, c9, g4, g5⟩
          refine St.asrt (F' := .res (Box g5 30 [.string (⟨#[]⟩), .int .i64 0, .int .i64 0, .int .i64 0, .slice none 0 0]) :: .res (Box g4 30 [.string (⟨#[]⟩), .int .i64 0, .int .i64 0, .int .i64 0, .slice none 0 0]) :: .ro (SlL eu8 A9 c9 x2.Image.Data) :: .ro (SlL eu8 A8 c8 x1.Image.Data) :: .res (Box g3 35 (bx_T_Device r4.1 A6 c6 A7 c7)) :: .ro (SlL eu8 A6 c6 r4.1.Slots.e0.Image.Data) :: .ro (SlL eu8 A7 c7 r4.1.Slots.e1.Image.Data) :: .res (Box g2 35 (bx_T_Device r3.2 A4 c4 A5 c5)) :: .ro (SlL eu8 A4 c4 r3.2.Slots.e0.Image.Data) :: .ro (SlL eu8 A5 c5 r3.2.Slots.e1.Image.Data) :: R) (fun _ w => w) ?_
          refine St.xef ?_
          refine St.store 0 rfl rfl rfl rfl rfl rfl (.s .z) rfl ?_
          refine St.xk (fun _ w => ((.d (.d (.d (.d (.k (.k (.k (.k (.k (.k .z)))))))))) : Keep _ _).sat w) ?_
          refine hnd1_0 _ _ (A8, c8, A9, c9, g4, g5) ?_ ?_
          · exact ⟨rfl, rfl, rfl, rfl, rfl, rfl, rfl, rfl, rfl, rfl, rfl, rfl, rfl, rfl, rfl, rfl, rfl, trivial⟩
          · exact fun _ w => ((.k (.k (.k (.k (.k (.k (.k (.k (.k (.k .z)))))))))) : Keep _ _).sat w
      case tnd1_0 =>
        rintro ⟨A8, c8, A9, c9, g4, g5⟩
        refine St.asrt (F' := .res (Box g4 30 (bx_T_Image x1.Image A8 c8)) :: .res (Box g5 30 [.string (⟨#[]⟩), .int .i64 0, .int .i64 0, .int .i64 0, .slice none 0 0]) :: .ro (SlL eu8 A9 c9 x2.Image.Data) :: .ro (SlL eu8 A8 c8 x1.Image.Data) :: .res (Box g3 35 (bx_T_Device r4.1 A6 c6 A7 c7)) :: .ro (SlL eu8 A6 c6 r4.1.Slots.e0.Image.Data) :: .ro (SlL eu8 A7 c7 r4.1.Slots.e1.Image.Data) :: .res (Box g2 35 (bx_T_Device r3.2 A4 c4 A5 c5)) :: .ro (SlL eu8 A4 c4 r3.2.Slots.e0.Image.Data) :: .ro (SlL eu8 A5 c5 r3.2.Slots.e1.Image.Data) :: R) (fun _ w => w) ?_
        refine St.xef ?_
        refine St.store 0 rfl rfl rfl rfl rfl rfl (.s .z) rfl ?_
        refine St.xk (fun _ w => ((.d (.d (.d (.d (.k (.k (.k (.k (.k (.k .z)))))))))) : Keep _ _).sat w) ?_
        refine St.xdone ?_
        refine St.thenN ?_
        refine St.prune (Γ' := [(5, _), (7, _), (8, _)]) ⟨rfl, rfl, rfl, trivial⟩ (.k (.k (.k (.k (.k (.k (.k (.d (.d (.d .z)))))))))) ?_
        refine St.seq ?_
        refine St.region ?_
        refine St.loadB 0 rfl rfl (.tail _ (.tail _ (.tail _ (.tail _ (.head _))))) rfl rfl ?_
        obtain ⟨r5, hr5, h⟩ := bnd_e h
        refine St.call (c_bank_Boot hr5) ent20 rfl rfl rfl (fun _ w => Sat.dup (G := [.ro (SlL eu8 A6 c6 r4.1.Slots.e0.Image.Data), .ro (SlL eu8 A7 c7 r4.1.Slots.e1.Image.Data)]) rfl ⟨(.tail _ (.tail _ (.tail _ (.tail _ (.tail _ (.head _)))))), (.tail _ (.tail _ (.tail _ (.tail _ (.tail _ (.tail _ (.head _))))))), trivial⟩ w) ?_
        rintro _ _ ⟨A10, c10, A11, c11, rfl, rfl⟩
        refine St.asrt (F' := .ro (SlL eu8 A10 c10 r5.Slots.e0.Image.Data) :: .ro (SlL eu8 A11 c11 r5.Slots.e1.Image.Data) :: .res (Box g5 30 (bx_T_Image x2.Image A9 c9)) :: .res (Box g4 30 (bx_T_Image x1.Image A8 c8)) :: .ro (SlL eu8 A9 c9 x2.Image.Data) :: .ro (SlL eu8 A8 c8 x1.Image.Data) :: .res (Box g3 35 (bx_T_Device r4.1 A6 c6 A7 c7)) :: .ro (SlL eu8 A6 c6 r4.1.Slots.e0.Image.Data) :: .ro (SlL eu8 A7 c7 r4.1.Slots.e1.Image.Data) :: R) (fun _ w => w) ?_
        refine St.alloc rfl rfl fun g6 => ?_
        refine St.store 0 rfl rfl rfl rfl rfl rfl .z rfl ?_
        refine St.done ?_
        refine St.thenN ?_
        refine St.prune (Γ' := [(7, _), (8, _), (9, _)]) ⟨rfl, rfl, rfl, trivial⟩ (.k (.k (.k (.k (.k (.k (.k (.d (.d (.d .z)))))))))) ?_
        refine St.seq ?_
        refine St.region ?_
        refine St.loadB 0 rfl rfl (.head _) rfl rfl ?_
        obtain ⟨r6, hr6, h⟩ := bnd_e h
        refine St.call (c_bank_Boot hr6) ent20 rfl rfl rfl (fun _ w => Sat.dup (G := [.ro (SlL eu8 A10 c10 r5.Slots.e0.Image.Data), .ro (SlL eu8 A11 c11 r5.Slots.e1.Image.Data)]) rfl ⟨(.tail _ (.head _)), (.tail _ (.tail _ (.head _))), trivial⟩ w) ?_
        rintro _ _ ⟨A12, c12, A13, c13, rfl, rfl⟩
        refine St.asrt (F' := .ro (SlL eu8 A12 c12 r6.Slots.e0.Image.Data) :: .ro (SlL eu8 A13 c13 r6.Slots.e1.Image.Data) :: .res (Box g6 35 (bx_T_Device r5 A10 c10 A11 c11)) :: .ro (SlL eu8 A10 c10 r5.Slots.e0.Image.Data) :: .ro (SlL eu8 A11 c11 r5.Slots.e1.Image.Data) :: .res (Box g5 30 (bx_T_Image x2.Image A9 c9)) :: .res (Box g4 30 (bx_T_Image x1.Image A8 c8)) :: .ro (SlL eu8 A9 c9 x2.Image.Data) :: .ro (SlL eu8 A8 c8 x1.Image.Data) :: R) (fun _ w => w) ?_
        refine St.alloc rfl rfl fun g7 => ?_
        refine St.store 0 rfl rfl rfl rfl rfl rfl .z rfl ?_
        refine St.done ?_
        refine St.thenN ?_
        refine St.prune (Γ' := [(7, _), (8, _), (9, _), (10, _)]) ⟨rfl, rfl, rfl, rfl, trivial⟩ (.k (.k (.k (.k (.k (.k (.k (.k (.k (.k .z)))))))))) ?_
        refine St.seq ?_
        refine St.region ?_
        refine St.loadB 0 rfl rfl (.tail _ (.tail _ (.tail _ (.head _)))) rfl rfl ?_
        obtain ⟨r7, hr7, h⟩ := bnd_e h
        refine St.call (c_bank_Confirm hr7) ent25 rfl rfl rfl (fun _ w => Sat.dup (G := [.ro (SlL eu8 A10 c10 r5.Slots.e0.Image.Data), .ro (SlL eu8 A11 c11 r5.Slots.e1.Image.Data)]) rfl ⟨(.tail _ (.tail _ (.tail _ (.tail _ (.head _))))), (.tail _ (.tail _ (.tail _ (.tail _ (.tail _ (.head _)))))), trivial⟩ w) ?_
        rintro _ _ ⟨A14, c14, A15, c15, rfl, rfl⟩
        refine St.asrt (F' := .ro (SlL eu8 A14 c14 r7.1.Slots.e0.Image.Data) :: .ro (SlL eu8 A15 c15 r7.1.Slots.e1.Image.Data) :: .res (Box g7 35 (bx_T_Device r6 A12 c12 A13 c13)) :: .ro (SlL eu8 A12 c12 r6.Slots.e0.Image.Data) :: .ro (SlL eu8 A13 c13 r6.Slots.e1.Image.Data) :: .res (Box g6 35 (bx_T_Device r5 A10 c10 A11 c11)) :: .ro (SlL eu8 A10 c10 r5.Slots.e0.Image.Data) :: .ro (SlL eu8 A11 c11 r5.Slots.e1.Image.Data) :: .res (Box g5 30 (bx_T_Image x2.Image A9 c9)) :: .res (Box g4 30 (bx_T_Image x1.Image A8 c8)) :: .ro (SlL eu8 A9 c9 x2.Image.Data) :: .ro (SlL eu8 A8 c8 x1.Image.Data) :: R) (fun _ w => w) ?_
        iterate 3 refine St.p rfl rfl ?_
        refine St.alloc rfl rfl fun g8 => ?_
        refine St.store 0 rfl rfl rfl rfl rfl rfl .z rfl ?_
        refine St.p rfl rfl ?_
        refine St.done ?_
        refine St.thenN ?_
        refine St.prune (Γ' := [(7, _), (8, _), (9, _), (10, _), (11, _), (12, _)]) ⟨rfl, rfl, rfl, rfl, rfl, rfl, trivial⟩ (.k (.k (.k (.k (.k (.k (.k (.k (.k (.k (.k (.k (.k .z))))))))))))) ?_
        refine St.seq ?_
        refine St.region ?_
        refine St.loadB 0 rfl rfl (.head _) rfl rfl ?_
        obtain ⟨r8, hr8, h⟩ := bnd_e h
        refine St.call (c_bank_Boot hr8) ent20 rfl rfl rfl (fun _ w => Sat.dup (G := [.ro (SlL eu8 A14 c14 r7.1.Slots.e0.Image.Data), .ro (SlL eu8 A15 c15 r7.1.Slots.e1.Image.Data)]) rfl ⟨(.tail _ (.head _)), (.tail _ (.tail _ (.head _))), trivial⟩ w) ?_
        rintro _ _ ⟨A16, c16, A17, c17, rfl, rfl⟩
        refine St.asrt (F' := .ro (SlL eu8 A16 c16 r8.Slots.e0.Image.Data) :: .ro (SlL eu8 A17 c17 r8.Slots.e1.Image.Data) :: .res (Box g8 35 (bx_T_Device r7.1 A14 c14 A15 c15)) :: .ro (SlL eu8 A14 c14 r7.1.Slots.e0.Image.Data) :: .ro (SlL eu8 A15 c15 r7.1.Slots.e1.Image.Data) :: .res (Box g7 35 (bx_T_Device r6 A12 c12 A13 c13)) :: .ro (SlL eu8 A12 c12 r6.Slots.e0.Image.Data) :: .ro (SlL eu8 A13 c13 r6.Slots.e1.Image.Data) :: .res (Box g6 35 (bx_T_Device r5 A10 c10 A11 c11)) :: .ro (SlL eu8 A10 c10 r5.Slots.e0.Image.Data) :: .ro (SlL eu8 A11 c11 r5.Slots.e1.Image.Data) :: .res (Box g5 30 (bx_T_Image x2.Image A9 c9)) :: .res (Box g4 30 (bx_T_Image x1.Image A8 c8)) :: .ro (SlL eu8 A9 c9 x2.Image.Data) :: .ro (SlL eu8 A8 c8 x1.Image.Data) :: R) (fun _ w => w) ?_
        obtain ⟨r9, hr9, h⟩ := bnd_e h
        refine St.call (c_bank_Boot hr9) ent20 rfl rfl rfl (fun _ w => Sat.dup (G := [.ro (SlL eu8 A16 c16 r8.Slots.e0.Image.Data), .ro (SlL eu8 A17 c17 r8.Slots.e1.Image.Data)]) rfl ⟨(.head _), (.tail _ (.head _)), trivial⟩ w) ?_
        rintro _ _ ⟨A18, c18, A19, c19, rfl, rfl⟩
        refine St.asrt (F' := .ro (SlL eu8 A18 c18 r9.Slots.e0.Image.Data) :: .ro (SlL eu8 A19 c19 r9.Slots.e1.Image.Data) :: .ro (SlL eu8 A16 c16 r8.Slots.e0.Image.Data) :: .ro (SlL eu8 A17 c17 r8.Slots.e1.Image.Data) :: .res (Box g8 35 (bx_T_Device r7.1 A14 c14 A15 c15)) :: .ro (SlL eu8 A14 c14 r7.1.Slots.e0.Image.Data) :: .ro (SlL eu8 A15 c15 r7.1.Slots.e1.Image.Data) :: .res (Box g7 35 (bx_T_Device r6 A12 c12 A13 c13)) :: .ro (SlL eu8 A12 c12 r6.Slots.e0.Image.Data) :: .ro (SlL eu8 A13 c13 r6.Slots.e1.Image.Data) :: .res (Box g6 35 (bx_T_Device r5 A10 c10 A11 c11)) :: .ro (SlL eu8 A10 c10 r5.Slots.e0.Image.Data) :: .ro (SlL eu8 A11 c11 r5.Slots.e1.Image.Data) :: .res (Box g5 30 (bx_T_Image x2.Image A9 c9)) :: .res (Box g4 30 (bx_T_Image x1.Image A8 c8)) :: .ro (SlL eu8 A9 c9 x2.Image.Data) :: .ro (SlL eu8 A8 c8 x1.Image.Data) :: R) (fun _ w => w) ?_
        refine St.store 0 rfl rfl rfl rfl rfl rfl (.s (.s (.s (.s .z)))) rfl ?_
        refine St.done ?_
        refine St.thenN ?_
        refine St.prune (Γ' := [(7, _), (8, _), (9, _), (10, _), (11, _), (12, _)]) ⟨rfl, rfl, rfl, rfl, rfl, rfl, trivial⟩ (.k (.k (.k (.d (.d (.d (.d (.k (.k (.k (.k (.k (.k (.k (.k (.k (.k .z))))))))))))))))) ?_
        refine St.seq ?_
        obtain ⟨o1, hj1, h⟩ := bnd_e h
        refine St.cutE (fun (e1 : Unit) => [(2, .bool o1)]) (fun e1 => R) ?_ ?_
        · refine St.regionX (iL [(.fl, 0), (.fl, 1), (.fl, 2), (.fl, 3), (.fx, 4), (.fl, 5), (.fl, 9), (.ef, 6), (.fl, 7), (.ef, 8), (.ef, 10), (.fl, 11), (.fl, 12), (.fl, 13), (.fx, 14), (.fl, 15), (.fl, 19), (.ef, 16), (.fl, 17), (.ef, 18), (.ef, 20), (.fl, 21), (.fl, 22), (.fl, 23), (.fx, 24), (.fl, 25), (.fl, 29), (.ef, 26), (.fl, 27), (.ef, 28), (.ef, 30), (.fl, 31), (.fl, 32), (.fl, 33), (.fx, 34), (.ef, 35), (.ef, 36), (.fl, 37), (.fl, 38)] .nil) (.res (Box g8 35 (bx_T_Device r9 A18 c18 A19 c19)) :: .ro (SlL eu8 A18 c18 r9.Slots.e0.Image.Data) :: .ro (SlL eu8 A19 c19 r9.Slots.e1.Image.Data) :: .res (Box g7 35 (bx_T_Device r6 A12 c12 A13 c13)) :: .ro (SlL eu8 A12 c12 r6.Slots.e0.Image.Data) :: .ro (SlL eu8 A13 c13 r6.Slots.e1.Image.Data) :: .res (Box g6 35 (bx_T_Device r5 A10 c10 A11 c11)) :: .ro (SlL eu8 A10 c10 r5.Slots.e0.Image.Data) :: .ro (SlL eu8 A11 c11 r5.Slots.e1.Image.Data) :: .res (Box g5 30 (bx_T_Image x2.Image A9 c9)) :: .res (Box g4 30 (bx_T_Image x1.Image A8 c8)) :: .ro (SlL eu8 A9 c9 x2.Image.Data) :: .ro (SlL eu8 A8 c8 x1.Image.Data) :: R) mixed (by kernel_rfl) (fun _ w => ((.k (.k (.k (.k (.k (.k (.k (.k (.k (.k (.k (.k (.k .z))))))))))))) : Keep _ _).sat w) ?_
          refine St.xfl (fun _ h => h) (Rd.p rfl) rfl ?_
          refine St.xfl (fun _ h => h) (Rd.p rfl) rfl ?_
          refine St.xfl (fun _ h => h) (Rd.p rfl) rfl ?_
          refine St.splitB (dj := 53) _ rfl (fun hb3 => ?_) (fun hb3 => ?_)
          · replace hj1 := bif_t hb3 hj1
            refine St.xgOn (dj := 53) rfl rfl ?_
            refine St.xfl (fun _ h => h) (Rd.p rfl) rfl ?_
            refine St.xgOn (dj := 53) rfl rfl ?_
            refine St.xfx (Rd.loadB 14 rfl (.tail _ (.tail _ (.tail _ (.tail _ (.tail _ (.tail _ (.head _))))))) rfl rfl) rfl ?_
            refine St.xgOn (dj := 53) rfl rfl ?_
            refine St.xfl (fun _ h => h) (Rd.p rfl) rfl ?_
            refine St.xgOn (dj := 53) rfl rfl ?_
            refine St.xfl (fun _ h => h) (Rd.loadB 0 rfl (.tail _ (.tail _ (.tail _ (.tail _ (.tail _ (.tail _ (.tail _ (.tail _ (.tail _ (.head _)))))))))) rfl rfl) rfl ?_
            refine St.xgOn (dj := 53) rfl rfl ?_
            refine St.xef ?_
            obtain ⟨x3, hx3, hj1⟩ := bnd_e hj1
            refine St.ixP (sz := 6) hx3 rfl rfl rfl rfl rfl rfl rfl rfl ?_
            refine St.xk (fun _ w => ((.k (.k (.k (.k (.k (.k (.k (.k (.k (.k (.k (.k (.k .z))))))))))))) : Keep _ _).sat w) ?_
            refine St.xgOn (dj := 53) rfl rfl ?_
            refine St.xfl (fun _ h => h) (Rd.p rfl) rfl ?_
            refine St.xgOn (dj := 53) rfl rfl ?_
            refine St.xef ?_
            refine St.ldP (ls := l_T_Slot) 0 [.string r5.Name] [.int .i64 r5.Active, .int .i64 r5.Running, .bool r5.Trial] [(r5.Slots.e0, ((A10, c10), ())), (r5.Slots.e1, ((A11, c11), ()))] (fun ex => .agg (bx_T_Image x3.Image ex.1.1 ex.1.2).toArray) hx3 rfl rfl (.tail _ (.tail _ (.tail _ (.tail _ (.tail _ (.tail _ (.head _))))))) rfl rfl rfl ⟨(.tail _ (.tail _ (.tail _ (.tail _ (.tail _ (.tail _ (.tail _ (.head _)))))))), (.tail _ (.tail _ (.tail _ (.tail _ (.tail _ (.tail _ (.tail _ (.tail _ (.head _))))))))), trivial⟩ rfl (fun _ => rfl) fun ex3 => ?_
            obtain ⟨⟨A20, c20⟩, _⟩ := ex3
            refine St.asrt (F' := .ro (SlL eu8 A20 c20 x3.Image.Data) :: .res (Box g8 35 (bx_T_Device r9 A18 c18 A19 c19)) :: .ro (SlL eu8 A18 c18 r9.Slots.e0.Image.Data) :: .ro (SlL eu8 A19 c19 r9.Slots.e1.Image.Data) :: .res (Box g7 35 (bx_T_Device r6 A12 c12 A13 c13)) :: .ro (SlL eu8 A12 c12 r6.Slots.e0.Image.Data) :: .ro (SlL eu8 A13 c13 r6.Slots.e1.Image.Data) :: .res (Box g6 35 (bx_T_Device r5 A10 c10 A11 c11)) :: .ro (SlL eu8 A10 c10 r5.Slots.e0.Image.Data) :: .ro (SlL eu8 A11 c11 r5.Slots.e1.Image.Data) :: .res (Box g5 30 (bx_T_Image x2.Image A9 c9)) :: .res (Box g4 30 (bx_T_Image x1.Image A8 c8)) :: .ro (SlL eu8 A9 c9 x2.Image.Data) :: .ro (SlL eu8 A8 c8 x1.Image.Data) :: R) (fun _ w => w) ?_
            refine St.xk (fun _ w => ((.d (.k (.k (.k (.k (.k (.k (.k (.k (.k (.k (.k (.k (.k .z)))))))))))))) : Keep _ _).sat w) ?_
            refine St.xgOn (dj := 53) rfl rfl ?_
            refine St.xef ?_
            obtain ⟨r10, hr10, hj1⟩ := bnd_e hj1
            refine St.callV (c_ref28_SameImage hr10) ent17 rfl rfl rfl rfl ⟨(.head _), (.tail _ (.tail _ (.tail _ (.tail _ (.tail _ (.tail _ (.tail _ (.tail _ (.tail _ (.tail _ (.tail _ (.tail _ (.head _))))))))))))), trivial⟩ ?_
            refine St.xk (fun _ w => ((.d (.k (.k (.k (.k (.k (.k (.k (.k (.k (.k (.k (.k (.k .z)))))))))))))) : Keep _ _).sat w) ?_
            refine St.xfl (fun _ h => h) (Rd.p rfl) rfl ?_
            refine St.xfl (fun _ h => h) (Rd.p rfl) rfl ?_
            refine St.splitB (dj := 63) _ rfl (fun hb4 => ?_) (fun hb4 => ?_)
            · replace hj1 := bif_t hb4 hj1
              refine St.xgOn (dj := 63) rfl rfl ?_
              refine St.xfl (fun _ h => h) (Rd.p rfl) rfl ?_
              refine St.xgOn (dj := 63) rfl rfl ?_
              refine St.xfx (Rd.loadB 14 rfl (.tail _ (.tail _ (.tail _ (.tail _ (.head _))))) rfl rfl) rfl ?_
              refine St.xgOn (dj := 63) rfl rfl ?_
              refine St.xfl (fun _ h => h) (Rd.p rfl) rfl ?_
              refine St.xgOn (dj := 63) rfl rfl ?_
              refine St.xfl (fun _ h => h) (Rd.loadB 0 rfl (.tail _ (.tail _ (.tail _ (.tail _ (.tail _ (.tail _ (.tail _ (.tail _ (.tail _ (.tail _ (.head _))))))))))) rfl rfl) rfl ?_
              refine St.xgOn (dj := 63) rfl rfl ?_
              refine St.xef ?_
              obtain ⟨x4, hx4, hj1⟩ := bnd_e hj1
              refine St.ixP (sz := 6) hx4 rfl rfl rfl rfl rfl rfl rfl rfl ?_
              refine St.xk (fun _ w => ((.d (.k (.k (.k (.k (.k (.k (.k (.k (.k (.k (.k (.k (.k .z)))))))))))))) : Keep _ _).sat w) ?_
              refine St.xgOn (dj := 63) rfl rfl ?_
              refine St.xfl (fun _ h => h) (Rd.p rfl) rfl ?_
              refine St.xgOn (dj := 63) rfl rfl ?_
              refine St.xef ?_
              refine St.ldP (ls := l_T_Slot) 0 [.string r6.Name] [.int .i64 r6.Active, .int .i64 r6.Running, .bool r6.Trial] [(r6.Slots.e0, ((A12, c12), ())), (r6.Slots.e1, ((A13, c13), ()))] (fun ex => .agg (bx_T_Image x4.Image ex.1.1 ex.1.2).toArray) hx4 rfl rfl (.tail _ (.tail _ (.tail _ (.tail _ (.head _))))) rfl rfl rfl ⟨(.tail _ (.tail _ (.tail _ (.tail _ (.tail _ (.head _)))))), (.tail _ (.tail _ (.tail _ (.tail _ (.tail _ (.tail _ (.head _))))))), trivial⟩ rfl (fun _ => rfl) fun ex4 => ?_
              obtain ⟨⟨A21, c21⟩, _⟩ := ex4
              refine St.asrt (F' := .ro (SlL eu8 A21 c21 x4.Image.Data) :: .ro (SlL eu8 A20 c20 x3.Image.Data) :: .res (Box g8 35 (bx_T_Device r9 A18 c18 A19 c19)) :: .ro (SlL eu8 A18 c18 r9.Slots.e0.Image.Data) :: .ro (SlL eu8 A19 c19 r9.Slots.e1.Image.Data) :: .res (Box g7 35 (bx_T_Device r6 A12 c12 A13 c13)) :: .ro (SlL eu8 A12 c12 r6.Slots.e0.Image.Data) :: .ro (SlL eu8 A13 c13 r6.Slots.e1.Image.Data) :: .res (Box g6 35 (bx_T_Device r5 A10 c10 A11 c11)) :: .ro (SlL eu8 A10 c10 r5.Slots.e0.Image.Data) :: .ro (SlL eu8 A11 c11 r5.Slots.e1.Image.Data) :: .res (Box g5 30 (bx_T_Image x2.Image A9 c9)) :: .res (Box g4 30 (bx_T_Image x1.Image A8 c8)) :: .ro (SlL eu8 A9 c9 x2.Image.Data) :: .ro (SlL eu8 A8 c8 x1.Image.Data) :: R) (fun _ w => w) ?_
              refine St.xk (fun _ w => ((.d (.d (.k (.k (.k (.k (.k (.k (.k (.k (.k (.k (.k (.k (.k .z))))))))))))))) : Keep _ _).sat w) ?_
              refine St.xgOn (dj := 63) rfl rfl ?_
              refine St.xef ?_
              obtain ⟨r11, hr11, hj1⟩ := bnd_e hj1
              refine St.callV (c_ref28_SameImage hr11) ent17 rfl rfl rfl rfl ⟨(.head _), (.tail _ (.tail _ (.tail _ (.tail _ (.tail _ (.tail _ (.tail _ (.tail _ (.tail _ (.tail _ (.tail _ (.tail _ (.tail _ (.tail _ (.head _))))))))))))))), trivial⟩ ?_
              refine St.xk (fun _ w => ((.d (.d (.k (.k (.k (.k (.k (.k (.k (.k (.k (.k (.k (.k (.k .z))))))))))))))) : Keep _ _).sat w) ?_
              refine St.xfl (fun _ h => h) (Rd.p rfl) rfl ?_
              refine St.xfl (fun _ h => h) (Rd.p rfl) rfl ?_
              refine St.splitB (dj := 73) _ rfl (fun hb5 => ?_) (fun hb5 => ?_)
              · replace hj1 := bif_t hb5 hj1
                refine St.xgOn (dj := 73) rfl rfl ?_
                refine St.xfl (fun _ h => h) (Rd.p rfl) rfl ?_
                refine St.xgOn (dj := 73) rfl rfl ?_
                refine St.xfx (Rd.loadB 14 rfl (.tail _ (.tail _ (.head _))) rfl rfl) rfl ?_
                refine St.xgOn (dj := 73) rfl rfl ?_
                refine St.xfl (fun _ h => h) (Rd.p rfl) rfl ?_
                refine St.xgOn (dj := 73) rfl rfl ?_
                refine St.xfl (fun _ h => h) (Rd.loadB 0 rfl (.tail _ (.tail _ (.tail _ (.tail _ (.tail _ (.tail _ (.tail _ (.tail _ (.tail _ (.head _)))))))))) rfl rfl) rfl ?_
                refine St.xgOn (dj := 73) rfl rfl ?_
                refine St.xef ?_
                obtain ⟨x5, hx5, hj1⟩ := bnd_e hj1
                refine St.ixP (sz := 6) hx5 rfl rfl rfl rfl rfl rfl rfl rfl ?_
                refine St.xk (fun _ w => ((.d (.d (.k (.k (.k (.k (.k (.k (.k (.k (.k (.k (.k (.k (.k .z))))))))))))))) : Keep _ _).sat w) ?_
                refine St.xgOn (dj := 73) rfl rfl ?_
                refine St.xfl (fun _ h => h) (Rd.p rfl) rfl ?_
                refine St.xgOn (dj := 73) rfl rfl ?_
                refine St.xef ?_
                refine St.ldP (ls := l_T_Slot) 0 [.string r9.Name] [.int .i64 r9.Active, .int .i64 r9.Running, .bool r9.Trial] [(r9.Slots.e0, ((A18, c18), ())), (r9.Slots.e1, ((A19, c19), ()))] (fun ex => .agg (bx_T_Image x5.Image ex.1.1 ex.1.2).toArray) hx5 rfl rfl (.tail _ (.tail _ (.head _))) rfl rfl rfl ⟨(.tail _ (.tail _ (.tail _ (.head _)))), (.tail _ (.tail _ (.tail _ (.tail _ (.head _))))), trivial⟩ rfl (fun _ => rfl) fun ex5 => ?_
                obtain ⟨⟨A22, c22⟩, _⟩ := ex5
                refine St.asrt (F' := .ro (SlL eu8 A22 c22 x5.Image.Data) :: .ro (SlL eu8 A21 c21 x4.Image.Data) :: .ro (SlL eu8 A20 c20 x3.Image.Data) :: .res (Box g8 35 (bx_T_Device r9 A18 c18 A19 c19)) :: .ro (SlL eu8 A18 c18 r9.Slots.e0.Image.Data) :: .ro (SlL eu8 A19 c19 r9.Slots.e1.Image.Data) :: .res (Box g7 35 (bx_T_Device r6 A12 c12 A13 c13)) :: .ro (SlL eu8 A12 c12 r6.Slots.e0.Image.Data) :: .ro (SlL eu8 A13 c13 r6.Slots.e1.Image.Data) :: .res (Box g6 35 (bx_T_Device r5 A10 c10 A11 c11)) :: .ro (SlL eu8 A10 c10 r5.Slots.e0.Image.Data) :: .ro (SlL eu8 A11 c11 r5.Slots.e1.Image.Data) :: .res (Box g5 30 (bx_T_Image x2.Image A9 c9)) :: .res (Box g4 30 (bx_T_Image x1.Image A8 c8)) :: .ro (SlL eu8 A9 c9 x2.Image.Data) :: .ro (SlL eu8 A8 c8 x1.Image.Data) :: R) (fun _ w => w) ?_
                refine St.xk (fun _ w => ((.d (.d (.d (.k (.k (.k (.k (.k (.k (.k (.k (.k (.k (.k (.k (.k .z)))))))))))))))) : Keep _ _).sat w) ?_
                refine St.xgOn (dj := 73) rfl rfl ?_
                refine St.xef ?_
                obtain ⟨r12, hr12, hj1⟩ := bnd_e hj1
                refine St.callV (c_ref28_SameImage hr12) ent17 rfl rfl rfl rfl ⟨(.head _), (.tail _ (.tail _ (.tail _ (.tail _ (.tail _ (.tail _ (.tail _ (.tail _ (.tail _ (.tail _ (.tail _ (.tail _ (.tail _ (.tail _ (.head _))))))))))))))), trivial⟩ ?_
                refine St.xk (fun _ w => ((.d (.d (.d (.k (.k (.k (.k (.k (.k (.k (.k (.k (.k (.k (.k (.k .z)))))))))))))))) : Keep _ _).sat w) ?_
                refine St.xfl (fun _ h => h) (Rd.p rfl) rfl ?_
                refine St.xfl (fun _ h => h) (Rd.p rfl) rfl ?_
                refine St.splitB (dj := 83) _ rfl (fun hb6 => ?_) (fun hb6 => ?_)
                · replace hj1 := bif_t hb6 hj1
                  refine St.xgOn (dj := 83) rfl rfl ?_
                  refine St.xfl (fun _ h => h) (Rd.loadB 0 rfl (.tail _ (.tail _ (.tail _ (.head _)))) rfl rfl) rfl ?_
                  refine St.xgOn (dj := 83) rfl rfl ?_
                  refine St.xfx (Rd.loadB 0 rfl (.tail _ (.tail _ (.tail _ (.tail _ (.tail _ (.tail _ (.head _))))))) rfl rfl) rfl ?_
                  refine St.xgOn (dj := 83) rfl rfl ?_
                  refine St.xef ?_
                  obtain ⟨r13, hr13, hj1⟩ := bnd_e hj1
                  refine St.call (c_bank_Boot hr13) ent20 rfl rfl rfl (fun _ w => Sat.dup (G := [.ro (SlL eu8 A12 c12 r6.Slots.e0.Image.Data), .ro (SlL eu8 A13 c13 r6.Slots.e1.Image.Data)]) rfl ⟨(.tail _ (.tail _ (.tail _ (.tail _ (.tail _ (.tail _ (.tail _ (.head _)))))))), (.tail _ (.tail _ (.tail _ (.tail _ (.tail _ (.tail _ (.tail _ (.tail _ (.head _))))))))), trivial⟩ w) ?_
                  rintro _ _ ⟨A23, c23, A24, c24, rfl, rfl⟩
                  refine St.asrt (F' := .ro (SlL eu8 A23 c23 r13.Slots.e0.Image.Data) :: .ro (SlL eu8 A24 c24 r13.Slots.e1.Image.Data) :: .ro (SlL eu8 A22 c22 x5.Image.Data) :: .ro (SlL eu8 A21 c21 x4.Image.Data) :: .ro (SlL eu8 A20 c20 x3.Image.Data) :: .res (Box g8 35 (bx_T_Device r9 A18 c18 A19 c19)) :: .ro (SlL eu8 A18 c18 r9.Slots.e0.Image.Data) :: .ro (SlL eu8 A19 c19 r9.Slots.e1.Image.Data) :: .res (Box g7 35 (bx_T_Device r6 A12 c12 A13 c13)) :: .ro (SlL eu8 A12 c12 r6.Slots.e0.Image.Data) :: .ro (SlL eu8 A13 c13 r6.Slots.e1.Image.Data) :: .res (Box g6 35 (bx_T_Device r5 A10 c10 A11 c11)) :: .ro (SlL eu8 A10 c10 r5.Slots.e0.Image.Data) :: .ro (SlL eu8 A11 c11 r5.Slots.e1.Image.Data) :: .res (Box g5 30 (bx_T_Image x2.Image A9 c9)) :: .res (Box g4 30 (bx_T_Image x1.Image A8 c8)) :: .ro (SlL eu8 A9 c9 x2.Image.Data) :: .ro (SlL eu8 A8 c8 x1.Image.Data) :: R) (fun _ w => w) ?_
                  refine St.xk (fun _ w => ((.d (.d (.d (.d (.d (.k (.k (.k (.k (.k (.k (.k (.k (.k (.k (.k (.k (.k .z)))))))))))))))))) : Keep _ _).sat w) ?_
                  refine St.xgOn (dj := 83) rfl rfl ?_
                  refine St.xef ?_
                  obtain ⟨r14, hr14, hj1⟩ := bnd_e hj1
                  refine St.callV (c_ref29_Same hr14) ent26 rfl rfl rfl rfl ⟨(.tail _ (.tail _ (.tail _ (.tail _ (.tail _ (.tail _ (.tail _ (.tail _ (.tail _ (.head _)))))))))), (.tail _ (.tail _ (.tail _ (.tail _ (.tail _ (.tail _ (.tail _ (.tail _ (.tail _ (.tail _ (.head _))))))))))), (.head _), (.tail _ (.head _)), trivial⟩ ?_
                  refine St.xk (fun _ w => ((.d (.d (.d (.d (.d (.k (.k (.k (.k (.k (.k (.k (.k (.k (.k (.k (.k (.k .z)))))))))))))))))) : Keep _ _).sat w) ?_
                  refine St.xfl (fun _ h => h) (Rd.p rfl) rfl ?_
                  refine St.xfl (fun _ h => h) (Rd.p rfl) rfl ?_
                  refine St.xdone ?_
                  injection hj1 with hj1
                  subst hj1
                  refine St.thenN ?_
                  exact St.hereE () ⟨rfl, trivial⟩ (fun _ w => ((.d (.d (.d (.d (.d (.d (.d (.d (.d (.d (.d (.d (.d (.d (.d (.d (.d (.d .z)))))))))))))))))) : Keep _ _).sat w)
                · replace hj1 := bif_f hb6 hj1
                  refine St.xgOff (dj := 83) rfl rfl rfl rfl ?_
                  refine St.xgOff (dj := 83) rfl rfl rfl rfl ?_
                  refine St.xgOff (dj := 83) rfl rfl rfl rfl ?_
                  refine St.xgOff (dj := 83) rfl rfl rfl rfl ?_
                  refine St.xfl (fun _ h => h) (Rd.p rfl) rfl ?_
                  refine St.xfl (fun _ h => h) (Rd.p rfl) rfl ?_
                  refine St.xdone ?_
                  injection hj1 with hj1
                  subst hj1
                  refine St.thenN ?_
                  exact St.hereE () ⟨rfl, trivial⟩ (fun _ w => ((.d (.d (.d (.d (.d (.d (.d (.d (.d (.d (.d (.d (.d (.d (.d (.d .z)))))))))))))))) : Keep _ _).sat w)
              · replace hj1 := bif_f hb5 hj1
                refine St.xgOff (dj := 73) rfl rfl rfl rfl ?_
                refine St.xgOff (dj := 73) rfl rfl rfl rfl ?_
                refine St.xgOff (dj := 73) rfl rfl rfl rfl ?_
                refine St.xgOff (dj := 73) rfl rfl rfl rfl ?_
                refine St.xgOff (dj := 73) rfl rfl rfl rfl ?_
                refine St.xgOff (dj := 73) rfl rfl rfl rfl ?_
                refine St.xgOff (dj := 73) rfl rfl rfl rfl ?_
                refine St.xgOff (dj := 73) rfl rfl rfl rfl ?_
                refine St.xfl (fun _ h => h) (Rd.p rfl) rfl ?_
                refine St.xfl (fun _ h => h) (Rd.p rfl) rfl ?_
                refine St.xgOff (dj := 83) rfl rfl rfl rfl ?_
                refine St.xgOff (dj := 83) rfl rfl rfl rfl ?_
                refine St.xgOff (dj := 83) rfl rfl rfl rfl ?_
                refine St.xgOff (dj := 83) rfl rfl rfl rfl ?_
                refine St.xfl (fun _ h => h) (Rd.p rfl) rfl ?_
                refine St.xfl (fun _ h => h) (Rd.p rfl) rfl ?_
                refine St.xdone ?_
                injection hj1 with hj1
                subst hj1
                refine St.thenN ?_
                exact St.hereE () ⟨rfl, trivial⟩ (fun _ w => ((.d (.d (.d (.d (.d (.d (.d (.d (.d (.d (.d (.d (.d (.d (.d .z))))))))))))))) : Keep _ _).sat w)
            · replace hj1 := bif_f hb4 hj1
              refine St.xgOff (dj := 63) rfl rfl rfl rfl ?_
              refine St.xgOff (dj := 63) rfl rfl rfl rfl ?_
              refine St.xgOff (dj := 63) rfl rfl rfl rfl ?_
              refine St.xgOff (dj := 63) rfl rfl rfl rfl ?_
              refine St.xgOff (dj := 63) rfl rfl rfl rfl ?_
              refine St.xgOff (dj := 63) rfl rfl rfl rfl ?_
              refine St.xgOff (dj := 63) rfl rfl rfl rfl ?_
              refine St.xgOff (dj := 63) rfl rfl rfl rfl ?_
              refine St.xfl (fun _ h => h) (Rd.p rfl) rfl ?_
              refine St.xfl (fun _ h => h) (Rd.p rfl) rfl ?_
              refine St.xgOff (dj := 73) rfl rfl rfl rfl ?_
              refine St.xgOff (dj := 73) rfl rfl rfl rfl ?_
              refine St.xgOff (dj := 73) rfl rfl rfl rfl ?_
              refine St.xgOff (dj := 73) rfl rfl rfl rfl ?_
              refine St.xgOff (dj := 73) rfl rfl rfl rfl ?_
              refine St.xgOff (dj := 73) rfl rfl rfl rfl ?_
              refine St.xgOff (dj := 73) rfl rfl rfl rfl ?_
              refine St.xgOff (dj := 73) rfl rfl rfl rfl ?_
              refine St.xfl (fun _ h => h) (Rd.p rfl) rfl ?_
              refine St.xfl (fun _ h => h) (Rd.p rfl) rfl ?_
              refine St.xgOff (dj := 83) rfl rfl rfl rfl ?_
              refine St.xgOff (dj := 83) rfl rfl rfl rfl ?_
              refine St.xgOff (dj := 83) rfl rfl rfl rfl ?_
              refine St.xgOff (dj := 83) rfl rfl rfl rfl ?_
              refine St.xfl (fun _ h => h) (Rd.p rfl) rfl ?_
              refine St.xfl (fun _ h => h) (Rd.p rfl) rfl ?_
              refine St.xdone ?_
              injection hj1 with hj1
              subst hj1
              refine St.thenN ?_
              exact St.hereE () ⟨rfl, trivial⟩ (fun _ w => ((.d (.d (.d (.d (.d (.d (.d (.d (.d (.d (.d (.d (.d (.d .z)))))))))))))) : Keep _ _).sat w)
          · replace hj1 := bif_f hb3 hj1
            refine St.xgOff (dj := 53) rfl rfl rfl rfl ?_
            refine St.xgOff (dj := 53) rfl rfl rfl rfl ?_
            refine St.xgOff (dj := 53) rfl rfl rfl rfl ?_
            refine St.xgOff (dj := 53) rfl rfl rfl rfl ?_
            refine St.xgOff (dj := 53) rfl rfl rfl rfl ?_
            refine St.xgOff (dj := 53) rfl rfl rfl rfl ?_
            refine St.xgOff (dj := 53) rfl rfl rfl rfl ?_
            refine St.xgOff (dj := 53) rfl rfl rfl rfl ?_
            refine St.xfl (fun _ h => h) (Rd.p rfl) rfl ?_
            refine St.xfl (fun _ h => h) (Rd.p rfl) rfl ?_
            refine St.xgOff (dj := 63) rfl rfl rfl rfl ?_
            refine St.xgOff (dj := 63) rfl rfl rfl rfl ?_
            refine St.xgOff (dj := 63) rfl rfl rfl rfl ?_
            refine St.xgOff (dj := 63) rfl rfl rfl rfl ?_
            refine St.xgOff (dj := 63) rfl rfl rfl rfl ?_
            refine St.xgOff (dj := 63) rfl rfl rfl rfl ?_
            refine St.xgOff (dj := 63) rfl rfl rfl rfl ?_
            refine St.xgOff (dj := 63) rfl rfl rfl rfl ?_
            refine St.xfl (fun _ h => h) (Rd.p rfl) rfl ?_
            refine St.xfl (fun _ h => h) (Rd.p rfl) rfl ?_
            refine St.xgOff (dj := 73) rfl rfl rfl rfl ?_
            refine St.xgOff (dj := 73) rfl rfl rfl rfl ?_
            refine St.xgOff (dj := 73) rfl rfl rfl rfl ?_
            refine St.xgOff (dj := 73) rfl rfl rfl rfl ?_
            refine St.xgOff (dj := 73) rfl rfl rfl rfl ?_
            refine St.xgOff (dj := 73) rfl rfl rfl rfl ?_
            refine St.xgOff (dj := 73) rfl rfl rfl rfl ?_
            refine St.xgOff (dj := 73) rfl rfl rfl rfl ?_
            refine St.xfl (fun _ h => h) (Rd.p rfl) rfl ?_
            refine St.xfl (fun _ h => h) (Rd.p rfl) rfl ?_
            refine St.xgOff (dj := 83) rfl rfl rfl rfl ?_
            refine St.xgOff (dj := 83) rfl rfl rfl rfl ?_
            refine St.xgOff (dj := 83) rfl rfl rfl rfl ?_
            refine St.xgOff (dj := 83) rfl rfl rfl rfl ?_
            refine St.xfl (fun _ h => h) (Rd.p rfl) rfl ?_
            refine St.xfl (fun _ h => h) (Rd.p rfl) rfl ?_
            refine St.xdone ?_
            injection hj1 with hj1
            subst hj1
            refine St.thenN ?_
            exact St.hereE () ⟨rfl, trivial⟩ (fun _ w => ((.d (.d (.d (.d (.d (.d (.d (.d (.d (.d (.d (.d (.d .z))))))))))))) : Keep _ _).sat w)
        · rintro e1
          refine St.ret ?_
          repeat (first | refine St.thenR ?_ | refine St.blkR ?_)
          injection h with h
          subst h
          exact St.finR Try.results6 (.tmp rfl .nil) rfl [] ⟨rfl, rfl⟩ (fun _ w => (.z : Keep _ _).sat w)

end Go.Proofs.Ytcjhemblnemhfaa
