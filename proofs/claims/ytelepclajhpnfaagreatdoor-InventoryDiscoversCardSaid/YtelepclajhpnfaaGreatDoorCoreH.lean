/-
 slices.Grow of the nil slice of bytes, at this program.
 Conditions: none.
-/
import Derived.Test.YtelepclajhpnfaaGreatDoorCoreG
import Derived.Test.YtelepclajhpnfaaGreatDoorTypes
namespace Go.Proofs.YtelepclajhpnfaaGreatDoor
open Go
set_option maxRecDepth 10000
def growRen : Shelf.Ren := ⟨fun x => if x = 4 then 87 else x, fun x => if x = 22 then 26 else if x = 25 then 5 else x, fun x => x⟩
theorem growLays : Lays8.n4 Tryz.prog growRen where
 mixed := by kernel_rfl
 f4 := ⟨Tryz.f87.name, by kernel_rfl, by kernel_rfl⟩
 t0 := by kernel_rfl
 a0 := fun _ => rfl
 z0 := fun _ => rfl
 v0 := fun _ => rfl
 t3 := by kernel_rfl
 a3 := fun _ => rfl
 z3 := fun _ => rfl
 v3 := fun _ => rfl
 t4 := by kernel_rfl
 a4 := fun _ => rfl
 z4 := fun _ => rfl
 v4 := fun _ => rfl
 t9 := by kernel_rfl
 a9 := fun _ => rfl
 z9 := fun _ => rfl
 v9 := fun _ => rfl
 t20 := by kernel_rfl
 a20 := fun _ => rfl
 z20 := fun _ => rfl
 v20 := fun _ => rfl
 t22 := by kernel_rfl
 a22 := fun _ => rfl
 z22 := fun _ => rfl
 v22 := fun _ => rfl
theorem grow_info : ∃ i0, Tryz.prog.info? 5 = some i0 ∧ i0.zero = some (.int .u8 0) ∧ i0.size = 1 ∧ i0.bytes = 1 := by
 have h : (Tryz.prog.info? 5).map (fun i => (i.zero, i.size, i.bytes)) = some (some (.int .u8 0), 1, 1) := by kernel_rfl
 cases hi : Tryz.prog.info? 5 with
 | none => rw [hi] at h; cases h
 | some i =>
  rw [hi] at h
  simp only [Option.map_some, Option.some.injEq, Prod.mk.injEq] at h
  exact ⟨i, rfl, h.1, h.2.1, h.2.2⟩
theorem c_grow {n : Int} {r : List Int} (h : growM n = some r) :
  Fun Tryz.prog 87 [.slice none 0 0, .int .i64 n] [] (fun v F' => ∃ A c, v = .slice A r.length c ∧ F' = [.res (OwnL eu8 5 A c r)]) := by
 obtain ⟨rfl, k, rfl, hk⟩ := growM_some h
 obtain ⟨i0, h1, h2, h3, h4⟩ := grow_info
 have := grow_fun (n := k) growLays h1 h2 (by omega) (by rw [h3]; rfl) (by rw [h4]; omega) hk
 rw [h3] at this
 exact this
end Go.Proofs.YtelepclajhpnfaaGreatDoor
