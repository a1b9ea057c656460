/-
  slices.Sort of ints, at this program.
  Conditions: none.
-/
import Derived.Test.YteaoblglgcpdnaaCoreS
import Derived.Test.YteaoblglgcpdnaaTypes
namespace Go.Proofs.Yteaoblglgcpdnaa
open Go
set_option maxRecDepth 10000

def sortIRen : Shelf.Ren := ⟨fun x => if x = 125 then 64 else if x = 128 then 80 else if x = 129 then 81 else if x = 189 then 46 else if x = 215 then 84 else if x = 216 then 77 else if x = 257 then 63 else if x = 294 then 71 else if x = 295 then 72 else if x = 296 then 73 else if x = 297 then 74 else if x = 298 then 75 else if x = 299 then 76 else if x = 300 then 78 else if x = 301 then 79 else if x = 328 then 85 else if x = 329 then 86 else if x = 330 then 87 else if x = 331 then 88 else if x = 332 then 89 else if x = 343 then 91 else x, fun x => if x = 0 then 0 else if x = 3 then 3 else if x = 4 then 4 else if x = 5 then 5 else if x = 9 then 9 else if x = 28 then 34 else if x = 46 then 56 else if x = 51 then 107 else if x = 53 then 109 else if x = 131 then 104 else if x = 182 then 98 else if x = 183 then 99 else if x = 218 then 111 else if x = 222 then 115 else if x = 228 then 117 else if x = 229 then 118 else x, fun x => x⟩
theorem sortILays : Lays.n189 Try.prog sortIRen where
  mixed := by kernel_rfl
  f125 := by kernel_rfl
  f128 := by kernel_rfl
  f129 := by kernel_rfl
  f189 := by kernel_rfl
  f215 := by kernel_rfl
  f216 := by kernel_rfl
  f257 := by kernel_rfl
  f294 := by kernel_rfl
  f295 := by kernel_rfl
  f296 := by kernel_rfl
  f297 := by kernel_rfl
  f298 := by kernel_rfl
  f299 := by kernel_rfl
  f300 := by kernel_rfl
  f301 := by kernel_rfl
  f328 := by kernel_rfl
  f329 := by kernel_rfl
  f330 := by kernel_rfl
  f331 := by kernel_rfl
  f332 := by kernel_rfl
  f343 := by kernel_rfl
  t0 := by kernel_rfl
  a0 := fun _ => rfl
  z0 := fun _ => rfl
  v0 := fun _ => rfl
  t3 := by kernel_rfl
  a3 := fun _ => rfl
  z3 := fun _ => rfl
  v3 := fun _ => rfl
  t4 := by kernel_rfl
  a4 := fun _ => rfl
  z4 := fun _ => rfl
  v4 := fun _ => rfl
  t5 := by kernel_rfl
  a5 := fun _ => rfl
  z5 := fun _ => rfl
  v5 := fun _ => rfl
  t9 := by kernel_rfl
  a9 := fun _ => rfl
  z9 := fun _ => rfl
  v9 := fun _ => rfl
  t28 := by kernel_rfl
  a28 := fun _ => rfl
  z28 := fun _ => rfl
  v28 := fun _ => rfl
  t46 := by kernel_rfl
  a46 := fun _ => rfl
  z46 := fun _ => rfl
  v46 := fun _ => rfl
  t51 := by kernel_rfl
  a51 := fun _ => rfl
  z51 := fun _ => rfl
  v51 := fun _ => rfl
  t53 := by kernel_rfl
  a53 := fun _ => rfl
  z53 := fun _ => rfl
  v53 := fun _ => rfl
  t131 := by kernel_rfl
  a131 := fun _ => rfl
  z131 := fun _ => rfl
  v131 := fun _ => rfl
  t182 := by kernel_rfl
  a182 := fun _ => rfl
  z182 := fun _ => rfl
  v182 := fun _ => rfl
  t183 := by kernel_rfl
  a183 := fun _ => rfl
  z183 := fun _ => rfl
  v183 := fun _ => rfl
  t218 := by kernel_rfl
  a218 := fun _ => rfl
  z218 := fun _ => rfl
  v218 := fun _ => rfl
  t222 := by kernel_rfl
  a222 := fun _ => rfl
  z222 := fun _ => rfl
  v222 := fun _ => rfl
  t228 := by kernel_rfl
  a228 := fun _ => rfl
  z228 := fun _ => rfl
  v228 := fun _ => rfl
  t229 := by kernel_rfl
  a229 := fun _ => rfl
  z229 := fun _ => rfl
  v229 := fun _ => rfl

theorem c_sortI {e c : Nat} {A : Option Addr} {xs ys : List Int} (h : sortM xs = some ys) :
    Fun Try.prog 46 [.slice A xs.length c] [.res (OwnL ei64 e A c xs)] (fun v F' => v = .tuple #[] ∧ F' = [.res (OwnL ei64 e A c ys)]) :=
  sort_fun sortILays h

end Go.Proofs.Yteaoblglgcpdnaa
