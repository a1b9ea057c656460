/-
  Models of functions of the program, and that the functions compute them.
  Conditions: none.
-/
import Derived.Test.YtnolaefjmjgfbaaTypes
import Derived.Test.YtnolaefjmjgfbaaCoreT
import Derived.Test.YtnolaefjmjgfbaaCoreJ
namespace Go.Proofs.Ytnolaefjmjgfbaa
open Go
set_option linter.unusedVariables false
set_option maxRecDepth 4000

structure T_Known where
  Slot : Int
  Good : Bool
  Serial : ByteArray
  Sum : Int

structure T_Setting where
  Key : Int
  Value : (List Int)
  Delete : Bool

def e_Known : Enc T_Known := ⟨4, fun x => [.int .i64 x.Slot, .bool x.Good, .string x.Serial, .int .u32 x.Sum], fun _ => rfl, fun _ => List.all_eq_true.1 rfl⟩

abbrev bx_T_Known (x : T_Known) : List Value := [.int .i64 x.Slot, .bool x.Good, .string x.Serial, .int .u32 x.Sum]

structure T_Difference where
  Kind : Int
  Slot : Int
  From : Int

def e_Difference : Enc T_Difference := ⟨3, fun x => [.int .i64 x.Kind, .int .i64 x.Slot, .int .i64 x.From], fun _ => rfl, fun _ => List.all_eq_true.1 rfl⟩

def l_T_Setting : List (LC T_Setting) := [.v (fun x => .int .u8 x.Key) (fun _ => rfl), .s (cod eu8) (fun x => x.Value), .v (fun x => .bool x.Delete) (fun _ => rfl)]

structure T_Dice where
  L : (List Int)
  At : Int

structure Arr6 (α : Type) where
  e0 : α
  e1 : α
  e2 : α
  e3 : α
  e4 : α
  e5 : α

def Arr6.set {α : Type} (a : Arr6 α) (q : Int) (y : α) : Option (Arr6 α) := match setE [a.e0, a.e1, a.e2, a.e3, a.e4, a.e5] q y with | some [x0, x1, x2, x3, x4, x5] => some ⟨x0, x1, x2, x3, x4, x5⟩ | _ => none

theorem Arr6.set_e {α : Type} {a b : Arr6 α} {q : Int} {y : α} (h : a.set q y = some b) : setE [a.e0, a.e1, a.e2, a.e3, a.e4, a.e5] q y = some [b.e0, b.e1, b.e2, b.e3, b.e4, b.e5] := by
  unfold Arr6.set at h
  split at h
  · rename_i hs; injection h with h; subst h; exact hs
  · cases h

theorem pairs6 {α β : Type} {l : List (α × β)} {a0 a1 a2 a3 a4 a5 : α} (h : l.map (·.1) = [a0, a1, a2, a3, a4, a5]) : ∃ x0 x1 x2 x3 x4 x5, l = [(a0, x0), (a1, x1), (a2, x2), (a3, x3), (a4, x4), (a5, x5)] := by
  match l, h with
  | [(_, x0), (_, x1), (_, x2), (_, x3), (_, x4), (_, x5)], h => simp at h; obtain ⟨rfl, rfl, rfl, rfl, rfl, rfl⟩ := h; exact ⟨x0, x1, x2, x3, x4, x5, rfl⟩

structure Arr8 (α : Type) where
  e0 : α
  e1 : α
  e2 : α
  e3 : α
  e4 : α
  e5 : α
  e6 : α
  e7 : α

def Arr8.set {α : Type} (a : Arr8 α) (q : Int) (y : α) : Option (Arr8 α) := match setE [a.e0, a.e1, a.e2, a.e3, a.e4, a.e5, a.e6, a.e7] q y with | some [x0, x1, x2, x3, x4, x5, x6, x7] => some ⟨x0, x1, x2, x3, x4, x5, x6, x7⟩ | _ => none

theorem Arr8.set_e {α : Type} {a b : Arr8 α} {q : Int} {y : α} (h : a.set q y = some b) : setE [a.e0, a.e1, a.e2, a.e3, a.e4, a.e5, a.e6, a.e7] q y = some [b.e0, b.e1, b.e2, b.e3, b.e4, b.e5, b.e6, b.e7] := by
  unfold Arr8.set at h
  split at h
  · rename_i hs; injection h with h; subst h; exact hs
  · cases h

theorem pairs8 {α β : Type} {l : List (α × β)} {a0 a1 a2 a3 a4 a5 a6 a7 : α} (h : l.map (·.1) = [a0, a1, a2, a3, a4, a5, a6, a7]) : ∃ x0 x1 x2 x3 x4 x5 x6 x7, l = [(a0, x0), (a1, x1), (a2, x2), (a3, x3), (a4, x4), (a5, x5), (a6, x6), (a7, x7)] := by
  match l, h with
  | [(_, x0), (_, x1), (_, x2), (_, x3), (_, x4), (_, x5), (_, x6), (_, x7)], h => simp at h; obtain ⟨rfl, rfl, rfl, rfl, rfl, rfl, rfl, rfl⟩ := h; exact ⟨x0, x1, x2, x3, x4, x5, x6, x7, rfl⟩

def l_sl_T_Known : List (LC (List T_Known)) := [.s (cod e_Known) (fun x => x)]

def l_T_Known : List (LC T_Known) := [.v (fun x => .int .i64 x.Slot) (fun _ => rfl), .v (fun x => .bool x.Good) (fun _ => rfl), .v (fun x => .string x.Serial) (fun _ => rfl), .v (fun x => .int .u32 x.Sum) (fun _ => rfl)]

def l_i64 : List (LC Int) := [.v (fun x => .int .i64 x) (fun _ => rfl)]

def l_bool : List (LC Bool) := [.v (fun x => .bool x) (fun _ => rfl)]

def l_str : List (LC ByteArray) := [.v (fun x => .string x) (fun _ => rfl)]

def l_u32 : List (LC Int) := [.v (fun x => .int .u32 x) (fun _ => rfl)]

def ok_T_Known (x : T_Known) : Prop := (inK .i64) x.Slot ∧ okB x.Good ∧ okS x.Serial ∧ (inK .u32) x.Sum

def l_sl_T_Setting : List (LC (List T_Setting)) := [.s (codL l_T_Setting) (fun x => x)]

def l_u8 : List (LC Int) := [.v (fun x => .int .u8 x) (fun _ => rfl)]

def l_sl_u8 : List (LC (List Int)) := [.s (cod eu8) (fun x => x)]

def ok_T_Setting (x : T_Setting) : Prop := (inK .u8) x.Key ∧ (okL (inK .u8)) x.Value ∧ okB x.Delete

def l_sl_i64 : List (LC (List Int)) := [.s (cod ei64) (fun x => x)]

end Go.Proofs.Ytnolaefjmjgfbaa
