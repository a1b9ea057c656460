/-
  Models of functions of the program, and that the functions compute them.
  Conditions: none.
-/
import Derived.Test.YtcekbbbjagfacaaDoorTypes
import Derived.Test.YtcekbbbjagfacaaDoorCoreT
import Derived.Test.YtcekbbbjagfacaaDoorCoreG
import Derived.Test.YtcekbbbjagfacaaDoorCoreH
import Derived.Test.YtcekbbbjagfacaaDoorCoreI
namespace Go.Proofs.YtcekbbbjagfacaaDoor
open Go
set_option linter.unusedVariables false
set_option maxRecDepth 4000

structure T_Field where
  Kind : Int
  Value : ByteArray

structure T_Area where
  Present : Bool
  Code : Int
  Minutes : Int
  Fields : (List T_Field)

structure T_Info where
  Chassis : T_Area
  Board : T_Area
  Product : T_Area
  Multi : (List Int)

structure Arr3 (α : Type) where
  e0 : α
  e1 : α
  e2 : α

def Arr3.set {α : Type} (a : Arr3 α) (q : Int) (y : α) : Option (Arr3 α) := match setE [a.e0, a.e1, a.e2] q y with | some [x0, x1, x2] => some ⟨x0, x1, x2⟩ | _ => none

theorem Arr3.set_e {α : Type} {a b : Arr3 α} {q : Int} {y : α} (h : a.set q y = some b) : setE [a.e0, a.e1, a.e2] q y = some [b.e0, b.e1, b.e2] := by
  unfold Arr3.set at h
  split at h
  · rename_i hs; injection h with h; subst h; exact hs
  · cases h

theorem pairs3 {α β : Type} {l : List (α × β)} {a0 a1 a2 : α} (h : l.map (·.1) = [a0, a1, a2]) : ∃ x0 x1 x2, l = [(a0, x0), (a1, x1), (a2, x2)] := by
  match l, h with
  | [(_, x0), (_, x1), (_, x2)], h => simp at h; obtain ⟨rfl, rfl, rfl⟩ := h; exact ⟨x0, x1, x2, rfl⟩

def e_Field : Enc T_Field := ⟨2, fun x => [.int .i64 x.Kind, .string x.Value], fun _ => rfl, fun _ => List.all_eq_true.1 rfl⟩

abbrev bx_aArr3T_Area (x : (Arr3 T_Area)) (A1 : Option Addr) (c1 : Nat) (A2 : Option Addr) (c2 : Nat) (A3 : Option Addr) (c3 : Nat) : List Value := [.bool x.e0.Present, .int .u8 x.e0.Code, .int .u32 x.e0.Minutes, .slice A1 x.e0.Fields.length c1, .bool x.e1.Present, .int .u8 x.e1.Code, .int .u32 x.e1.Minutes, .slice A2 x.e1.Fields.length c2, .bool x.e2.Present, .int .u8 x.e2.Code, .int .u32 x.e2.Minutes, .slice A3 x.e2.Fields.length c3]

abbrev bx_T_Info (x : T_Info) (A1 : Option Addr) (c1 : Nat) (A2 : Option Addr) (c2 : Nat) (A3 : Option Addr) (c3 : Nat) (A4 : Option Addr) (c4 : Nat) : List Value := [.bool x.Chassis.Present, .int .u8 x.Chassis.Code, .int .u32 x.Chassis.Minutes, .slice A1 x.Chassis.Fields.length c1, .bool x.Board.Present, .int .u8 x.Board.Code, .int .u32 x.Board.Minutes, .slice A2 x.Board.Fields.length c2, .bool x.Product.Present, .int .u8 x.Product.Code, .int .u32 x.Product.Minutes, .slice A3 x.Product.Fields.length c3, .slice A4 x.Multi.length c4]

abbrev bx_T_Area (x : T_Area) (A1 : Option Addr) (c1 : Nat) : List Value := [.bool x.Present, .int .u8 x.Code, .int .u32 x.Minutes, .slice A1 x.Fields.length c1]

def l_sl_u8 : List (LC (List Int)) := [.s (cod eu8) (fun x => x)]

structure T_Dice where
  L : (List Int)
  At : Int

structure Arr8 (α : Type) where
  e0 : α
  e1 : α
  e2 : α
  e3 : α
  e4 : α
  e5 : α
  e6 : α
  e7 : α

def Arr8.set {α : Type} (a : Arr8 α) (q : Int) (y : α) : Option (Arr8 α) := match setE [a.e0, a.e1, a.e2, a.e3, a.e4, a.e5, a.e6, a.e7] q y with | some [x0, x1, x2, x3, x4, x5, x6, x7] => some ⟨x0, x1, x2, x3, x4, x5, x6, x7⟩ | _ => none

theorem Arr8.set_e {α : Type} {a b : Arr8 α} {q : Int} {y : α} (h : a.set q y = some b) : setE [a.e0, a.e1, a.e2, a.e3, a.e4, a.e5, a.e6, a.e7] q y = some [b.e0, b.e1, b.e2, b.e3, b.e4, b.e5, b.e6, b.e7] := by
  unfold Arr8.set at h
  split at h
  · rename_i hs; injection h with h; subst h; exact hs
  · cases h

theorem pairs8 {α β : Type} {l : List (α × β)} {a0 a1 a2 a3 a4 a5 a6 a7 : α} (h : l.map (·.1) = [a0, a1, a2, a3, a4, a5, a6, a7]) : ∃ x0 x1 x2 x3 x4 x5 x6 x7, l = [(a0, x0), (a1, x1), (a2, x2), (a3, x3), (a4, x4), (a5, x5), (a6, x6), (a7, x7)] := by
  match l, h with
  | [(_, x0), (_, x1), (_, x2), (_, x3), (_, x4), (_, x5), (_, x6), (_, x7)], h => simp at h; obtain ⟨rfl, rfl, rfl, rfl, rfl, rfl, rfl, rfl⟩ := h; exact ⟨x0, x1, x2, x3, x4, x5, x6, x7, rfl⟩

def l_u8 : List (LC Int) := [.v (fun x => .int .u8 x) (fun _ => rfl)]

def l_sl_i64 : List (LC (List Int)) := [.s (cod ei64) (fun x => x)]

def l_i64 : List (LC Int) := [.v (fun x => .int .i64 x) (fun _ => rfl)]

theorem ent67 : Ent Tryd.prog 67 := ⟨_, Tryd.func67, by kernel_rfl, by kernel_rfl⟩

end Go.Proofs.YtcekbbbjagfacaaDoor
