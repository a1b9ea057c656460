/-
  Models of functions of the program, and that the functions compute them.
  Conditions: none.
-/
import Derived.Test.YtelepclajhpnfaaGreatDoorTypes
import Derived.Test.YtelepclajhpnfaaGreatDoorCoreT
import Derived.Test.YtelepclajhpnfaaGreatDoorCoreG
import Derived.Test.YtelepclajhpnfaaGreatDoorCoreH
namespace Go.Proofs.YtelepclajhpnfaaGreatDoor
open Go
set_option linter.unusedVariables false
set_option maxRecDepth 4000
structure T_Unit where
  Slot : Int
  Data : (List Int)
structure T_Known where
  Slot : Int
  Good : Bool
  Serial : ByteArray
  Sum : Int
abbrev bx_T_Known (x : T_Known) : List Value := [.int .i64 x.Slot, .bool x.Good, .string x.Serial, .int .u32 x.Sum]
structure T_Difference where
  Kind : Int
  Slot : Int
  From : Int
def e_Known : Enc T_Known := ⟨4, fun x => [.int .i64 x.Slot, .bool x.Good, .string x.Serial, .int .u32 x.Sum], fun _ => rfl, fun _ => List.all_eq_true.1 rfl⟩
def e_Difference : Enc T_Difference := ⟨3, fun x => [.int .i64 x.Kind, .int .i64 x.Slot, .int .i64 x.From], fun _ => rfl, fun _ => List.all_eq_true.1 rfl⟩
def l_T_Unit : List (LC T_Unit) := [.v (fun x => .int .i64 x.Slot) (fun _ => rfl), .s (cod eu8) (fun x => x.Data)]
structure T_Dice where
  L : (List Int)
  At : Int
structure T_Field where
  Kind : Int
  Value : ByteArray
structure T_Area where
  Present : Bool
  Code : Int
  Minutes : Int
  Fields : (List T_Field)
structure T_Info where
  Chassis : T_Area
  Board : T_Area
  Product : T_Area
  Multi : (List Int)
def e_Field : Enc T_Field := ⟨2, fun x => [.int .i64 x.Kind, .string x.Value], fun _ => rfl, fun _ => List.all_eq_true.1 rfl⟩
structure Arr8 (α : Type) where
  e0 : α
  e1 : α
  e2 : α
  e3 : α
  e4 : α
  e5 : α
  e6 : α
  e7 : α
def Arr8.set {α : Type} (a : Arr8 α) (q : Int) (y : α) : Option (Arr8 α) := match setE [a.e0, a.e1, a.e2, a.e3, a.e4, a.e5, a.e6, a.e7] q y with | some [x0, x1, x2, x3, x4, x5, x6, x7] => some ⟨x0, x1, x2, x3, x4, x5, x6, x7⟩ | _ => none
theorem Arr8.set_e {α : Type} {a b : Arr8 α} {q : Int} {y : α} (h : a.set q y = some b) : setE [a.e0, a.e1, a.e2, a.e3, a.e4, a.e5, a.e6, a.e7] q y = some [b.e0, b.e1, b.e2, b.e3, b.e4, b.e5, b.e6, b.e7] := by
  unfold Arr8.set at h
  split at h
  · rename_i hs; injection h with h; subst h; exact hs
  · cases h
abbrev bx_T_Area (x : T_Area) (A1 : Option Addr) (c1 : Nat) : List Value := [.bool x.Present, .int .u8 x.Code, .int .u32 x.Minutes, .slice A1 x.Fields.length c1]
structure Arr3 (α : Type) where
  e0 : α
  e1 : α
  e2 : α
def Arr3.set {α : Type} (a : Arr3 α) (q : Int) (y : α) : Option (Arr3 α) := match setE [a.e0, a.e1, a.e2] q y with | some [x0, x1, x2] => some ⟨x0, x1, x2⟩ | _ => none
theorem Arr3.set_e {α : Type} {a b : Arr3 α} {q : Int} {y : α} (h : a.set q y = some b) : setE [a.e0, a.e1, a.e2] q y = some [b.e0, b.e1, b.e2] := by
  unfold Arr3.set at h
  split at h
  · rename_i hs; injection h with h; subst h; exact hs
  · cases h
abbrev bx_T_Info (x : T_Info) (A1 : Option Addr) (c1 : Nat) (A2 : Option Addr) (c2 : Nat) (A3 : Option Addr) (c3 : Nat) (A4 : Option Addr) (c4 : Nat) : List Value := [.bool x.Chassis.Present, .int .u8 x.Chassis.Code, .int .u32 x.Chassis.Minutes, .slice A1 x.Chassis.Fields.length c1, .bool x.Board.Present, .int .u8 x.Board.Code, .int .u32 x.Board.Minutes, .slice A2 x.Board.Fields.length c2, .bool x.Product.Present, .int .u8 x.Product.Code, .int .u32 x.Product.Minutes, .slice A3 x.Product.Fields.length c3, .slice A4 x.Multi.length c4]
abbrev bx_aArr3T_Area (x : (Arr3 T_Area)) (A1 : Option Addr) (c1 : Nat) (A2 : Option Addr) (c2 : Nat) (A3 : Option Addr) (c3 : Nat) : List Value := [.bool x.e0.Present, .int .u8 x.e0.Code, .int .u32 x.e0.Minutes, .slice A1 x.e0.Fields.length c1, .bool x.e1.Present, .int .u8 x.e1.Code, .int .u32 x.e1.Minutes, .slice A2 x.e1.Fields.length c2, .bool x.e2.Present, .int .u8 x.e2.Code, .int .u32 x.e2.Minutes, .slice A3 x.e2.Fields.length c3]
def l_sl_u8 : List (LC (List Int)) := [.s (cod eu8) (fun x => x)]
structure S93 where
  a : T_Area
  at_ : Int
def l_sl_T_Unit : List (LC (List T_Unit)) := [.s (codL l_T_Unit) (fun x => x)]
def l_i64 : List (LC Int) := [.v (fun x => .int .i64 x) (fun _ => rfl)]
def l_u8 : List (LC Int) := [.v (fun x => .int .u8 x) (fun _ => rfl)]
def ok_T_Unit (x : T_Unit) : Prop := (inK .i64) x.Slot ∧ (okL (inK .u8)) x.Data
def l_sl_i64 : List (LC (List Int)) := [.s (cod ei64) (fun x => x)]
theorem ent87 : Ent Tryz.prog 87 := ⟨_, Tryz.func87, by kernel_rfl, by kernel_rfl⟩
end Go.Proofs.YtelepclajhpnfaaGreatDoor
