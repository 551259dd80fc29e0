import Derived.Test.YtifmnhcmmoacfaaGreatDoorQMain
set_option linter.unusedVariables false
set_option maxRecDepth 100000
set_option maxHeartbeats 1000000
namespace Go.Proofs.YtifmnhcmmoacfaaGreatDoorQ
open Go Go.PE
abbrev Str := List UInt8
structure T_api_Field where
  g_Name : Str
  g_Kind : Int
  g_Required : Bool
  g_Least : Int
  g_Most : Int
structure T_api_Node where
  g_Kind : Int
  g_Bool : Bool
  g_Number : Int
  g_Text : Str
  g_Names : (List Str)
  g_Items : (List T_api_Node)
structure T_primitive_form where
  g_code : Str
  g_raw : Int
structure T_api_Primitive where
  g_Code : Int
  g_Raw : Str
structure T_schema_numbered where
  g_Field : T_api_Field
  g_number : Int
structure T_api_Schema where
  g_Said : Str
  g_Title : Str
  g_Fields : (List T_api_Field)
structure T_api_Version where
  g_Protocol : Str
  g_Major : Int
  g_Minor : Int
  g_Form : Int
  g_Size : Int
def uT : Nat → Type
  | 0 => T_api_Field
  | 1 => T_api_Node
  | 2 => T_primitive_form
  | 3 => T_api_Primitive
  | 4 => T_schema_numbered
  | 5 => T_api_Schema
  | 6 => T_api_Version
  | _ => Unit
@[reducible] def uTypes : UTypes := ⟨uT⟩
def uFields : Nat → List Shape
  | 0 => [.str, (.int .i64), .bool, (.int .i64), (.int .i64)]
  | 1 => [(.int .i64), .bool, (.int .i64), .str, (.list .str), (.list (.user 1))]
  | 2 => [.str, (.int .i64)]
  | 3 => [(.int .i64), .str]
  | 4 => [.str, (.int .i64), .bool, (.int .i64), (.int .i64), (.int .i64)]
  | 5 => [.str, .str, (.list (.user 0))]
  | 6 => [.str, (.int .i64), (.int .i64), (.int .i64), (.int .i64)]
  | _ => []
def uOut : (n : Nat) → uT n → @Els uTypes (uFields n)
  | 0, x => (x.g_Name, x.g_Kind, x.g_Required, x.g_Least, x.g_Most, ())
  | 1, x => (x.g_Kind, x.g_Bool, x.g_Number, x.g_Text, x.g_Names, x.g_Items, ())
  | 2, x => (x.g_code, x.g_raw, ())
  | 3, x => (x.g_Code, x.g_Raw, ())
  | 4, x => (x.g_Field.g_Name, x.g_Field.g_Kind, x.g_Field.g_Required, x.g_Field.g_Least, x.g_Field.g_Most, x.g_number, ())
  | 5, x => (x.g_Said, x.g_Title, x.g_Fields, ())
  | 6, x => (x.g_Protocol, x.g_Major, x.g_Minor, x.g_Form, x.g_Size, ())
  | _ + 7, _ => ()
def uInn : (n : Nat) → @Els uTypes (uFields n) → uT n
  | 0, x => (⟨x.1, x.2.1, x.2.2.1, x.2.2.2.1, x.2.2.2.2.1⟩ : T_api_Field)
  | 1, x => (⟨x.1, x.2.1, x.2.2.1, x.2.2.2.1, x.2.2.2.2.1, x.2.2.2.2.2.1⟩ : T_api_Node)
  | 2, x => (⟨x.1, x.2.1⟩ : T_primitive_form)
  | 3, x => (⟨x.1, x.2.1⟩ : T_api_Primitive)
  | 4, x => (⟨⟨x.1, x.2.1, x.2.2.1, x.2.2.2.1, x.2.2.2.2.1⟩, x.2.2.2.2.2.1⟩ : T_schema_numbered)
  | 5, x => (⟨x.1, x.2.1, x.2.2.1⟩ : T_api_Schema)
  | 6, x => (⟨x.1, x.2.1, x.2.2.1, x.2.2.2.1, x.2.2.2.2.1⟩ : T_api_Version)
  | _ + 7, _ => ()
def T_api_Field.dft : T_api_Field := ⟨[], 0, false, 0, 0⟩
def T_api_Node.dft : T_api_Node := ⟨0, false, 0, [], [], []⟩
def T_primitive_form.dft : T_primitive_form := ⟨[], 0⟩
def T_api_Primitive.dft : T_api_Primitive := ⟨0, []⟩
def T_schema_numbered.dft : T_schema_numbered := ⟨⟨[], 0, false, 0, 0⟩, 0⟩
def T_api_Schema.dft : T_api_Schema := ⟨[], [], []⟩
def T_api_Version.dft : T_api_Version := ⟨[], 0, 0, 0, 0⟩
def uDft : (n : Nat) → uT n
  | 0 => T_api_Field.dft
  | 1 => T_api_Node.dft
  | 2 => T_primitive_form.dft
  | 3 => T_api_Primitive.dft
  | 4 => T_schema_numbered.dft
  | 5 => T_api_Schema.dft
  | 6 => T_api_Version.dft
  | _ + 7 => ()
def T_api_Field.toD (x : T_api_Field) : List D := [.str x.g_Name, .int .i64 x.g_Kind, .bool x.g_Required, .int .i64 x.g_Least, .int .i64 x.g_Most]
theorem T_api_Node.eta (x : T_api_Node) : (⟨x.g_Kind, x.g_Bool, x.g_Number, x.g_Text, x.g_Names, x.g_Items⟩ : T_api_Node) = x := by cases x; rfl
mutual
def T_api_Node.toD : T_api_Node → List D
  | ⟨x0, x1, x2, x3, x4, x5⟩ => [.int .i64 x0, .bool x1, .int .i64 x2, .str x3, .list x4.length (List.flatMap (fun y => [.str y]) x4), .list x5.length (T_api_Node.toDs x5)]
def T_api_Node.toDs : List T_api_Node → List D
  | [] => []
  | x :: r => T_api_Node.toD x ++ T_api_Node.toDs r
end
theorem T_api_Node.toDs_eq (l : List T_api_Node) : T_api_Node.toDs l = List.flatMap T_api_Node.toD l := by
  induction l with
  | nil => simp [T_api_Node.toDs]
  | cons a r ih => simp [T_api_Node.toDs, ih]
def T_primitive_form.toD (x : T_primitive_form) : List D := [.str x.g_code, .int .i64 x.g_raw]
def T_api_Primitive.toD (x : T_api_Primitive) : List D := [.int .i64 x.g_Code, .str x.g_Raw]
def T_schema_numbered.toD (x : T_schema_numbered) : List D := [.str x.g_Field.g_Name, .int .i64 x.g_Field.g_Kind, .bool x.g_Field.g_Required, .int .i64 x.g_Field.g_Least, .int .i64 x.g_Field.g_Most, .int .i64 x.g_number]
def T_api_Schema.toD (x : T_api_Schema) : List D := [.str x.g_Said, .str x.g_Title, .list x.g_Fields.length (List.flatMap T_api_Field.toD x.g_Fields)]
def T_api_Version.toD (x : T_api_Version) : List D := [.str x.g_Protocol, .int .i64 x.g_Major, .int .i64 x.g_Minor, .int .i64 x.g_Form, .int .i64 x.g_Size]
def uDD : (n : Nat) → uT n → List D
  | 0, x => T_api_Field.toD x
  | 1, x => T_api_Node.toD x
  | 2, x => T_primitive_form.toD x
  | 3, x => T_api_Primitive.toD x
  | 4, x => T_schema_numbered.toD x
  | 5, x => T_api_Schema.toD x
  | 6, x => T_api_Version.toD x
  | _ + 7, _ => []
def uUser : TypeId → Option Nat
  | 23 => some 0
  | 29 => some 1
  | 43 => some 5
  | 88 => some 4
  | 97 => some 3
  | 113 => some 6
  | 124 => some 2
  | _ => none
instance univ : Univ where
  toUTypes := uTypes
  fields := uFields
  out := uOut
  inn := uInn
  dft := uDft
  uD := uDD
  userOf := uUser
theorem uPlain : ∀ n, (uFields n).all (fun s => !(isUser s)) = true
  | 0 => rfl
  | 1 => rfl
  | 2 => rfl
  | 3 => rfl
  | 4 => rfl
  | 5 => rfl
  | 6 => rfl
  | _ + 7 => rfl
theorem uDeep : ∀ (n : Nat) (x : UTypes.UT n), Univ.uD n x = leavesD (Univ.fields n) (Univ.out n x)
  | 0, _ => rfl
  | 1, x => by
    show T_api_Node.toD x = _
    cases x
    simp only [T_api_Node.toD, T_api_Node.toDs_eq]
    rfl
  | 2, _ => rfl
  | 3, _ => rfl
  | 4, _ => rfl
  | 5, _ => rfl
  | 6, _ => rfl
  | _ + 7, _ => rfl
theorem uBack : ∀ (n : Nat) (x : Els (Univ.fields n)), Univ.out n (Univ.inn n x) = x
  | 0, _ => rfl
  | 1, _ => rfl
  | 2, _ => rfl
  | 3, _ => rfl
  | 4, _ => rfl
  | 5, _ => rfl
  | 6, _ => rfl
  | _ + 7, _ => rfl
theorem uZero : ∀ n, Univ.uD n (Univ.dft n) = zeroD (Univ.fields n)
  | 0 => rfl
  | 1 => rfl
  | 2 => rfl
  | 3 => rfl
  | 4 => rfl
  | 5 => rfl
  | 6 => rfl
  | _ + 7 => rfl
instance univOk : UnivOk where
  plain := fun n s hs => by
    have := List.all_eq_true.1 (uPlain n) s hs
    simpa using this
  deep := uDeep
  back := uBack
  zero := uZero
end Go.Proofs.YtifmnhcmmoacfaaGreatDoorQ
