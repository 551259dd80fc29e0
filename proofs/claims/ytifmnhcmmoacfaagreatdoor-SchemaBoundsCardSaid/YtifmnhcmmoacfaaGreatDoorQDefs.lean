import Derived.Test.YtifmnhcmmoacfaaGreatDoorQTypes
set_option linter.unusedVariables false
set_option maxRecDepth 100000
set_option maxHeartbeats 1000000
namespace Go.Proofs.YtifmnhcmmoacfaaGreatDoorQ
open Go Go.PE
noncomputable section
def begins_forms : List (Int × T_primitive_form) := [(1, ⟨([69] : Str), 32⟩), (2, ⟨([68] : Str), 32⟩), (3, ⟨([66] : Str), 32⟩), (4, ⟨([65] : Str), 32⟩), (5, ⟨([48, 65] : Str), 16⟩), (6, ⟨([77] : Str), 2⟩), (7, ⟨([83] : Str), 626⟩), (8, ⟨([49, 65, 65, 76] : Str), 6⟩)]
def primitive_begins (a0 : Str) : Option (Int × T_primitive_form × Bool) :=
  match begins_forms.find? (fun p => p.2.g_code.isPrefixOf a0) with
  | some p => some (p.1, p.2, true)
  | none => some (0, ⟨([] : Str), 0⟩, false)
def slices_Clone__string_string (_ : (List Str)) : Option (List Str) := none
def slices_Clone__api_Node_api_Node (_ : (List T_api_Node)) : Option (List T_api_Node) := none
def strconv_FormatInt (_ : Int) (_ : Int) : Option Str := none
def slices_Delete__string_string (_ : Int) (_ : Int) (_ : (List Str)) : Option (List Str) := none
def slices_Delete__api_Node_api_Node (_ : Int) (_ : Int) (_ : (List T_api_Node)) : Option (List T_api_Node) := none
def slices_Insert__string_string (_ : Int) (_ : (List Str)) (_ : (List Str)) : Option (List Str) := none
def slices_Insert__api_Node_api_Node (_ : Int) (_ : (List T_api_Node)) (_ : (List T_api_Node)) : Option (List T_api_Node) := none
def pack_EncodeAs (_ : Int) (_ : T_api_Node) : Option (Str × Int) := none
def strings_Builder_copyCheck : Option Unit := none
def strings_Builder_copyCheck_i2 (_ : (List Int)) : Option Unit := none
def strings_Builder_String (_ : (List Int)) : Option Str := none
def slices_Clone__api_Field_api_Field (_ : (List T_api_Field)) : Option (List T_api_Field) := none
def law32_SchemaBounds_l1 : Nat → Int → Int → Int → Int → Int → T_api_Field → T_api_Field → (List Int) → Option (Int × Int × Int × T_api_Field × T_api_Field × (List Int))
  | 0, _, _, _, _, _, _, _, _ => none
  | n + 1, p0, p1, p2, p3, p4, p5, p6, p7 =>
  if (decide (p4 < p3)) then 
    if within p4 p7.length then 
    if within p4 p7.length then law32_SchemaBounds_l1 n p0 p1 p2 p3 (w_i64 (p4 + 1)) p5 p6 (p7.set (p4).toNat 97)
    else none
    else none
  else some (p0, p1, p2, p5, p6, p7)
def ref05_Number (n : Nat) (a0 : Int) : Option T_api_Node :=some (⟨2, false, a0, [], [], []⟩ : T_api_Node)
def node_fields (n : Nat) (a0 : T_api_Node) : Option Bool :=some ((((((a0.g_Kind == 1) || (!a0.g_Bool)) && ((a0.g_Kind == 2) || (a0.g_Number == 0))) && ((a0.g_Kind == 3) || (a0.g_Text == []))) && (((a0.g_Kind == 4) || (a0.g_Kind == 5)) || ((a0.g_Items.length : Int) == 0))) && ((a0.g_Kind == 5) || ((a0.g_Names.length : Int) == 0)))
def unicode_utf8_word__string (n : Nat) (a0 : Str) : Option Int :=
  if within 0 a0.length then 
  if within 1 a0.length then 
  if within 2 a0.length then 
  if within 3 a0.length then 
  if within 4 a0.length then 
  if within 5 a0.length then 
  if within 6 a0.length then 
  if within 7 a0.length then some (ior .u64 (ior .u64 (ior .u64 (ior .u64 (ior .u64 (ior .u64 (ior .u64 (w_u64 (bt a0 0)) (shl .u64 (w_u64 (bt a0 1)) 8)) (shl .u64 (w_u64 (bt a0 2)) 16)) (shl .u64 (w_u64 (bt a0 3)) 24)) (shl .u64 (w_u64 (bt a0 4)) 32)) (shl .u64 (w_u64 (bt a0 5)) 40)) (shl .u64 (w_u64 (bt a0 6)) 48)) (shl .u64 (w_u64 (bt a0 7)) 56))
  else none
  else none
  else none
  else none
  else none
  else none
  else none
  else none
def unicode_utf8_ValidString_l2 : Nat → Str → Str → Int → Int → Bool → Str → Int → Str → Str → Int → Int → Int → Bool → Option (Str × Str × Int × Int × Bool × Str × Int × Str × Str × Int × Int × Int × Bool)
  | 0, _, _, _, _, _, _, _, _, _, _, _, _, _ => none
  | n + 1, p0, p1, p2, p3, p4, p5, p6, p7, p8, p9, p10, p11, p12 =>
  if (decide ((p0.length : Int) > 32)) then 
    unicode_utf8_word__string n p0 >>= fun b20 => 
    if cLo 8 p0.length then 
    unicode_utf8_word__string n (p0.drop 8) >>= fun b23 => 
    if cLo 16 p0.length then 
    unicode_utf8_word__string n (p0.drop 16) >>= fun b26 => 
    if cLo 24 p0.length then 
    unicode_utf8_word__string n (p0.drop 24) >>= fun b29 => 
    if ((iand .u64 (ior .u64 (ior .u64 b20 b23) (ior .u64 b26 b29)) 9259542123273814144) == 0) then 
      if cLo 32 p0.length then unicode_utf8_ValidString_l2 n (p0.drop 32) p1 p2 p3 p4 p5 p6 p7 p8 p9 p10 p11 p12
      else none
    else some (p0, p1, p2, p3, p4, p5, p6, p7, p8, p9, p10, p11, p12)
    else none
    else none
    else none
  else some (p0, p1, p2, p3, p4, p5, p6, p7, p8, p9, p10, p11, p12)
def unicode_utf8_ValidString_l1 : Nat → Str → Option Unit
  | 0, _ => none
  | n + 1, p0 =>
  if (decide ((p0.length : Int) > 0)) then 
    if within 0 p0.length then 
    if (decide ((bt p0 0) < 128)) then 
      if cLo 1 p0.length then 
      if (decide (((p0.drop 1).length : Int) > 8)) then 
        unicode_utf8_word__string n (p0.drop 1) >>= fun b7 => 
        if ((iand .u64 b7 9259542123273814144) == 0) then 
          if cLo 8 ((p0.drop 1).length) then 
          if (decide ((((p0.drop 1).drop 8).length : Int) > 16)) then 
            unicode_utf8_word__string n ((p0.drop 1).drop 8) >>= fun b12 => 
            if cLo 8 (((p0.drop 1).drop 8).length) then 
            unicode_utf8_word__string n (((p0.drop 1).drop 8).drop 8) >>= fun b15 => 
            if ((iand .u64 (ior .u64 b12 b15) 9259542123273814144) == 0) then 
              if cLo 16 (((p0.drop 1).drop 8).length) then 
              unicode_utf8_ValidString_l2 n (((p0.drop 1).drop 8).drop 16) (p0.drop 1) b7 (iand .u64 b7 9259542123273814144) ((iand .u64 b7 9259542123273814144) == 0) ((p0.drop 1).drop 8) b12 ((p0.drop 1).drop 8) (((p0.drop 1).drop 8).drop 8) b15 (ior .u64 b12 b15) (iand .u64 (ior .u64 b12 b15) 9259542123273814144) ((iand .u64 (ior .u64 b12 b15) 9259542123273814144) == 0) >>= fun b33 => unicode_utf8_ValidString_l1 n b33.1
              else none
            else unicode_utf8_ValidString_l1 n ((p0.drop 1).drop 8)
            else none
          else unicode_utf8_ValidString_l1 n ((p0.drop 1).drop 8)
          else none
        else unicode_utf8_ValidString_l1 n (p0.drop 1)
      else unicode_utf8_ValidString_l1 n (p0.drop 1)
      else none
    else none
    else none
  else some ()
def unicode_utf8_ValidString (n : Nat) (a0 : Str) : Option Bool :=
  unicode_utf8_ValidString_l1 n a0 >>= fun b35 => some true
def node_text (n : Nat) (a0 : Str) : Option Bool :=
  if (decide ((a0.length : Int) ≤ 65536)) then 
    unicode_utf8_ValidString n a0 >>= fun b3 => some b3
  else some false
def node_names_l1 : Nat → (List Str) → Int → Int → T_api_Node → (List (Str × Bool)) → Option (Sum Unit T_api_Node)
  | 0, _, _, _, _, _ => none
  | n + 1, p0, p1, p2, p3, p4 =>
  if (decide (p2 < p1)) then 
    if within p2 p0.length then 
    if ((alk (fun y => (rd [] p0 p2) == y) p4).getD false) then some (.inl ())
    else 
      node_text n (rd [] p0 p2) >>= fun b5 => 
      if (!b5) then some (.inl ())
      else node_names_l1 n p0 p1 (w_i64 (p2 + 1)) p3 (ast (fun y => (rd [] p0 p2) == y) (rd [] p0 p2) true p4)
    else none
  else some (.inr p3)
def node_names (n : Nat) (a0 : T_api_Node) : Option Bool :=
  node_names_l1 n a0.g_Names (a0.g_Names.length : Int) 0 a0 [] >>= fun b7 => 
  match b7 with
  | .inl b8 => some false
  | .inr b9 => some ((b9.g_Names.length : Int) == (b9.g_Items.length : Int))
mutual
def node_valid : Nat → T_api_Node → Int → Option Bool
  | 0, _, _ => none
  | n + 1, a0, a1 =>
  if (((decide (a1 < 1)) || (decide (a0.g_Kind < 0))) || (decide (a0.g_Kind > 5))) then some false
  else 
    node_fields n a0 >>= fun b3 => 
    if (!b3) then some false
    else 
      node_text n a0.g_Text >>= fun b6 => 
      if ((!b6) || (decide ((a0.g_Items.length : Int) > 256))) then some false
      else 
        if (a0.g_Kind == 5) then 
          node_names n a0 >>= fun b10 => 
          if (!b10) then some false
          else 
            slices_ContainsFunc__api_Node_api_Node n a0.g_Items a1 >>= fun b13 => some (!b13.1)
        else 
          slices_ContainsFunc__api_Node_api_Node n a0.g_Items a1 >>= fun b15 => some (!b15.1)
def slices_ContainsFunc__api_Node_api_Node : Nat → (List T_api_Node) → Int → Option (Bool × Int)
  | 0, _, _ => none
  | n + 1, a0, a1 =>
  slices_IndexFunc__api_Node_api_Node n a0 a1 >>= fun b2 => some ((decide (b2.1 ≥ 0)), b2.2)
def slices_IndexFunc__api_Node_api_Node_l1 : Nat → (List T_api_Node) → Int → Int → Int → Option (Sum (Int × Int) Int)
  | 0, _, _, _, _ => none
  | n + 1, p0, p1, p2, p3 =>
  if (decide (p2 < p1)) then 
    if within p2 p0.length then 
    node_valid_1 n (rd T_api_Node.dft p0 p2) p3 >>= fun b4 => 
    if b4 then some (.inl (p2, p3))
    else slices_IndexFunc__api_Node_api_Node_l1 n p0 p1 (w_i64 (p2 + 1)) p3
    else none
  else some (.inr p3)
def slices_IndexFunc__api_Node_api_Node : Nat → (List T_api_Node) → Int → Option (Int × Int)
  | 0, _, _ => none
  | n + 1, a0, a1 =>
  slices_IndexFunc__api_Node_api_Node_l1 n a0 (a0.length : Int) 0 a1 >>= fun b6 => 
  match b6 with
  | .inl b7 => some (b7.1, b7.2)
  | .inr b8 => some ((-1), b8)
def node_valid_1 : Nat → T_api_Node → Int → Option Bool
  | 0, _, _ => none
  | n + 1, a0, a1 =>
  node_valid n a0 (w_i64 (a1 - 1)) >>= fun b2 => some (!b2)
end
def node_Valid (n : Nat) (a0 : T_api_Node) : Option Bool :=
  node_valid n a0 8 >>= fun b2 => some b2
def schema_Fits_1 (n : Nat) (a0 : Int) (a1 : Str) (a2 : Int) (a3 : Bool) (a4 : Int) (a5 : Int) : Option Bool :=some ((decide (a0 ≥ a4)) && (decide (a0 ≤ a5)))
def primitive_form_lead (n : Nat) (a0 : T_primitive_form) : Option Int :=some (Int.tmod (w_i64 (3 - (Int.tmod a0.g_raw 3))) 3)
def primitive_form_size (n : Nat) (a0 : T_primitive_form) : Option Int :=
  primitive_form_lead n a0 >>= fun b2 => 
  primitive_form_lead n a0 >>= fun b4 => some (w_i64 ((w_i64 ((a0.g_code.length : Int) + (w_i64 ((w_i64 (Int.tdiv (w_i64 (a0.g_raw + b2)) 3)) * 4)))) - b4))
def strings_Repeat (n : Nat) (a0 : Str) (a1 : Int) : Option Str :=
  if (a1 == 0) then some []
  else 
    if (a1 == 1) then some a0
    else 
      if (decide (a1 < 0)) then none
      else none
def base64_newValues_l1 : Nat → Int → (List Int) → Option (List Int)
  | 0, _, _ => none
  | n + 1, p0, p1 =>
  if (decide (p0 < 64)) then 
    if within p0 64 then 
    if within (bt ([65, 66, 67, 68, 69, 70, 71, 72, 73, 74, 75, 76, 77, 78, 79, 80, 81, 82, 83, 84, 85, 86, 87, 88, 89, 90, 97, 98, 99, 100, 101, 102, 103, 104, 105, 106, 107, 108, 109, 110, 111, 112, 113, 114, 115, 116, 117, 118, 119, 120, 121, 122, 48, 49, 50, 51, 52, 53, 54, 55, 56, 57, 45, 95] : Str) p0) p1.length then 
    if p1.length = 256 then 
    if within (bt ([65, 66, 67, 68, 69, 70, 71, 72, 73, 74, 75, 76, 77, 78, 79, 80, 81, 82, 83, 84, 85, 86, 87, 88, 89, 90, 97, 98, 99, 100, 101, 102, 103, 104, 105, 106, 107, 108, 109, 110, 111, 112, 113, 114, 115, 116, 117, 118, 119, 120, 121, 122, 48, 49, 50, 51, 52, 53, 54, 55, 56, 57, 45, 95] : Str) p0) p1.length then base64_newValues_l1 n (w_i64 (p0 + 1)) (p1.set (bt ([65, 66, 67, 68, 69, 70, 71, 72, 73, 74, 75, 76, 77, 78, 79, 80, 81, 82, 83, 84, 85, 86, 87, 88, 89, 90, 97, 98, 99, 100, 101, 102, 103, 104, 105, 106, 107, 108, 109, 110, 111, 112, 113, 114, 115, 116, 117, 118, 119, 120, 121, 122, 48, 49, 50, 51, 52, 53, 54, 55, 56, 57, 45, 95] : Str) p0).toNat (w_u8 (w_i64 (p0 + 1))))
    else none
    else none
    else none
    else none
  else some p1
def base64_newValues (n : Nat) : Option (List Int) :=
  base64_newValues_l1 n 0 (List.replicate 256 (0 : Int)) >>= fun b7 => 
  if b7.length = 256 then 
  if b7.length = 256 then if b7.length = 256 then some b7 else none
  else none
  else none
def base64_values (n : Nat) : Option (List Int) :=
  base64_newValues n >>= fun b2 => 
  if b2.length = 256 then if b2.length = 256 then some b2 else none
  else none
def base64_Value (n : Nat) (a0 : Int) : Option (Int × Bool) :=
  base64_values n >>= fun b2 => 
  if within a0 b2.length then 
  if b2.length = 256 then 
  if ((rd 0 b2 a0) == 0) then some (0, false)
  else 
    base64_values n >>= fun b7 => 
    if within a0 b7.length then 
    if b7.length = 256 then some ((w_i64 ((w_i64 (rd 0 b7 a0)) - 1)), true)
    else none
    else none
  else none
  else none
def base64_number_l1 : Nat → Str → Int → Int → Int → Option (Sum Unit Int)
  | 0, _, _, _, _ => none
  | n + 1, p0, p1, p2, p3 =>
  if (decide (p3 < p2)) then 
    if within p3 p0.length then 
    base64_Value n (bt p0 p3) >>= fun b4 => 
    if (!b4.2) then some (.inl ())
    else base64_number_l1 n p0 (ior .i64 (shl .i64 p1 6) b4.1) p2 (w_i64 (p3 + 1))
    else none
  else some (.inr p1)
def base64_number (n : Nat) (a0 : Str) : Option (Int × Bool) :=
  base64_number_l1 n a0 0 (a0.length : Int) 0 >>= fun b6 => 
  match b6 with
  | .inl b7 => some (0, false)
  | .inr b8 => some (b8, true)
def base64_Decode_l1 : Nat → Str → (List Int) → Option (Sum (List Int) Unit)
  | 0, _, _ => none
  | n + 1, p0, p1 =>
  if (!(p0 == [])) then 
    if cLo 4 p0.length then 
    base64_number n (p0.take 4) >>= fun b7 => 
    if (!b7.2) then some (.inr ())
    else 
      if fits ((p1.length + 3) * 1) then 
      if cLo 4 p0.length then base64_Decode_l1 n (p0.drop 4) (p1 ++ [(w_u8 (shr .i64 b7.1 16)), (w_u8 (shr .i64 b7.1 8)), (w_u8 b7.1)])
      else none
      else none
    else none
  else some (.inl p1)
def base64_Decode (n : Nat) (a0 : Str) : Option (Str × Int) :=
  if (decide ((a0.length : Int) > 131072)) then some ([], 3)
  else 
    if ((Int.tmod (a0.length : Int) 4) != 0) then some ([], 8)
    else 
      if cMk 0 (w_i64 ((w_i64 (Int.tdiv (a0.length : Int) 4)) * 3)) 1 then 
      base64_Decode_l1 n a0 (List.replicate 0 (0 : Int)) >>= fun b11 => 
      match b11 with
      | .inl b12 => some ((strOf b12), 0)
      | .inr b13 => some ([], 4)
      else none
def internal_stringslite_HasPrefix (n : Nat) (a0 : Str) (a1 : Str) : Option Bool :=
  if (decide ((a0.length : Int) ≥ (a1.length : Int))) then 
    if cLo (a1.length : Int) a0.length then some ((a0.take (a1.length : Int).toNat) == a1)
    else none
  else some false
def internal_stringslite_CutPrefix (n : Nat) (a0 : Str) (a1 : Str) : Option (Str × Bool) :=
  internal_stringslite_HasPrefix n a0 a1 >>= fun b2 => 
  if (!b2) then some (a0, false)
  else 
    if cLo (a1.length : Int) a0.length then some ((a0.drop (a1.length : Int).toNat), true)
    else none
def strings_CutPrefix (n : Nat) (a0 : Str) (a1 : Str) : Option (Str × Bool) :=
  internal_stringslite_CutPrefix n a0 a1 >>= fun b2 => some (b2.1, b2.2)
def primitive_Decode (n : Nat) (a0 : Str) : Option (T_api_Primitive × Int × Int) :=
  primitive_begins a0 >>= fun b2 => 
  if (!b2.2.2) then some ((⟨0, []⟩ : T_api_Primitive), 0, 7)
  else 
    primitive_form_size n b2.2.1 >>= fun b5 => 
    if (decide ((a0.length : Int) < b5)) then some ((⟨0, []⟩ : T_api_Primitive), 0, 8)
    else 
      primitive_form_lead n b2.2.1 >>= fun b8 => 
      strings_Repeat n ([0] : Str) b8 >>= fun b10 => 
      primitive_form_lead n b2.2.1 >>= fun b12 => 
      strings_Repeat n ([65] : Str) b12 >>= fun b14 => 
      primitive_form_size n b2.2.1 >>= fun b16 => 
      if cLH (b2.2.1.g_code.length : Int) b16 a0.length then 
      if fits (b14.length + ((a0.take (b16).toNat).drop (b2.2.1.g_code.length : Int).toNat).length) then 
      base64_Decode n (b14 ++ ((a0.take (b16).toNat).drop (b2.2.1.g_code.length : Int).toNat)) >>= fun b20 => 
      strings_CutPrefix n b20.1 b10 >>= fun b22 => 
      if ((b20.2 != 0) || (!b22.2)) then some ((⟨0, []⟩ : T_api_Primitive), 0, 4)
      else 
        primitive_form_size n b2.2.1 >>= fun b25 => some ((⟨b2.1, b22.1⟩ : T_api_Primitive), b25, 0)
      else none
      else none
def primitive_Open (n : Nat) (a0 : Int) (a1 : Str) : Option (Str × Int) :=
  primitive_Decode n a1 >>= fun b2 => 
  if (b2.2.2 != 0) then some ([], b2.2.2)
  else 
    if (b2.1.g_Code != a0) then some ([], 7)
    else 
      if (b2.2.1 != (a1.length : Int)) then some ([], 8)
      else some (b2.1.g_Raw, 0)
def schema_Fits (n : Nat) (a0 : T_api_Field) (a1 : T_api_Node) : Option Bool :=
  node_Valid n a1 >>= fun b2 => 
  if (!b2) then some false
  else 
    if (a0.g_Kind == 1) then 
      if (a1.g_Kind == 3) then 
        schema_Fits_1 n (a1.g_Text.length : Int) a0.g_Name a0.g_Kind a0.g_Required a0.g_Least a0.g_Most >>= fun b7 => some b7
      else some false
    else 
      if (a0.g_Kind == 2) then 
        if (a1.g_Kind == 2) then 
          schema_Fits_1 n a1.g_Number a0.g_Name a0.g_Kind a0.g_Required a0.g_Least a0.g_Most >>= fun b11 => some b11
        else some false
      else 
        if (a0.g_Kind == 3) then 
          primitive_Open n 1 a1.g_Text >>= fun b14 => some ((a1.g_Kind == 3) && (b14.2 == 0))
        else 
          if (a0.g_Kind == 4) then some (a1.g_Kind == 1)
          else some false
def ref05_Text (n : Nat) (a0 : Str) : Option T_api_Node :=some (⟨3, false, 0, a0, [], []⟩ : T_api_Node)
def ref02_first (n : Nat) : Option Unit :=some ()
def ref02_constants (n : Nat) : Option Unit :=some ()
def ref02_pad_l1 : Nat → Str → (List Int) → Option (Str × (List Int))
  | 0, _, _ => none
  | n + 1, p0, p1 =>
  if ((Int.tmod (p1.length : Int) 64) != 56) then 
    if fits ((p1.length + 1) * 1) then ref02_pad_l1 n p0 (p1 ++ [0])
    else none
  else some (p0, p1)
def ref02_pad_l2 : Nat → Str → Int → (List Int) → Option (List Int)
  | 0, _, _, _ => none
  | n + 1, p0, p1, p2 =>
  if (decide (p1 ≥ 0)) then 
    if nn (w_u64 p1) then 
    if fits ((p2.length + 1) * 1) then ref02_pad_l2 n p0 (w_i64 (p1 - 8)) (p2 ++ [(w_u8 (shr .u64 (w_u64 ((w_u64 (p0.length : Int)) * 8)) (w_u64 p1)))])
    else none
    else none
  else some p2
def ref02_pad (n : Nat) (a0 : Str) : Option Str :=
  if fits (((bytesOf a0).length + 1) * 1) then 
  ref02_pad_l1 n a0 ((bytesOf a0) ++ [128]) >>= fun b5 => 
  ref02_pad_l2 n b5.1 56 b5.2 >>= fun b10 => some (strOf b10)
  else none
def ref02_word (n : Nat) (a0 : Str) : Option Int :=
  if within 0 a0.length then 
  if within 1 a0.length then 
  if within 2 a0.length then 
  if within 3 a0.length then some (ior .u32 (ior .u32 (ior .u32 (shl .u32 (w_u32 (bt a0 0)) 24) (shl .u32 (w_u32 (bt a0 1)) 16)) (shl .u32 (w_u32 (bt a0 2)) 8)) (w_u32 (bt a0 3)))
  else none
  else none
  else none
  else none
def ref02_block_l1 : Nat → Str → Int → (List Int) → (List Int) → (List Int) → Option ((List Int) × (List Int) × (List Int))
  | 0, _, _, _, _, _ => none
  | n + 1, p0, p1, p2, p3, p4 =>
  if (decide (p1 < 16)) then 
    if cLo (w_i64 (4 * p1)) p0.length then 
    ref02_word n (p0.drop (w_i64 (4 * p1)).toNat) >>= fun b4 => 
    if within p1 p4.length then 
    if p4.length = 64 then 
    if within p1 p4.length then ref02_block_l1 n p0 (w_i64 (p1 + 1)) p2 p3 (p4.set (p1).toNat b4)
    else none
    else none
    else none
    else none
  else some (p2, p3, p4)
def ref02_right (n : Nat) (a0 : Int) (a1 : Int) : Option Int :=
  if nn (w_u64 a1) then 
  if nn (w_u64 (w_i64 (32 - a1))) then some (ior .u32 (shr .u32 a0 (w_u64 a1)) (shl .u32 a0 (w_u64 (w_i64 (32 - a1)))))
  else none
  else none
def ref02_block_l2 : Nat → Int → (List Int) → (List Int) → (List Int) → Option ((List Int) × (List Int) × (List Int))
  | 0, _, _, _, _ => none
  | n + 1, p0, p1, p2, p3 =>
  if (decide (p0 < 64)) then 
    if within (w_i64 (p0 - 15)) p3.length then 
    if p3.length = 64 then 
    if within (w_i64 (p0 - 15)) p3.length then 
    if within (w_i64 (p0 - 2)) p3.length then 
    if p3.length = 64 then 
    if within (w_i64 (p0 - 2)) p3.length then 
    ref02_right n (rd 0 p3 (w_i64 (p0 - 15))) 7 >>= fun b18 => 
    ref02_right n (rd 0 p3 (w_i64 (p0 - 15))) 18 >>= fun b20 => 
    ref02_right n (rd 0 p3 (w_i64 (p0 - 2))) 17 >>= fun b22 => 
    ref02_right n (rd 0 p3 (w_i64 (p0 - 2))) 19 >>= fun b24 => 
    if within (w_i64 (p0 - 7)) p3.length then 
    if p3.length = 64 then 
    if within (w_i64 (p0 - 7)) p3.length then 
    if within (w_i64 (p0 - 16)) p3.length then 
    if p3.length = 64 then 
    if within (w_i64 (p0 - 16)) p3.length then 
    if within p0 p3.length then 
    if p3.length = 64 then 
    if within p0 p3.length then ref02_block_l2 n (w_i64 (p0 + 1)) p1 p2 (p3.set (p0).toNat (w_u32 ((w_u32 ((w_u32 ((ixor .u32 (ixor .u32 b22 b24) (shr .u32 (rd 0 p3 (w_i64 (p0 - 2))) 10)) + (rd 0 p3 (w_i64 (p0 - 7))))) + (ixor .u32 (ixor .u32 b18 b20) (shr .u32 (rd 0 p3 (w_i64 (p0 - 15))) 3)))) + (rd 0 p3 (w_i64 (p0 - 16))))))
    else none
    else none
    else none
    else none
    else none
    else none
    else none
    else none
    else none
    else none
    else none
    else none
    else none
    else none
    else none
  else some (p1, p2, p3)
def ref02_block_l3 : Nat → Int → (List Int) → (List Int) → (List Int) → (List Int) → Option ((List Int) × (List Int))
  | 0, _, _, _, _, _ => none
  | n + 1, p0, p1, p2, p3, p4 =>
  if (decide (p0 < 64)) then 
    if within 0 p4.length then 
    if p4.length = 8 then 
    if within 0 p4.length then 
    if within 4 p4.length then 
    if p4.length = 8 then 
    if within 4 p4.length then 
    if within 7 p4.length then 
    if p4.length = 8 then 
    if within 7 p4.length then 
    ref02_right n (rd 0 p4 4) 6 >>= fun b49 => 
    ref02_right n (rd 0 p4 4) 11 >>= fun b51 => 
    ref02_right n (rd 0 p4 4) 25 >>= fun b53 => 
    if within 5 p4.length then 
    if p4.length = 8 then 
    if within 5 p4.length then 
    if within 6 p4.length then 
    if p4.length = 8 then 
    if within 6 p4.length then 
    if within p0 p2.length then 
    if p2.length = 64 then 
    if within p0 p2.length then 
    if within p0 p3.length then 
    if p3.length = 64 then 
    if within p0 p3.length then 
    ref02_right n (rd 0 p4 0) 2 >>= fun b67 => 
    ref02_right n (rd 0 p4 0) 13 >>= fun b69 => 
    ref02_right n (rd 0 p4 0) 22 >>= fun b71 => 
    if within 1 p4.length then 
    if p4.length = 8 then 
    if within 1 p4.length then 
    if within 2 p4.length then 
    if p4.length = 8 then 
    if within 2 p4.length then 
    if within 1 p4.length then 
    if p4.length = 8 then 
    if within 1 p4.length then 
    if within 2 p4.length then 
    if p4.length = 8 then 
    if within 2 p4.length then 
    if within 1 p4.length then 
    if p4.length = 8 then 
    if within 1 p4.length then 
    if within 2 p4.length then 
    if p4.length = 8 then 
    if within 2 p4.length then 
    if within 3 p4.length then 
    if p4.length = 8 then 
    if within 3 p4.length then 
    if within 5 p4.length then 
    if p4.length = 8 then 
    if within 5 p4.length then 
    if within 6 p4.length then 
    if p4.length = 8 then 
    if within 6 p4.length then 
    if p4.length = 8 then ref02_block_l3 n (w_i64 (p0 + 1)) p1 p2 p3 [(w_u32 ((w_u32 ((w_u32 ((w_u32 ((w_u32 ((rd 0 p4 7) + (ixor .u32 (ixor .u32 b49 b51) b53))) + (ixor .u32 (iand .u32 (rd 0 p4 4) (rd 0 p4 5)) (iand .u32 (ixor .u32 4294967295 (rd 0 p4 4)) (rd 0 p4 6))))) + (rd 0 p2 p0))) + (rd 0 p3 p0))) + (w_u32 ((ixor .u32 (ixor .u32 b67 b69) b71) + (ixor .u32 (ixor .u32 (iand .u32 (rd 0 p4 0) (rd 0 p4 1)) (iand .u32 (rd 0 p4 0) (rd 0 p4 2))) (iand .u32 (rd 0 p4 1) (rd 0 p4 2))))))), (rd 0 p4 0), (rd 0 p4 1), (rd 0 p4 2), (w_u32 ((rd 0 p4 3) + (w_u32 ((w_u32 ((w_u32 ((w_u32 ((rd 0 p4 7) + (ixor .u32 (ixor .u32 b49 b51) b53))) + (ixor .u32 (iand .u32 (rd 0 p4 4) (rd 0 p4 5)) (iand .u32 (ixor .u32 4294967295 (rd 0 p4 4)) (rd 0 p4 6))))) + (rd 0 p2 p0))) + (rd 0 p3 p0))))), (rd 0 p4 4), (rd 0 p4 5), (rd 0 p4 6)]
    else none
    else none
    else none
    else none
    else none
    else none
    else none
    else none
    else none
    else none
    else none
    else none
    else none
    else none
    else none
    else none
    else none
    else none
    else none
    else none
    else none
    else none
    else none
    else none
    else none
    else none
    else none
    else none
    else none
    else none
    else none
    else none
    else none
    else none
    else none
    else none
    else none
    else none
    else none
    else none
    else none
    else none
    else none
    else none
    else none
    else none
    else none
    else none
    else none
  else some (p1, p4)
def ref02_block_l4 : Nat → Int → (List Int) → (List Int) → Option (List Int)
  | 0, _, _, _ => none
  | n + 1, p0, p1, p2 =>
  if (decide (p0 < 8)) then 
    if within p0 p2.length then 
    if p2.length = 8 then 
    if within p0 p2.length then 
    if within p0 p1.length then 
    if p1.length = 8 then 
    if within p0 p1.length then 
    if within p0 p2.length then 
    if p2.length = 8 then 
    if within p0 p2.length then ref02_block_l4 n (w_i64 (p0 + 1)) p1 (p2.set (p0).toNat (w_u32 ((rd 0 p2 p0) + (rd 0 p1 p0))))
    else none
    else none
    else none
    else none
    else none
    else none
    else none
    else none
    else none
  else some p2
def ref02_block (n : Nat) (a0 : (List Int)) (a1 : (List Int)) (a2 : Str) : Option (List Int) :=
  ref02_block_l1 n a2 0 a0 a1 (List.replicate 64 (0 : Int)) >>= fun b9 => 
  ref02_block_l2 n 16 b9.1 b9.2.1 b9.2.2 >>= fun b35 => 
  if b35.1.length = 8 then 
  if b35.1.length = 8 then 
  ref02_block_l3 n 0 b35.1 b35.2.1 b35.2.2 b35.1 >>= fun b101 => 
  ref02_block_l4 n 0 b101.1 b101.2 >>= fun b113 => 
  if b113.length = 8 then 
  if b113.length = 8 then if b113.length = 8 then some b113 else none
  else none
  else none
  else none
  else none
def ref02_Sum_l1 : Nat → Str → Int → (List Int) → Option (List Int)
  | 0, _, _, _ => none
  | n + 1, p0, p1, p2 =>
  if (decide (p1 < (p0.length : Int))) then 
    if p2.length = 8 then 
    if cLH p1 (w_i64 (p1 + 64)) p0.length then 
    ref02_block n p2 [1116352408, 1899447441, 3049323471, 3921009573, 961987163, 1508970993, 2453635748, 2870763221, 3624381080, 310598401, 607225278, 1426881987, 1925078388, 2162078206, 2614888103, 3248222580, 3835390401, 4022224774, 264347078, 604807628, 770255983, 1249150122, 1555081692, 1996064986, 2554220882, 2821834349, 2952996808, 3210313671, 3336571891, 3584528711, 113926993, 338241895, 666307205, 773529912, 1294757372, 1396182291, 1695183700, 1986661051, 2177026350, 2456956037, 2730485921, 2820302411, 3259730800, 3345764771, 3516065817, 3600352804, 4094571909, 275423344, 430227734, 506948616, 659060556, 883997877, 958139571, 1322822218, 1537002063, 1747873779, 1955562222, 2024104815, 2227730452, 2361852424, 2428436474, 2756734187, 3204031479, 3329325298] ((p0.take (w_i64 (p1 + 64)).toNat).drop (p1).toNat) >>= fun b11 => 
    if b11.length = 8 then 
    if p2.length = 8 then ref02_Sum_l1 n p0 (w_i64 (p1 + 64)) b11
    else none
    else none
    else none
    else none
  else some p2
def ref02_Sum_l2 : Nat → (List Int) → Int → (List Int) → Option (List Int)
  | 0, _, _, _ => none
  | n + 1, p0, p1, p2 =>
  if (decide (p1 < 8)) then 
    if within p1 p0.length then 
    if p0.length = 8 then 
    if fits ((p2.length + 4) * 1) then ref02_Sum_l2 n p0 (w_i64 (p1 + 1)) (p2 ++ [(w_u8 (shr .u32 (rd 0 p0 p1) 24)), (w_u8 (shr .u32 (rd 0 p0 p1) 16)), (w_u8 (shr .u32 (rd 0 p0 p1) 8)), (w_u8 (rd 0 p0 p1))])
    else none
    else none
    else none
  else some p2
def ref02_Sum (n : Nat) (a0 : Str) : Option Str :=
  ref02_first n >>= fun b2 => 
  ref02_constants n >>= fun b4 => 
  ref02_pad n a0 >>= fun b6 => 
  ref02_Sum_l1 n b6 0 [1779033703, 3144134277, 1013904242, 2773480762, 1359893119, 2600822924, 528734635, 1541459225] >>= fun b15 => 
  if b15.length = 8 then 
  ref02_Sum_l2 n b15 0 [] >>= fun b22 => some (strOf b22)
  else none
def ref03_Code (n : Nat) (a0 : Int) : Option (Str × Bool) :=
  if ((decide (a0 < 1)) || (decide (a0 > 8))) then some ([], false)
  else 
    if within a0 (([[], ([69] : Str), ([68] : Str), ([66] : Str), ([65] : Str), ([48, 65] : Str), ([77] : Str), ([83] : Str), ([49, 65, 65, 76] : Str)]).length) then some ((rd [] ([[], ([69] : Str), ([68] : Str), ([66] : Str), ([65] : Str), ([48, 65] : Str), ([77] : Str), ([83] : Str), ([49, 65, 65, 76] : Str)]) a0), true)
    else none
def ref03_Raw (n : Nat) (a0 : Int) : Option Int :=
  if ((decide (a0 < 1)) || (decide (a0 > 8))) then some 0
  else 
    if within a0 9 then some (rd 0 [0, 32, 32, 32, 32, 16, 2, 626, 6] a0)
    else none
def ref03_lead (n : Nat) (a0 : Int) : Option Int :=
  ref03_Raw n a0 >>= fun b2 => some (Int.tmod (w_i64 (3 - (Int.tmod b2 3))) 3)
def ref01_Encode_l1 : Nat → Str → Int → (List Int) → Option (List Int)
  | 0, _, _, _ => none
  | n + 1, p0, p1, p2 =>
  if (decide (p1 < (p0.length : Int))) then 
    if within p1 p0.length then 
    if within (w_i64 (p1 + 1)) p0.length then 
    if within (w_i64 (p1 + 2)) p0.length then 
    if within (shr .i64 (ior .i64 (ior .i64 (shl .i64 (w_i64 (bt p0 p1)) 16) (shl .i64 (w_i64 (bt p0 (w_i64 (p1 + 1)))) 8)) (w_i64 (bt p0 (w_i64 (p1 + 2))))) 18) 64 then 
    if within (iand .i64 (shr .i64 (ior .i64 (ior .i64 (shl .i64 (w_i64 (bt p0 p1)) 16) (shl .i64 (w_i64 (bt p0 (w_i64 (p1 + 1)))) 8)) (w_i64 (bt p0 (w_i64 (p1 + 2))))) 12) 63) 64 then 
    if within (iand .i64 (shr .i64 (ior .i64 (ior .i64 (shl .i64 (w_i64 (bt p0 p1)) 16) (shl .i64 (w_i64 (bt p0 (w_i64 (p1 + 1)))) 8)) (w_i64 (bt p0 (w_i64 (p1 + 2))))) 6) 63) 64 then 
    if within (iand .i64 (ior .i64 (ior .i64 (shl .i64 (w_i64 (bt p0 p1)) 16) (shl .i64 (w_i64 (bt p0 (w_i64 (p1 + 1)))) 8)) (w_i64 (bt p0 (w_i64 (p1 + 2))))) 63) 64 then 
    if fits ((p2.length + ([(bt ([65, 66, 67, 68, 69, 70, 71, 72, 73, 74, 75, 76, 77, 78, 79, 80, 81, 82, 83, 84, 85, 86, 87, 88, 89, 90, 97, 98, 99, 100, 101, 102, 103, 104, 105, 106, 107, 108, 109, 110, 111, 112, 113, 114, 115, 116, 117, 118, 119, 120, 121, 122, 48, 49, 50, 51, 52, 53, 54, 55, 56, 57, 45, 95] : Str) (shr .i64 (ior .i64 (ior .i64 (shl .i64 (w_i64 (bt p0 p1)) 16) (shl .i64 (w_i64 (bt p0 (w_i64 (p1 + 1)))) 8)) (w_i64 (bt p0 (w_i64 (p1 + 2))))) 18)), (bt ([65, 66, 67, 68, 69, 70, 71, 72, 73, 74, 75, 76, 77, 78, 79, 80, 81, 82, 83, 84, 85, 86, 87, 88, 89, 90, 97, 98, 99, 100, 101, 102, 103, 104, 105, 106, 107, 108, 109, 110, 111, 112, 113, 114, 115, 116, 117, 118, 119, 120, 121, 122, 48, 49, 50, 51, 52, 53, 54, 55, 56, 57, 45, 95] : Str) (iand .i64 (shr .i64 (ior .i64 (ior .i64 (shl .i64 (w_i64 (bt p0 p1)) 16) (shl .i64 (w_i64 (bt p0 (w_i64 (p1 + 1)))) 8)) (w_i64 (bt p0 (w_i64 (p1 + 2))))) 12) 63)), (bt ([65, 66, 67, 68, 69, 70, 71, 72, 73, 74, 75, 76, 77, 78, 79, 80, 81, 82, 83, 84, 85, 86, 87, 88, 89, 90, 97, 98, 99, 100, 101, 102, 103, 104, 105, 106, 107, 108, 109, 110, 111, 112, 113, 114, 115, 116, 117, 118, 119, 120, 121, 122, 48, 49, 50, 51, 52, 53, 54, 55, 56, 57, 45, 95] : Str) (iand .i64 (shr .i64 (ior .i64 (ior .i64 (shl .i64 (w_i64 (bt p0 p1)) 16) (shl .i64 (w_i64 (bt p0 (w_i64 (p1 + 1)))) 8)) (w_i64 (bt p0 (w_i64 (p1 + 2))))) 6) 63)), (bt ([65, 66, 67, 68, 69, 70, 71, 72, 73, 74, 75, 76, 77, 78, 79, 80, 81, 82, 83, 84, 85, 86, 87, 88, 89, 90, 97, 98, 99, 100, 101, 102, 103, 104, 105, 106, 107, 108, 109, 110, 111, 112, 113, 114, 115, 116, 117, 118, 119, 120, 121, 122, 48, 49, 50, 51, 52, 53, 54, 55, 56, 57, 45, 95] : Str) (iand .i64 (ior .i64 (ior .i64 (shl .i64 (w_i64 (bt p0 p1)) 16) (shl .i64 (w_i64 (bt p0 (w_i64 (p1 + 1)))) 8)) (w_i64 (bt p0 (w_i64 (p1 + 2))))) 63))]).length) * 1) then ref01_Encode_l1 n p0 (w_i64 (p1 + 3)) (p2 ++ [(bt ([65, 66, 67, 68, 69, 70, 71, 72, 73, 74, 75, 76, 77, 78, 79, 80, 81, 82, 83, 84, 85, 86, 87, 88, 89, 90, 97, 98, 99, 100, 101, 102, 103, 104, 105, 106, 107, 108, 109, 110, 111, 112, 113, 114, 115, 116, 117, 118, 119, 120, 121, 122, 48, 49, 50, 51, 52, 53, 54, 55, 56, 57, 45, 95] : Str) (shr .i64 (ior .i64 (ior .i64 (shl .i64 (w_i64 (bt p0 p1)) 16) (shl .i64 (w_i64 (bt p0 (w_i64 (p1 + 1)))) 8)) (w_i64 (bt p0 (w_i64 (p1 + 2))))) 18)), (bt ([65, 66, 67, 68, 69, 70, 71, 72, 73, 74, 75, 76, 77, 78, 79, 80, 81, 82, 83, 84, 85, 86, 87, 88, 89, 90, 97, 98, 99, 100, 101, 102, 103, 104, 105, 106, 107, 108, 109, 110, 111, 112, 113, 114, 115, 116, 117, 118, 119, 120, 121, 122, 48, 49, 50, 51, 52, 53, 54, 55, 56, 57, 45, 95] : Str) (iand .i64 (shr .i64 (ior .i64 (ior .i64 (shl .i64 (w_i64 (bt p0 p1)) 16) (shl .i64 (w_i64 (bt p0 (w_i64 (p1 + 1)))) 8)) (w_i64 (bt p0 (w_i64 (p1 + 2))))) 12) 63)), (bt ([65, 66, 67, 68, 69, 70, 71, 72, 73, 74, 75, 76, 77, 78, 79, 80, 81, 82, 83, 84, 85, 86, 87, 88, 89, 90, 97, 98, 99, 100, 101, 102, 103, 104, 105, 106, 107, 108, 109, 110, 111, 112, 113, 114, 115, 116, 117, 118, 119, 120, 121, 122, 48, 49, 50, 51, 52, 53, 54, 55, 56, 57, 45, 95] : Str) (iand .i64 (shr .i64 (ior .i64 (ior .i64 (shl .i64 (w_i64 (bt p0 p1)) 16) (shl .i64 (w_i64 (bt p0 (w_i64 (p1 + 1)))) 8)) (w_i64 (bt p0 (w_i64 (p1 + 2))))) 6) 63)), (bt ([65, 66, 67, 68, 69, 70, 71, 72, 73, 74, 75, 76, 77, 78, 79, 80, 81, 82, 83, 84, 85, 86, 87, 88, 89, 90, 97, 98, 99, 100, 101, 102, 103, 104, 105, 106, 107, 108, 109, 110, 111, 112, 113, 114, 115, 116, 117, 118, 119, 120, 121, 122, 48, 49, 50, 51, 52, 53, 54, 55, 56, 57, 45, 95] : Str) (iand .i64 (ior .i64 (ior .i64 (shl .i64 (w_i64 (bt p0 p1)) 16) (shl .i64 (w_i64 (bt p0 (w_i64 (p1 + 1)))) 8)) (w_i64 (bt p0 (w_i64 (p1 + 2))))) 63))])
    else none
    else none
    else none
    else none
    else none
    else none
    else none
    else none
  else some p2
def ref01_Encode (n : Nat) (a0 : Str) : Option (Str × Int) :=
  if (decide ((a0.length : Int) > 65536)) then some ([], 3)
  else 
    if ((Int.tmod (a0.length : Int) 3) != 0) then some ([], 8)
    else 
      ref01_Encode_l1 n a0 0 [] >>= fun b13 => some ((strOf b13), 0)
def ref03_Encode (n : Nat) (a0 : T_api_Primitive) : Option (Str × Int) :=
  ref03_Code n a0.g_Code >>= fun b2 => 
  if (!b2.2) then some ([], 7)
  else 
    ref03_Raw n a0.g_Code >>= fun b5 => 
    if ((a0.g_Raw.length : Int) != b5) then some ([], 8)
    else 
      ref03_lead n a0.g_Code >>= fun b8 => 
      if cLo b8 2 then 
      if fits ((([0, 0] : Str).take (b8).toNat).length + a0.g_Raw.length) then 
      ref01_Encode n ((([0, 0] : Str).take (b8).toNat) ++ a0.g_Raw) >>= fun b12 => 
      if cLo b8 b12.1.length then 
      if fits (b2.1.length + (b12.1.drop (b8).toNat).length) then some ((b2.1 ++ (b12.1.drop (b8).toNat)), 0)
      else none
      else none
      else none
      else none
def ref03_Make (n : Nat) (a0 : Int) (a1 : Str) : Option Str :=
  ref03_Encode n (⟨a0, a1⟩ : T_api_Primitive) >>= fun b2 => some b2.1
def ref10_Digest (n : Nat) (a0 : Str) : Option Str :=
  ref02_Sum n a0 >>= fun b2 => 
  ref03_Make n 1 b2 >>= fun b4 => some b4
def play_Digest (n : Nat) (a0 : Str) : Option Str :=
  ref10_Digest n a0 >>= fun b2 => some b2
def schema_index_l1 : Nat → (List T_api_Field) → Int → Int → (List (Str × T_schema_numbered)) → Option (List (Str × T_schema_numbered))
  | 0, _, _, _, _ => none
  | n + 1, p0, p1, p2, p3 =>
  if (decide (p2 < p1)) then 
    if within p2 p0.length then 
    if (!(alk (fun y => (rd T_api_Field.dft p0 p2).g_Name == y) p3).isSome) then schema_index_l1 n p0 p1 (w_i64 (p2 + 1)) (ast (fun y => (rd T_api_Field.dft p0 p2).g_Name == y) ((rd T_api_Field.dft p0 p2).g_Name) (⟨⟨(rd T_api_Field.dft p0 p2).g_Name, (rd T_api_Field.dft p0 p2).g_Kind, (rd T_api_Field.dft p0 p2).g_Required, (rd T_api_Field.dft p0 p2).g_Least, (rd T_api_Field.dft p0 p2).g_Most⟩, p2⟩ : T_schema_numbered) p3)
    else schema_index_l1 n p0 p1 (w_i64 (p2 + 1)) p3
    else none
  else some p3
def schema_index (n : Nat) (a0 : (List T_api_Field)) : Option (List (Str × T_schema_numbered)) :=
  schema_index_l1 n a0 (a0.length : Int) 0 [] >>= fun b5 => some b5
mutual
def schema_Name_l1 : Nat → Str → Int → Int → Option (Sum Unit Unit)
  | 0, _, _, _ => none
  | n + 1, p0, p1, p2 =>
  if (decide (p2 < p1)) then 
    if within p2 p0.length then 
    if (decide ((bt p0 p2) ≥ 97)) then 
      if within p2 p0.length then schema_Name_j1 n p0 p2 (decide ((bt p0 p2) ≤ 122)) p1 p2
      else none
    else schema_Name_j1 n p0 p2 false p1 p2
    else none
  else some (.inr ())
def schema_Name_j1 : Nat → Str → Int → Bool → Int → Int → Option (Sum Unit Unit)
  | 0, _, _, _, _, _ => none
  | n + 1, p0, p1, p2, p3, p4 =>
  if (!p2) then 
    if (p1 == 0) then some (.inl ())
    else 
      if within p1 p0.length then 
      if ((bt p0 p1) != 95) then 
        if within p1 p0.length then 
        if (decide ((bt p0 p1) < 48)) then some (.inl ())
        else 
          if within p1 p0.length then 
          if (decide ((bt p0 p1) > 57)) then some (.inl ())
          else schema_Name_l1 n p0 p3 (w_i64 (p4 + 1))
          else none
        else none
      else schema_Name_l1 n p0 p3 (w_i64 (p4 + 1))
      else none
  else schema_Name_l1 n p0 p3 (w_i64 (p4 + 1))
end
def schema_Name (n : Nat) (a0 : Str) : Option Bool :=
  if (((a0.length : Int) == 0) || (decide ((a0.length : Int) > 32))) then some false
  else 
    schema_Name_l1 n a0 (a0.length : Int) 0 >>= fun b14 => 
    match b14 with
    | .inl b15 => some false
    | .inr b16 => some true
def schema_bounded (n : Nat) (a0 : T_api_Field) : Option Bool :=
  if (a0.g_Kind == 1) then some (((decide (a0.g_Least ≥ 0)) && (decide (a0.g_Least ≤ a0.g_Most))) && (decide (a0.g_Most ≤ 65536)))
  else 
    if (a0.g_Kind == 2) then some (((decide (a0.g_Least ≥ (-1099511627776))) && (decide (a0.g_Least ≤ a0.g_Most))) && (decide (a0.g_Most ≤ 1099511627776)))
    else 
      if (a0.g_Kind == 3) then some ((a0.g_Least == 0) && (a0.g_Most == 0))
      else 
        if (a0.g_Kind == 4) then some ((a0.g_Least == 0) && (a0.g_Most == 0))
        else some false
def schema_right_1 (n : Nat) (a0 : T_api_Field) : Option Bool :=
  schema_Name n a0.g_Name >>= fun b2 => 
  if (!b2) then some true
  else 
    schema_bounded n a0 >>= fun b5 => some (!b5)
def slices_IndexFunc__api_Field_api_Field_l1 : Nat → (List T_api_Field) → Int → Int → Option (Sum Int Unit)
  | 0, _, _, _ => none
  | n + 1, p0, p1, p2 =>
  if (decide (p2 < p1)) then 
    if within p2 p0.length then 
    schema_right_1 n (rd T_api_Field.dft p0 p2) >>= fun b4 => 
    if b4 then some (.inl p2)
    else slices_IndexFunc__api_Field_api_Field_l1 n p0 p1 (w_i64 (p2 + 1))
    else none
  else some (.inr ())
def slices_IndexFunc__api_Field_api_Field (n : Nat) (a0 : (List T_api_Field)) : Option Int :=
  slices_IndexFunc__api_Field_api_Field_l1 n a0 (a0.length : Int) 0 >>= fun b6 => 
  match b6 with
  | .inl b7 => some b7
  | .inr b8 => some (-1)
def slices_ContainsFunc__api_Field_api_Field (n : Nat) (a0 : (List T_api_Field)) : Option Bool :=
  slices_IndexFunc__api_Field_api_Field n a0 >>= fun b2 => some (decide (b2 ≥ 0))
def schema_right (n : Nat) (a0 : Str) (a1 : (List T_api_Field)) : Option Bool :=
  schema_index n a1 >>= fun b2 => 
  schema_Name n a0 >>= fun b4 => 
  if (((!b4) || (decide ((a1.length : Int) > 32))) || ((b2.length : Int) != (a1.length : Int))) then some false
  else 
    slices_ContainsFunc__api_Field_api_Field n a1 >>= fun b7 => some (!b7)
def node_Text (n : Nat) (a0 : Str) : Option T_api_Node :=some (⟨3, false, 0, a0, [], []⟩ : T_api_Node)
def node_Number (n : Nat) (a0 : Int) : Option T_api_Node :=some (⟨2, false, a0, [], [], []⟩ : T_api_Node)
def schema_flag (n : Nat) (a0 : Bool) : Option T_api_Node :=some (⟨1, a0, 0, [], [], []⟩ : T_api_Node)
mutual
def node_Own_l1 : Nat → Int → Int → Int → Bool → Int → Str → (List T_api_Node) → (List Str) → Option (Int × Bool × Int × Str × (List Str) × (List T_api_Node))
  | 0, _, _, _, _, _, _, _, _ => none
  | n + 1, p0, p1, p2, p3, p4, p5, p6, p7 =>
  if (decide (p1 < p0)) then 
    if within p1 p6.length then 
    if within p1 p6.length then 
    node_Own n (rd T_api_Node.dft p6 p1) >>= fun b9 => 
    if within p1 p6.length then 
    if within p1 p6.length then node_Own_l1 n p0 (w_i64 (p1 + 1)) p2 p3 p4 p5 (p6.set (p1).toNat b9) p7
    else none
    else none
    else none
    else none
  else some (p2, p3, p4, p5, p7, p6)
def node_Own : Nat → T_api_Node → Option T_api_Node
  | 0, _ => none
  | n + 1, a0 =>
  slices_Clone__string_string a0.g_Names >>= fun b2 => 
  slices_Clone__api_Node_api_Node a0.g_Items >>= fun b4 => 
  node_Own_l1 n (b4.length : Int) 0 a0.g_Kind a0.g_Bool a0.g_Number a0.g_Text b4 b2 >>= fun b13 => some (⟨b13.1, b13.2.1, b13.2.2.1, b13.2.2.2.1, b13.2.2.2.2.1, b13.2.2.2.2.2⟩ : T_api_Node)
end
def node_Map (n : Nat) (a0 : (List Str)) (a1 : (List T_api_Node)) : Option T_api_Node :=
  node_Own n (⟨5, false, 0, [], a0, a1⟩ : T_api_Node) >>= fun b2 => some b2
def schema_Make_l1 : Nat → Str → (List T_api_Field) → (List T_api_Field) → Int → Int → (List T_api_Node) → Option (Str × (List T_api_Field) × (List T_api_Node))
  | 0, _, _, _, _, _, _ => none
  | n + 1, p0, p1, p2, p3, p4, p5 =>
  if (decide (p4 < p3)) then 
    if within p4 p2.length then 
    node_Text n ((rd T_api_Field.dft p2 p4).g_Name) >>= fun b7 => 
    node_Number n ((rd T_api_Field.dft p2 p4).g_Kind) >>= fun b9 => 
    schema_flag n ((rd T_api_Field.dft p2 p4).g_Required) >>= fun b11 => 
    node_Number n ((rd T_api_Field.dft p2 p4).g_Least) >>= fun b13 => 
    node_Number n ((rd T_api_Field.dft p2 p4).g_Most) >>= fun b15 => 
    node_Map n ([([110, 97, 109, 101] : Str), ([107, 105, 110, 100] : Str), ([114, 101, 113, 117, 105, 114, 101, 100] : Str), ([108, 101, 97, 115, 116] : Str), ([109, 111, 115, 116] : Str)]) [b7, b9, b11, b13, b15] >>= fun b17 => 
    if fits ((p5.length + 1) * 88) then schema_Make_l1 n p0 p1 p2 p3 (w_i64 (p4 + 1)) (p5 ++ [b17])
    else none
    else none
  else some (p0, p1, p5)
def node_List (n : Nat) (a0 : (List T_api_Node)) : Option T_api_Node :=
  node_Own n (⟨4, false, 0, [], [], a0⟩ : T_api_Node) >>= fun b2 => some b2
def slices_Index__string_string_l1 : Nat → (List Str) → Str → Int → Int → Option (Sum Int Unit)
  | 0, _, _, _, _ => none
  | n + 1, p0, p1, p2, p3 =>
  if (decide (p3 < p2)) then 
    if within p3 p0.length then 
    if (p1 == (rd [] p0 p3)) then some (.inl p3)
    else slices_Index__string_string_l1 n p0 p1 p2 (w_i64 (p3 + 1))
    else none
  else some (.inr ())
def slices_Index__string_string (n : Nat) (a0 : (List Str)) (a1 : Str) : Option Int :=
  slices_Index__string_string_l1 n a0 a1 (a0.length : Int) 0 >>= fun b4 => 
  match b4 with
  | .inl b5 => some b5
  | .inr b6 => some (-1)
def slices_Contains__string_string (n : Nat) (a0 : (List Str)) (a1 : Str) : Option Bool :=
  slices_Index__string_string n a0 a1 >>= fun b2 => some (decide (b2 ≥ 0))
def primitive_forms (n : Nat) : Option Unit :=some ()
def primitive_Size (n : Nat) (a0 : Int) : Option Int :=
  primitive_forms n >>= fun b2 => 
  if (!(alk (fun y => a0 == y) (ast (fun y => 8 == y) 8 (⟨([49, 65, 65, 76] : Str), 6⟩ : T_primitive_form) (ast (fun y => 7 == y) 7 (⟨([83] : Str), 626⟩ : T_primitive_form) (ast (fun y => 6 == y) 6 (⟨([77] : Str), 2⟩ : T_primitive_form) (ast (fun y => 5 == y) 5 (⟨([48, 65] : Str), 16⟩ : T_primitive_form) (ast (fun y => 4 == y) 4 (⟨([65] : Str), 32⟩ : T_primitive_form) (ast (fun y => 3 == y) 3 (⟨([66] : Str), 32⟩ : T_primitive_form) (ast (fun y => 2 == y) 2 (⟨([68] : Str), 32⟩ : T_primitive_form) (ast (fun y => 1 == y) 1 (⟨([69] : Str), 32⟩ : T_primitive_form) []))))))))).isSome) then some 0
  else 
    primitive_form_size n ((alk (fun y => a0 == y) (ast (fun y => 8 == y) 8 (⟨([49, 65, 65, 76] : Str), 6⟩ : T_primitive_form) (ast (fun y => 7 == y) 7 (⟨([83] : Str), 626⟩ : T_primitive_form) (ast (fun y => 6 == y) 6 (⟨([77] : Str), 2⟩ : T_primitive_form) (ast (fun y => 5 == y) 5 (⟨([48, 65] : Str), 16⟩ : T_primitive_form) (ast (fun y => 4 == y) 4 (⟨([65] : Str), 32⟩ : T_primitive_form) (ast (fun y => 3 == y) 3 (⟨([66] : Str), 32⟩ : T_primitive_form) (ast (fun y => 2 == y) 2 (⟨([68] : Str), 32⟩ : T_primitive_form) (ast (fun y => 1 == y) 1 (⟨([69] : Str), 32⟩ : T_primitive_form) []))))))))).getD T_primitive_form.dft) >>= fun b5 => some b5
def said_Dummy (n : Nat) : Option Str :=
  primitive_Size n 1 >>= fun b2 => 
  strings_Repeat n ([35] : Str) b2 >>= fun b4 => some b4
def node_place (n : Nat) (a0 : T_api_Node) (a1 : Str) : Option Int :=
  if (a0.g_Kind != 5) then some (-1)
  else 
    if cLo (if (a0.g_Items.length : Int) < (a0.g_Names.length : Int) then (a0.g_Items.length : Int) else (a0.g_Names.length : Int)) a0.g_Names.length then 
    slices_Index__string_string n (a0.g_Names.take (if (a0.g_Items.length : Int) < (a0.g_Names.length : Int) then (a0.g_Items.length : Int) else (a0.g_Names.length : Int)).toNat) a1 >>= fun b4 => some b4
    else none
def node_Set (n : Nat) (a0 : T_api_Node) (a1 : Str) (a2 : T_api_Node) : Option T_api_Node :=
  node_Own n a0 >>= fun b2 => 
  node_place n a0 a1 >>= fun b4 => 
  if (decide (b4 ≥ 0)) then 
    node_Own n a2 >>= fun b7 => 
    if within b4 b2.g_Items.length then 
    if within b4 b2.g_Items.length then some (⟨b2.g_Kind, b2.g_Bool, b2.g_Number, b2.g_Text, b2.g_Names, (b2.g_Items.set (b4).toNat b7)⟩ : T_api_Node)
    else none
    else none
  else 
    if fits ((b2.g_Names.length + 1) * 16) then 
    node_Own n a2 >>= fun b12 => 
    if fits ((b2.g_Items.length + 1) * 88) then some (⟨b2.g_Kind, b2.g_Bool, b2.g_Number, b2.g_Text, (b2.g_Names ++ [a1]), (b2.g_Items ++ [b12])⟩ : T_api_Node)
    else none
    else none
def said_all_l1 : Nat → Str → (List Str) → Int → Int → T_api_Node → Option T_api_Node
  | 0, _, _, _, _, _ => none
  | n + 1, p0, p1, p2, p3, p4 =>
  if (decide (p3 < p2)) then 
    if within p3 p1.length then 
    node_Text n p0 >>= fun b4 => 
    node_Set n p4 (rd [] p1 p3) b4 >>= fun b6 => said_all_l1 n p0 p1 p2 (w_i64 (p3 + 1)) b6
    else none
  else some p4
def said_all (n : Nat) (a0 : T_api_Node) (a1 : (List Str)) (a2 : Str) : Option T_api_Node :=
  said_all_l1 n a2 a1 (a1.length : Int) 0 a0 >>= fun b8 => some b8
def version_names (n : Nat) : Option Unit :=some ()
def version_protocol_l1 : Nat → Str → Str → Nat → Option (Sum Unit Str)
  | 0, _, _, _ => none
  | n + 1, p0, p1, p2 =>
  if p2 < p1.length then 
    if ((decide (((sdec p1 p2).1 : Int) < 65)) || (decide (((sdec p1 p2).1 : Int) > 90))) then some (.inl ())
    else version_protocol_l1 n p0 p1 (p2 + (sdec p1 p2).2)
  else some (.inr p0)
def version_protocol (n : Nat) (a0 : Str) : Option Bool :=
  version_protocol_l1 n a0 a0 0 >>= fun b3 => 
  match b3 with
  | .inl b4 => some false
  | .inr b5 => some ((b5.length : Int) == 4)
def version_Valid (n : Nat) (a0 : T_api_Version) : Option Bool :=
  version_names n >>= fun b2 => 
  if (alk (fun y => a0.g_Form == y) (ast (fun y => 3 == y) 3 ([77, 71, 80, 75] : Str) (ast (fun y => 2 == y) 2 ([67, 66, 79, 82] : Str) (ast (fun y => 1 == y) 1 ([74, 83, 79, 78] : Str) [])))).isSome then 
    version_protocol n a0.g_Protocol >>= fun b5 => some ((((((b5 && (decide (a0.g_Major ≥ 0))) && (decide (a0.g_Major ≤ 15))) && (decide (a0.g_Minor ≥ 0))) && (decide (a0.g_Minor ≤ 15))) && (decide (a0.g_Size ≥ 0))) && (decide (a0.g_Size ≤ 16777215)))
  else some false
def version_hex (n : Nat) (a0 : Int) (a1 : Int) : Option Str :=
  strconv_FormatInt a0 16 >>= fun b2 => 
  strings_Repeat n ([48] : Str) (w_i64 (a1 - (b2.length : Int))) >>= fun b4 => 
  if fits (b4.length + b2.length) then some (b4 ++ b2)
  else none
def version_Text (n : Nat) (a0 : T_api_Version) : Option (Str × Int) :=
  version_Valid n a0 >>= fun b2 => 
  if (!b2) then some ([], 2)
  else 
    version_hex n a0.g_Major 1 >>= fun b5 => 
    if fits (a0.g_Protocol.length + b5.length) then 
    version_hex n a0.g_Minor 1 >>= fun b8 => 
    if fits ((a0.g_Protocol ++ b5).length + b8.length) then 
    version_names n >>= fun b11 => 
    if fits (((a0.g_Protocol ++ b5) ++ b8).length + ((alk (fun y => a0.g_Form == y) (ast (fun y => 3 == y) 3 ([77, 71, 80, 75] : Str) (ast (fun y => 2 == y) 2 ([67, 66, 79, 82] : Str) (ast (fun y => 1 == y) 1 ([74, 83, 79, 78] : Str) [])))).getD []).length) then 
    version_hex n a0.g_Size 6 >>= fun b14 => 
    if fits ((((a0.g_Protocol ++ b5) ++ b8) ++ ((alk (fun y => a0.g_Form == y) (ast (fun y => 3 == y) 3 ([77, 71, 80, 75] : Str) (ast (fun y => 2 == y) 2 ([67, 66, 79, 82] : Str) (ast (fun y => 1 == y) 1 ([74, 83, 79, 78] : Str) [])))).getD [])).length + b14.length) then 
    if fits (((((a0.g_Protocol ++ b5) ++ b8) ++ ((alk (fun y => a0.g_Form == y) (ast (fun y => 3 == y) 3 ([77, 71, 80, 75] : Str) (ast (fun y => 2 == y) 2 ([67, 66, 79, 82] : Str) (ast (fun y => 1 == y) 1 ([74, 83, 79, 78] : Str) [])))).getD [])) ++ b14).length + 1) then some ((((((a0.g_Protocol ++ b5) ++ b8) ++ ((alk (fun y => a0.g_Form == y) (ast (fun y => 3 == y) 3 ([77, 71, 80, 75] : Str) (ast (fun y => 2 == y) 2 ([67, 66, 79, 82] : Str) (ast (fun y => 1 == y) 1 ([74, 83, 79, 78] : Str) [])))).getD [])) ++ b14) ++ ([95] : Str)), 0)
    else none
    else none
    else none
    else none
    else none
def slices_Index__string_string_i2_l1 : Nat → Str → Int → Int → (List Str) → Option (Sum (Int × (List Str)) (List Str))
  | 0, _, _, _, _ => none
  | n + 1, p0, p1, p2, p3 =>
  if (decide (p2 < p1)) then 
    if within p2 p3.length then 
    if within p2 p3.length then 
    if (p0 == (rd [] p3 p2)) then some (.inl (p2, p3))
    else slices_Index__string_string_i2_l1 n p0 p1 (w_i64 (p2 + 1)) p3
    else none
    else none
  else some (.inr p3)
def slices_Index__string_string_i2 (n : Nat) (a0 : Str) (a1 : (List Str)) : Option (Int × (List Str)) :=
  slices_Index__string_string_i2_l1 n a0 (a1.length : Int) 0 a1 >>= fun b5 => 
  match b5 with
  | .inl b6 => some (b6.1, b6.2)
  | .inr b7 => some ((-1), b7)
def version_Fit_j1 (n : Nat) (p0 : Int) (p1 : Str) (p2 : T_api_Version) (p3 : Int) (p4 : Bool) (p5 : Int) (p6 : Str) (p7 : (List Str)) (p8 : (List T_api_Node)) : Option (T_api_Node × Str × Int) :=
  slices_Insert__string_string 0 ([([118] : Str)]) p7 >>= fun b18 => 
  slices_Insert__api_Node_api_Node 0 ([(⟨0, false, 0, [], [], []⟩ : T_api_Node)]) p8 >>= fun b20 => 
  node_Text n p1 >>= fun b26 => 
  node_Set n (⟨p3, p4, p5, p6, b18, b20⟩ : T_api_Node) ([118] : Str) b26 >>= fun b28 => 
  pack_EncodeAs p0 b28 >>= fun b30 => 
  if (b30.2 != 0) then some ((⟨0, false, 0, [], [], []⟩ : T_api_Node), [], b30.2)
  else 
    version_Text n (⟨p2.g_Protocol, p2.g_Major, p2.g_Minor, p2.g_Form, (b30.1.length : Int)⟩ : T_api_Version) >>= fun b33 => 
    node_Text n b33.1 >>= fun b35 => 
    node_Set n b28 ([118] : Str) b35 >>= fun b37 => 
    pack_EncodeAs p0 b37 >>= fun b39 => some (b37, b39.1, b39.2)
def version_Fit (n : Nat) (a0 : T_api_Node) (a1 : Str) (a2 : Int) : Option (T_api_Node × Str × Int) :=
  version_Text n (⟨a1, 1, 0, a2, 0⟩ : T_api_Version) >>= fun b2 => 
  if (b2.2 != 0) then some ((⟨0, false, 0, [], [], []⟩ : T_api_Node), [], 2)
  else 
    if (a0.g_Kind != 5) then some ((⟨0, false, 0, [], [], []⟩ : T_api_Node), [], 1)
    else 
      node_Valid n a0 >>= fun b6 => 
      if (!b6) then some ((⟨0, false, 0, [], [], []⟩ : T_api_Node), [], 1)
      else 
        node_Own n a0 >>= fun b9 => 
        slices_Index__string_string_i2 n ([118] : Str) b9.g_Names >>= fun b11 => 
        if (decide (b11.1 ≥ 0)) then 
          slices_Delete__string_string b11.1 (w_i64 (b11.1 + 1)) b11.2 >>= fun b14 => 
          slices_Delete__api_Node_api_Node b11.1 (w_i64 (b11.1 + 1)) b9.g_Items >>= fun b16 => version_Fit_j1 n a2 b2.1 (⟨a1, 1, 0, a2, 0⟩ : T_api_Version) b9.g_Kind b9.g_Bool b9.g_Number b9.g_Text b14 b16
        else version_Fit_j1 n a2 b2.1 (⟨a1, 1, 0, a2, 0⟩ : T_api_Version) b9.g_Kind b9.g_Bool b9.g_Number b9.g_Text b11.2 b9.g_Items
def hash_begin (n : Nat) : Option Unit :=some ()
def hash_constants (n : Nat) : Option Unit :=some ()
def strings_Builder_WriteString (n : Nat) (a0 : Str) : Option (Int × (List Int)) :=
  strings_Builder_copyCheck >>= fun b2 => 
  if fits ((bytesOf a0).length * 1) then some ((a0.length : Int), (bytesOf a0))
  else none
def strings_Builder_WriteByte (n : Nat) (a0 : Int) (a1 : (List Int)) : Option (List Int) :=
  strings_Builder_copyCheck_i2 a1 >>= fun b2 => 
  if fits ((a1.length + 1) * 1) then some (a1 ++ [a0])
  else none
def strings_Builder_WriteString_i2 (n : Nat) (a0 : Str) (a1 : (List Int)) : Option (Int × (List Int)) :=
  strings_Builder_copyCheck_i2 a1 >>= fun b2 => 
  if fits ((a1.length + (bytesOf a0).length) * 1) then some ((a0.length : Int), (a1 ++ (bytesOf a0)))
  else none
def hash_rest_l1 : Nat → Int → Int → (List Int) → Option (List Int)
  | 0, _, _, _ => none
  | n + 1, p0, p1, p2 =>
  if (decide (p1 ≥ 0)) then 
    if nn (w_i64 (8 * p1)) then 
    strings_Builder_WriteByte n (w_u8 (shr .u64 p0 (w_i64 (8 * p1)))) p2 >>= fun b12 => hash_rest_l1 n p0 (w_i64 (p1 - 1)) b12
    else none
  else some p2
def hash_rest (n : Nat) (a0 : Str) (a1 : Int) : Option Str :=
  strings_Builder_WriteString n a0 >>= fun b2 => 
  strings_Builder_WriteByte n 128 b2.2 >>= fun b4 => 
  strings_Repeat n ([0] : Str) (Int.tmod (w_i64 (119 - (Int.tmod (a0.length : Int) 64))) 64) >>= fun b6 => 
  strings_Builder_WriteString_i2 n b6 b4 >>= fun b8 => 
  hash_rest_l1 n (w_u64 ((w_u64 a1) * 8)) 7 b8.2 >>= fun b14 => 
  strings_Builder_String b14 >>= fun b16 => some b16
def hash_state_add_l1 : Nat → Str → Int → (List Int) → (List Int) → (List Int) → Option ((List Int) × (List Int) × (List Int))
  | 0, _, _, _, _, _ => none
  | n + 1, p0, p1, p2, p3, p4 =>
  if (decide (p1 < 16)) then 
    if within (w_i64 (4 * p1)) p0.length then 
    if within (w_i64 ((w_i64 (4 * p1)) + 1)) p0.length then 
    if within (w_i64 ((w_i64 (4 * p1)) + 2)) p0.length then 
    if within (w_i64 ((w_i64 (4 * p1)) + 3)) p0.length then 
    if within p1 p4.length then 
    if p4.length = 64 then 
    if within p1 p4.length then hash_state_add_l1 n p0 (w_i64 (p1 + 1)) p2 p3 (p4.set (p1).toNat (ior .u32 (ior .u32 (ior .u32 (shl .u32 (w_u32 (bt p0 (w_i64 (4 * p1)))) 24) (shl .u32 (w_u32 (bt p0 (w_i64 ((w_i64 (4 * p1)) + 1)))) 16)) (shl .u32 (w_u32 (bt p0 (w_i64 ((w_i64 (4 * p1)) + 2)))) 8)) (w_u32 (bt p0 (w_i64 ((w_i64 (4 * p1)) + 3))))))
    else none
    else none
    else none
    else none
    else none
    else none
    else none
  else some (p2, p3, p4)
def math_bits_RotateLeft32 (n : Nat) (a0 : Int) (a1 : Int) : Option Int :=
  if nn (iand .u64 (w_u64 a1) 31) then 
  if nn (w_u64 (32 - (iand .u64 (w_u64 a1) 31))) then some (ior .u32 (shl .u32 a0 (iand .u64 (w_u64 a1) 31)) (shr .u32 a0 (w_u64 (32 - (iand .u64 (w_u64 a1) 31)))))
  else none
  else none
def hash_right (n : Nat) (a0 : Int) (a1 : Int) : Option Int :=
  math_bits_RotateLeft32 n a0 (w_i64 (0 - a1)) >>= fun b2 => some b2
def hash_state_add_l2 : Nat → Int → (List Int) → (List Int) → (List Int) → Option ((List Int) × (List Int) × (List Int))
  | 0, _, _, _, _ => none
  | n + 1, p0, p1, p2, p3 =>
  if (decide (p0 < 64)) then 
    if within (w_i64 (p0 - 15)) p3.length then 
    if p3.length = 64 then 
    if within (w_i64 (p0 - 15)) p3.length then 
    if within (w_i64 (p0 - 2)) p3.length then 
    if p3.length = 64 then 
    if within (w_i64 (p0 - 2)) p3.length then 
    hash_right n (rd 0 p3 (w_i64 (p0 - 15))) 7 >>= fun b19 => 
    hash_right n (rd 0 p3 (w_i64 (p0 - 15))) 18 >>= fun b21 => 
    hash_right n (rd 0 p3 (w_i64 (p0 - 2))) 17 >>= fun b23 => 
    hash_right n (rd 0 p3 (w_i64 (p0 - 2))) 19 >>= fun b25 => 
    if within (w_i64 (p0 - 7)) p3.length then 
    if p3.length = 64 then 
    if within (w_i64 (p0 - 7)) p3.length then 
    if within (w_i64 (p0 - 16)) p3.length then 
    if p3.length = 64 then 
    if within (w_i64 (p0 - 16)) p3.length then 
    if within p0 p3.length then 
    if p3.length = 64 then 
    if within p0 p3.length then hash_state_add_l2 n (w_i64 (p0 + 1)) p1 p2 (p3.set (p0).toNat (w_u32 ((w_u32 ((w_u32 ((ixor .u32 (ixor .u32 b23 b25) (shr .u32 (rd 0 p3 (w_i64 (p0 - 2))) 10)) + (rd 0 p3 (w_i64 (p0 - 7))))) + (ixor .u32 (ixor .u32 b19 b21) (shr .u32 (rd 0 p3 (w_i64 (p0 - 15))) 3)))) + (rd 0 p3 (w_i64 (p0 - 16))))))
    else none
    else none
    else none
    else none
    else none
    else none
    else none
    else none
    else none
    else none
    else none
    else none
    else none
    else none
    else none
  else some (p1, p2, p3)
def hash_state_add_l3 : Nat → Int → (List Int) → (List Int) → (List Int) → (List Int) → Option ((List Int) × (List Int) × (List Int))
  | 0, _, _, _, _, _ => none
  | n + 1, p0, p1, p2, p3, p4 =>
  if (decide (p0 < 64)) then 
    if within 0 p4.length then 
    if p4.length = 8 then 
    if within 0 p4.length then 
    if within 4 p4.length then 
    if p4.length = 8 then 
    if within 4 p4.length then 
    if within 7 p4.length then 
    if p4.length = 8 then 
    if within 7 p4.length then 
    hash_right n (rd 0 p4 4) 6 >>= fun b50 => 
    hash_right n (rd 0 p4 4) 11 >>= fun b52 => 
    hash_right n (rd 0 p4 4) 25 >>= fun b54 => 
    if within 5 p4.length then 
    if p4.length = 8 then 
    if within 5 p4.length then 
    if within 6 p4.length then 
    if p4.length = 8 then 
    if within 6 p4.length then 
    if within p0 p2.length then 
    if p2.length = 64 then 
    if within p0 p2.length then 
    if within p0 p3.length then 
    if p3.length = 64 then 
    if within p0 p3.length then 
    hash_right n (rd 0 p4 0) 2 >>= fun b68 => 
    hash_right n (rd 0 p4 0) 13 >>= fun b70 => 
    hash_right n (rd 0 p4 0) 22 >>= fun b72 => 
    if within 1 p4.length then 
    if p4.length = 8 then 
    if within 1 p4.length then 
    if within 2 p4.length then 
    if p4.length = 8 then 
    if within 2 p4.length then 
    if within 1 p4.length then 
    if p4.length = 8 then 
    if within 1 p4.length then 
    if within 2 p4.length then 
    if p4.length = 8 then 
    if within 2 p4.length then 
    if within 0 p4.length then 
    if p4.length = 8 then 
    if within 0 p4.length then 
    if within 1 p4.length then 
    if p4.length = 8 then 
    if within 1 p4.length then 
    if within 2 p4.length then 
    if p4.length = 8 then 
    if within 2 p4.length then 
    if within 3 p4.length then 
    if p4.length = 8 then 
    if within 3 p4.length then 
    if within 4 p4.length then 
    if p4.length = 8 then 
    if within 4 p4.length then 
    if within 5 p4.length then 
    if p4.length = 8 then 
    if within 5 p4.length then 
    if within 6 p4.length then 
    if p4.length = 8 then 
    if within 6 p4.length then 
    if p4.length = 8 then hash_state_add_l3 n (w_i64 (p0 + 1)) p1 p2 p3 [(w_u32 ((w_u32 ((w_u32 ((w_u32 ((w_u32 ((rd 0 p4 7) + (ixor .u32 (ixor .u32 b50 b52) b54))) + (ixor .u32 (iand .u32 (rd 0 p4 4) (rd 0 p4 5)) (iand .u32 (ixor .u32 4294967295 (rd 0 p4 4)) (rd 0 p4 6))))) + (rd 0 p2 p0))) + (rd 0 p3 p0))) + (w_u32 ((ixor .u32 (ixor .u32 b68 b70) b72) + (ixor .u32 (ixor .u32 (iand .u32 (rd 0 p4 0) (rd 0 p4 1)) (iand .u32 (rd 0 p4 0) (rd 0 p4 2))) (iand .u32 (rd 0 p4 1) (rd 0 p4 2))))))), (rd 0 p4 0), (rd 0 p4 1), (rd 0 p4 2), (w_u32 ((rd 0 p4 3) + (w_u32 ((w_u32 ((w_u32 ((w_u32 ((rd 0 p4 7) + (ixor .u32 (ixor .u32 b50 b52) b54))) + (ixor .u32 (iand .u32 (rd 0 p4 4) (rd 0 p4 5)) (iand .u32 (ixor .u32 4294967295 (rd 0 p4 4)) (rd 0 p4 6))))) + (rd 0 p2 p0))) + (rd 0 p3 p0))))), (rd 0 p4 4), (rd 0 p4 5), (rd 0 p4 6)]
    else none
    else none
    else none
    else none
    else none
    else none
    else none
    else none
    else none
    else none
    else none
    else none
    else none
    else none
    else none
    else none
    else none
    else none
    else none
    else none
    else none
    else none
    else none
    else none
    else none
    else none
    else none
    else none
    else none
    else none
    else none
    else none
    else none
    else none
    else none
    else none
    else none
    else none
    else none
    else none
    else none
    else none
    else none
    else none
    else none
    else none
    else none
    else none
    else none
    else none
    else none
    else none
    else none
    else none
    else none
  else some (p1, p2, p4)
def hash_state_add_l4 : Nat → (List Int) → Int → (List Int) → (List Int) → Option ((List Int) × (List Int))
  | 0, _, _, _, _ => none
  | n + 1, p0, p1, p2, p3 =>
  if (decide (p1 < 8)) then 
    if within p1 p0.length then 
    if p0.length = 8 then 
    if within p1 p2.length then 
    if p2.length = 8 then 
    if within p1 p2.length then 
    if within p1 p2.length then 
    if p2.length = 8 then 
    if within p1 p2.length then hash_state_add_l4 n p0 (w_i64 (p1 + 1)) (p2.set (p1).toNat (w_u32 ((rd 0 p2 p1) + (rd 0 p0 p1)))) p3
    else none
    else none
    else none
    else none
    else none
    else none
    else none
    else none
  else some (p2, p3)
def hash_state_add (n : Nat) (a0 : Str) (a1 : (List Int)) (a2 : (List Int)) : Option ((List Int) × (List Int)) :=
  hash_state_add_l1 n a0 0 a1 a2 (List.replicate 64 (0 : Int)) >>= fun b10 => 
  hash_state_add_l2 n 16 b10.1 b10.2.1 b10.2.2 >>= fun b36 => 
  if b36.1.length = 8 then 
  if b36.1.length = 8 then 
  hash_state_add_l3 n 0 b36.1 b36.2.1 b36.2.2 b36.1 >>= fun b108 => 
  if b108.2.2.length = 8 then 
  hash_state_add_l4 n b108.2.2 0 b108.1 b108.2.1 >>= fun b120 => some (b120.1, b120.2)
  else none
  else none
  else none
def hash_Sum_l2 : Nat → Str → (List Str) → Int → (List Int) → (List Int) → Option ((List Str) × Int × (List Int) × (List Int))
  | 0, _, _, _, _, _ => none
  | n + 1, p0, p1, p2, p3, p4 =>
  if (!(p0 == [])) then 
    hash_state_add n p0 p3 p4 >>= fun b13 => 
    if cLo 64 p0.length then hash_Sum_l2 n (p0.drop 64) p1 p2 b13.1 b13.2
    else none
  else some (p1, p2, p3, p4)
def hash_Sum_l1 : Nat → (List Str) → Int → (List Int) → (List Int) → Option (List Int)
  | 0, _, _, _, _ => none
  | n + 1, p0, p1, p2, p3 =>
  if (decide (p1 < 2)) then 
    if within p1 p0.length then 
    hash_Sum_l2 n (rd [] p0 p1) p0 p1 p2 p3 >>= fun b16 => hash_Sum_l1 n b16.1 (w_i64 (b16.2.1 + 1)) b16.2.2.1 b16.2.2.2
    else none
  else some p2
def hash_Sum_l3 : Nat → (List Int) → Int → (List Int) → Option (List Int)
  | 0, _, _, _ => none
  | n + 1, p0, p1, p2 =>
  if (decide (p1 < 8)) then 
    if within p1 p0.length then 
    if p0.length = 8 then 
    if within (w_i64 (4 * p1)) p2.length then 
    if p2.length = 32 then 
    if within (w_i64 (4 * p1)) p2.length then 
    if within (w_i64 ((w_i64 (4 * p1)) + 1)) ((p2.set (w_i64 (4 * p1)).toNat (w_u8 (shr .u32 (rd 0 p0 p1) 24))).length) then 
    if (p2.set (w_i64 (4 * p1)).toNat (w_u8 (shr .u32 (rd 0 p0 p1) 24))).length = 32 then 
    if within (w_i64 ((w_i64 (4 * p1)) + 1)) ((p2.set (w_i64 (4 * p1)).toNat (w_u8 (shr .u32 (rd 0 p0 p1) 24))).length) then 
    if within (w_i64 ((w_i64 (4 * p1)) + 2)) (((p2.set (w_i64 (4 * p1)).toNat (w_u8 (shr .u32 (rd 0 p0 p1) 24))).set (w_i64 ((w_i64 (4 * p1)) + 1)).toNat (w_u8 (shr .u32 (rd 0 p0 p1) 16))).length) then 
    if ((p2.set (w_i64 (4 * p1)).toNat (w_u8 (shr .u32 (rd 0 p0 p1) 24))).set (w_i64 ((w_i64 (4 * p1)) + 1)).toNat (w_u8 (shr .u32 (rd 0 p0 p1) 16))).length = 32 then 
    if within (w_i64 ((w_i64 (4 * p1)) + 2)) (((p2.set (w_i64 (4 * p1)).toNat (w_u8 (shr .u32 (rd 0 p0 p1) 24))).set (w_i64 ((w_i64 (4 * p1)) + 1)).toNat (w_u8 (shr .u32 (rd 0 p0 p1) 16))).length) then 
    if within (w_i64 ((w_i64 (4 * p1)) + 3)) ((((p2.set (w_i64 (4 * p1)).toNat (w_u8 (shr .u32 (rd 0 p0 p1) 24))).set (w_i64 ((w_i64 (4 * p1)) + 1)).toNat (w_u8 (shr .u32 (rd 0 p0 p1) 16))).set (w_i64 ((w_i64 (4 * p1)) + 2)).toNat (w_u8 (shr .u32 (rd 0 p0 p1) 8))).length) then 
    if (((p2.set (w_i64 (4 * p1)).toNat (w_u8 (shr .u32 (rd 0 p0 p1) 24))).set (w_i64 ((w_i64 (4 * p1)) + 1)).toNat (w_u8 (shr .u32 (rd 0 p0 p1) 16))).set (w_i64 ((w_i64 (4 * p1)) + 2)).toNat (w_u8 (shr .u32 (rd 0 p0 p1) 8))).length = 32 then 
    if within (w_i64 ((w_i64 (4 * p1)) + 3)) ((((p2.set (w_i64 (4 * p1)).toNat (w_u8 (shr .u32 (rd 0 p0 p1) 24))).set (w_i64 ((w_i64 (4 * p1)) + 1)).toNat (w_u8 (shr .u32 (rd 0 p0 p1) 16))).set (w_i64 ((w_i64 (4 * p1)) + 2)).toNat (w_u8 (shr .u32 (rd 0 p0 p1) 8))).length) then hash_Sum_l3 n p0 (w_i64 (p1 + 1)) ((((p2.set (w_i64 (4 * p1)).toNat (w_u8 (shr .u32 (rd 0 p0 p1) 24))).set (w_i64 ((w_i64 (4 * p1)) + 1)).toNat (w_u8 (shr .u32 (rd 0 p0 p1) 16))).set (w_i64 ((w_i64 (4 * p1)) + 2)).toNat (w_u8 (shr .u32 (rd 0 p0 p1) 8))).set (w_i64 ((w_i64 (4 * p1)) + 3)).toNat (w_u8 (rd 0 p0 p1)))
    else none
    else none
    else none
    else none
    else none
    else none
    else none
    else none
    else none
    else none
    else none
    else none
    else none
    else none
  else some p2
def hash_Sum (n : Nat) (a0 : Str) : Option Str :=
  hash_begin n >>= fun b2 => 
  hash_constants n >>= fun b4 => 
  if cLo (w_i64 ((w_i64 (Int.tdiv (a0.length : Int) 64)) * 64)) a0.length then 
  if cLo (w_i64 ((w_i64 (Int.tdiv (a0.length : Int) 64)) * 64)) a0.length then 
  hash_rest n (a0.drop (w_i64 ((w_i64 (Int.tdiv (a0.length : Int) 64)) * 64)).toNat) (a0.length : Int) >>= fun b8 => 
  hash_Sum_l1 n [(a0.take (w_i64 ((w_i64 (Int.tdiv (a0.length : Int) 64)) * 64)).toNat), b8] 0 [1779033703, 3144134277, 1013904242, 2773480762, 1359893119, 2600822924, 528734635, 1541459225] [1116352408, 1899447441, 3049323471, 3921009573, 961987163, 1508970993, 2453635748, 2870763221, 3624381080, 310598401, 607225278, 1426881987, 1925078388, 2162078206, 2614888103, 3248222580, 3835390401, 4022224774, 264347078, 604807628, 770255983, 1249150122, 1555081692, 1996064986, 2554220882, 2821834349, 2952996808, 3210313671, 3336571891, 3584528711, 113926993, 338241895, 666307205, 773529912, 1294757372, 1396182291, 1695183700, 1986661051, 2177026350, 2456956037, 2730485921, 2820302411, 3259730800, 3345764771, 3516065817, 3600352804, 4094571909, 275423344, 430227734, 506948616, 659060556, 883997877, 958139571, 1322822218, 1537002063, 1747873779, 1955562222, 2024104815, 2227730452, 2361852424, 2428436474, 2756734187, 3204031479, 3329325298] >>= fun b18 => 
  if b18.length = 8 then 
  hash_Sum_l3 n b18 0 (List.replicate 32 (0 : Int)) >>= fun b36 => 
  if b36.length = 32 then some (strOf b36)
  else none
  else none
  else none
  else none
def base64_Encode_l1 : Nat → Str → (List Int) → Option (List Int)
  | 0, _, _ => none
  | n + 1, p0, p1 =>
  if (!(p0 == [])) then 
    if within 0 p0.length then 
    if within 1 p0.length then 
    if within 2 p0.length then 
    if within (shr .i64 (ior .i64 (ior .i64 (shl .i64 (w_i64 (bt p0 0)) 16) (shl .i64 (w_i64 (bt p0 1)) 8)) (w_i64 (bt p0 2))) 18) 64 then 
    if within (iand .i64 (shr .i64 (ior .i64 (ior .i64 (shl .i64 (w_i64 (bt p0 0)) 16) (shl .i64 (w_i64 (bt p0 1)) 8)) (w_i64 (bt p0 2))) 12) 63) 64 then 
    if within (iand .i64 (shr .i64 (ior .i64 (ior .i64 (shl .i64 (w_i64 (bt p0 0)) 16) (shl .i64 (w_i64 (bt p0 1)) 8)) (w_i64 (bt p0 2))) 6) 63) 64 then 
    if within (iand .i64 (ior .i64 (ior .i64 (shl .i64 (w_i64 (bt p0 0)) 16) (shl .i64 (w_i64 (bt p0 1)) 8)) (w_i64 (bt p0 2))) 63) 64 then 
    if fits ((p1.length + ([(bt ([65, 66, 67, 68, 69, 70, 71, 72, 73, 74, 75, 76, 77, 78, 79, 80, 81, 82, 83, 84, 85, 86, 87, 88, 89, 90, 97, 98, 99, 100, 101, 102, 103, 104, 105, 106, 107, 108, 109, 110, 111, 112, 113, 114, 115, 116, 117, 118, 119, 120, 121, 122, 48, 49, 50, 51, 52, 53, 54, 55, 56, 57, 45, 95] : Str) (shr .i64 (ior .i64 (ior .i64 (shl .i64 (w_i64 (bt p0 0)) 16) (shl .i64 (w_i64 (bt p0 1)) 8)) (w_i64 (bt p0 2))) 18)), (bt ([65, 66, 67, 68, 69, 70, 71, 72, 73, 74, 75, 76, 77, 78, 79, 80, 81, 82, 83, 84, 85, 86, 87, 88, 89, 90, 97, 98, 99, 100, 101, 102, 103, 104, 105, 106, 107, 108, 109, 110, 111, 112, 113, 114, 115, 116, 117, 118, 119, 120, 121, 122, 48, 49, 50, 51, 52, 53, 54, 55, 56, 57, 45, 95] : Str) (iand .i64 (shr .i64 (ior .i64 (ior .i64 (shl .i64 (w_i64 (bt p0 0)) 16) (shl .i64 (w_i64 (bt p0 1)) 8)) (w_i64 (bt p0 2))) 12) 63)), (bt ([65, 66, 67, 68, 69, 70, 71, 72, 73, 74, 75, 76, 77, 78, 79, 80, 81, 82, 83, 84, 85, 86, 87, 88, 89, 90, 97, 98, 99, 100, 101, 102, 103, 104, 105, 106, 107, 108, 109, 110, 111, 112, 113, 114, 115, 116, 117, 118, 119, 120, 121, 122, 48, 49, 50, 51, 52, 53, 54, 55, 56, 57, 45, 95] : Str) (iand .i64 (shr .i64 (ior .i64 (ior .i64 (shl .i64 (w_i64 (bt p0 0)) 16) (shl .i64 (w_i64 (bt p0 1)) 8)) (w_i64 (bt p0 2))) 6) 63)), (bt ([65, 66, 67, 68, 69, 70, 71, 72, 73, 74, 75, 76, 77, 78, 79, 80, 81, 82, 83, 84, 85, 86, 87, 88, 89, 90, 97, 98, 99, 100, 101, 102, 103, 104, 105, 106, 107, 108, 109, 110, 111, 112, 113, 114, 115, 116, 117, 118, 119, 120, 121, 122, 48, 49, 50, 51, 52, 53, 54, 55, 56, 57, 45, 95] : Str) (iand .i64 (ior .i64 (ior .i64 (shl .i64 (w_i64 (bt p0 0)) 16) (shl .i64 (w_i64 (bt p0 1)) 8)) (w_i64 (bt p0 2))) 63))]).length) * 1) then 
    if cLo 3 p0.length then base64_Encode_l1 n (p0.drop 3) (p1 ++ [(bt ([65, 66, 67, 68, 69, 70, 71, 72, 73, 74, 75, 76, 77, 78, 79, 80, 81, 82, 83, 84, 85, 86, 87, 88, 89, 90, 97, 98, 99, 100, 101, 102, 103, 104, 105, 106, 107, 108, 109, 110, 111, 112, 113, 114, 115, 116, 117, 118, 119, 120, 121, 122, 48, 49, 50, 51, 52, 53, 54, 55, 56, 57, 45, 95] : Str) (shr .i64 (ior .i64 (ior .i64 (shl .i64 (w_i64 (bt p0 0)) 16) (shl .i64 (w_i64 (bt p0 1)) 8)) (w_i64 (bt p0 2))) 18)), (bt ([65, 66, 67, 68, 69, 70, 71, 72, 73, 74, 75, 76, 77, 78, 79, 80, 81, 82, 83, 84, 85, 86, 87, 88, 89, 90, 97, 98, 99, 100, 101, 102, 103, 104, 105, 106, 107, 108, 109, 110, 111, 112, 113, 114, 115, 116, 117, 118, 119, 120, 121, 122, 48, 49, 50, 51, 52, 53, 54, 55, 56, 57, 45, 95] : Str) (iand .i64 (shr .i64 (ior .i64 (ior .i64 (shl .i64 (w_i64 (bt p0 0)) 16) (shl .i64 (w_i64 (bt p0 1)) 8)) (w_i64 (bt p0 2))) 12) 63)), (bt ([65, 66, 67, 68, 69, 70, 71, 72, 73, 74, 75, 76, 77, 78, 79, 80, 81, 82, 83, 84, 85, 86, 87, 88, 89, 90, 97, 98, 99, 100, 101, 102, 103, 104, 105, 106, 107, 108, 109, 110, 111, 112, 113, 114, 115, 116, 117, 118, 119, 120, 121, 122, 48, 49, 50, 51, 52, 53, 54, 55, 56, 57, 45, 95] : Str) (iand .i64 (shr .i64 (ior .i64 (ior .i64 (shl .i64 (w_i64 (bt p0 0)) 16) (shl .i64 (w_i64 (bt p0 1)) 8)) (w_i64 (bt p0 2))) 6) 63)), (bt ([65, 66, 67, 68, 69, 70, 71, 72, 73, 74, 75, 76, 77, 78, 79, 80, 81, 82, 83, 84, 85, 86, 87, 88, 89, 90, 97, 98, 99, 100, 101, 102, 103, 104, 105, 106, 107, 108, 109, 110, 111, 112, 113, 114, 115, 116, 117, 118, 119, 120, 121, 122, 48, 49, 50, 51, 52, 53, 54, 55, 56, 57, 45, 95] : Str) (iand .i64 (ior .i64 (ior .i64 (shl .i64 (w_i64 (bt p0 0)) 16) (shl .i64 (w_i64 (bt p0 1)) 8)) (w_i64 (bt p0 2))) 63))])
    else none
    else none
    else none
    else none
    else none
    else none
    else none
    else none
    else none
  else some p1
def base64_Encode (n : Nat) (a0 : Str) : Option (Str × Int) :=
  if (decide ((a0.length : Int) > 65536)) then some ([], 3)
  else 
    if ((Int.tmod (a0.length : Int) 3) != 0) then some ([], 8)
    else 
      if cMk 0 (w_i64 ((w_i64 (Int.tdiv (a0.length : Int) 3)) * 4)) 1 then 
      base64_Encode_l1 n a0 (List.replicate 0 (0 : Int)) >>= fun b15 => some ((strOf b15), 0)
      else none
def primitive_Encode (n : Nat) (a0 : T_api_Primitive) : Option (Str × Int) :=
  primitive_forms n >>= fun b2 => 
  if (!(alk (fun y => a0.g_Code == y) (ast (fun y => 8 == y) 8 (⟨([49, 65, 65, 76] : Str), 6⟩ : T_primitive_form) (ast (fun y => 7 == y) 7 (⟨([83] : Str), 626⟩ : T_primitive_form) (ast (fun y => 6 == y) 6 (⟨([77] : Str), 2⟩ : T_primitive_form) (ast (fun y => 5 == y) 5 (⟨([48, 65] : Str), 16⟩ : T_primitive_form) (ast (fun y => 4 == y) 4 (⟨([65] : Str), 32⟩ : T_primitive_form) (ast (fun y => 3 == y) 3 (⟨([66] : Str), 32⟩ : T_primitive_form) (ast (fun y => 2 == y) 2 (⟨([68] : Str), 32⟩ : T_primitive_form) (ast (fun y => 1 == y) 1 (⟨([69] : Str), 32⟩ : T_primitive_form) []))))))))).isSome) then some ([], 7)
  else 
    if ((a0.g_Raw.length : Int) != ((alk (fun y => a0.g_Code == y) (ast (fun y => 8 == y) 8 (⟨([49, 65, 65, 76] : Str), 6⟩ : T_primitive_form) (ast (fun y => 7 == y) 7 (⟨([83] : Str), 626⟩ : T_primitive_form) (ast (fun y => 6 == y) 6 (⟨([77] : Str), 2⟩ : T_primitive_form) (ast (fun y => 5 == y) 5 (⟨([48, 65] : Str), 16⟩ : T_primitive_form) (ast (fun y => 4 == y) 4 (⟨([65] : Str), 32⟩ : T_primitive_form) (ast (fun y => 3 == y) 3 (⟨([66] : Str), 32⟩ : T_primitive_form) (ast (fun y => 2 == y) 2 (⟨([68] : Str), 32⟩ : T_primitive_form) (ast (fun y => 1 == y) 1 (⟨([69] : Str), 32⟩ : T_primitive_form) []))))))))).getD T_primitive_form.dft).g_raw) then some ([], 8)
    else 
      primitive_form_lead n ((alk (fun y => a0.g_Code == y) (ast (fun y => 8 == y) 8 (⟨([49, 65, 65, 76] : Str), 6⟩ : T_primitive_form) (ast (fun y => 7 == y) 7 (⟨([83] : Str), 626⟩ : T_primitive_form) (ast (fun y => 6 == y) 6 (⟨([77] : Str), 2⟩ : T_primitive_form) (ast (fun y => 5 == y) 5 (⟨([48, 65] : Str), 16⟩ : T_primitive_form) (ast (fun y => 4 == y) 4 (⟨([65] : Str), 32⟩ : T_primitive_form) (ast (fun y => 3 == y) 3 (⟨([66] : Str), 32⟩ : T_primitive_form) (ast (fun y => 2 == y) 2 (⟨([68] : Str), 32⟩ : T_primitive_form) (ast (fun y => 1 == y) 1 (⟨([69] : Str), 32⟩ : T_primitive_form) []))))))))).getD T_primitive_form.dft) >>= fun b6 => 
      strings_Repeat n ([0] : Str) b6 >>= fun b8 => 
      if fits (b8.length + a0.g_Raw.length) then 
      base64_Encode n (b8 ++ a0.g_Raw) >>= fun b11 => 
      primitive_form_lead n ((alk (fun y => a0.g_Code == y) (ast (fun y => 8 == y) 8 (⟨([49, 65, 65, 76] : Str), 6⟩ : T_primitive_form) (ast (fun y => 7 == y) 7 (⟨([83] : Str), 626⟩ : T_primitive_form) (ast (fun y => 6 == y) 6 (⟨([77] : Str), 2⟩ : T_primitive_form) (ast (fun y => 5 == y) 5 (⟨([48, 65] : Str), 16⟩ : T_primitive_form) (ast (fun y => 4 == y) 4 (⟨([65] : Str), 32⟩ : T_primitive_form) (ast (fun y => 3 == y) 3 (⟨([66] : Str), 32⟩ : T_primitive_form) (ast (fun y => 2 == y) 2 (⟨([68] : Str), 32⟩ : T_primitive_form) (ast (fun y => 1 == y) 1 (⟨([69] : Str), 32⟩ : T_primitive_form) []))))))))).getD T_primitive_form.dft) >>= fun b13 => 
      if cLo b13 b11.1.length then 
      if fits ((((alk (fun y => a0.g_Code == y) (ast (fun y => 8 == y) 8 (⟨([49, 65, 65, 76] : Str), 6⟩ : T_primitive_form) (ast (fun y => 7 == y) 7 (⟨([83] : Str), 626⟩ : T_primitive_form) (ast (fun y => 6 == y) 6 (⟨([77] : Str), 2⟩ : T_primitive_form) (ast (fun y => 5 == y) 5 (⟨([48, 65] : Str), 16⟩ : T_primitive_form) (ast (fun y => 4 == y) 4 (⟨([65] : Str), 32⟩ : T_primitive_form) (ast (fun y => 3 == y) 3 (⟨([66] : Str), 32⟩ : T_primitive_form) (ast (fun y => 2 == y) 2 (⟨([68] : Str), 32⟩ : T_primitive_form) (ast (fun y => 1 == y) 1 (⟨([69] : Str), 32⟩ : T_primitive_form) []))))))))).getD T_primitive_form.dft).g_code).length + (b11.1.drop (b13).toNat).length) then some ((((alk (fun y => a0.g_Code == y) (ast (fun y => 8 == y) 8 (⟨([49, 65, 65, 76] : Str), 6⟩ : T_primitive_form) (ast (fun y => 7 == y) 7 (⟨([83] : Str), 626⟩ : T_primitive_form) (ast (fun y => 6 == y) 6 (⟨([77] : Str), 2⟩ : T_primitive_form) (ast (fun y => 5 == y) 5 (⟨([48, 65] : Str), 16⟩ : T_primitive_form) (ast (fun y => 4 == y) 4 (⟨([65] : Str), 32⟩ : T_primitive_form) (ast (fun y => 3 == y) 3 (⟨([66] : Str), 32⟩ : T_primitive_form) (ast (fun y => 2 == y) 2 (⟨([68] : Str), 32⟩ : T_primitive_form) (ast (fun y => 1 == y) 1 (⟨([69] : Str), 32⟩ : T_primitive_form) []))))))))).getD T_primitive_form.dft).g_code ++ (b11.1.drop (b13).toNat)), 0)
      else none
      else none
      else none
def primitive_Make (n : Nat) (a0 : Int) (a1 : Str) : Option Str :=
  primitive_Encode n (⟨a0, a1⟩ : T_api_Primitive) >>= fun b2 => some b2.1
def said_Digest (n : Nat) (a0 : Str) : Option Str :=
  hash_Sum n a0 >>= fun b2 => 
  primitive_Make n 1 b2 >>= fun b4 => some b4
def said_Put_j1 (n : Nat) (p0 : (List Str)) (p1 : Str) (p2 : Int) (p3 : T_api_Node) : Option (T_api_Node × Str × Int) :=
  version_Fit n p3 p1 p2 >>= fun b11 => 
  if (b11.2.2 != 0) then some ((⟨0, false, 0, [], [], []⟩ : T_api_Node), [], b11.2.2)
  else 
    said_Digest n b11.2.1 >>= fun b14 => 
    said_all n b11.1 p0 b14 >>= fun b16 => 
    pack_EncodeAs p2 b16 >>= fun b18 => 
    if (b18.2 != 0) then some ((⟨0, false, 0, [], [], []⟩ : T_api_Node), [], b18.2)
    else some (b16, b18.1, 0)
def said_Put (n : Nat) (a0 : T_api_Node) (a1 : (List Str)) (a2 : Str) (a3 : Int) : Option (T_api_Node × Str × Int) :=
  if ((a1.length : Int) == 0) then some ((⟨0, false, 0, [], [], []⟩ : T_api_Node), [], 2)
  else 
    slices_Contains__string_string n a1 ([118] : Str) >>= fun b3 => 
    if b3 then some ((⟨0, false, 0, [], [], []⟩ : T_api_Node), [], 2)
    else 
      if (a0.g_Kind == 5) then 
        said_Dummy n >>= fun b7 => 
        said_all n a0 a1 b7 >>= fun b9 => said_Put_j1 n a1 a2 a3 b9
      else said_Put_j1 n a1 a2 a3 a0
def node_Get (n : Nat) (a0 : T_api_Node) (a1 : Str) : Option (T_api_Node × Bool) :=
  node_place n a0 a1 >>= fun b2 => 
  if (decide (b2 < 0)) then some ((⟨0, false, 0, [], [], []⟩ : T_api_Node), false)
  else 
    if within b2 a0.g_Items.length then 
    node_Own n (rd T_api_Node.dft a0.g_Items b2) >>= fun b6 => some (b6, true)
    else none
def schema_Make (n : Nat) (a0 : Str) (a1 : (List T_api_Field)) : Option (T_api_Schema × Str × Int) :=
  schema_right n a0 a1 >>= fun b2 => 
  if (!b2) then some ((⟨[], [], []⟩ : T_api_Schema), [], 45)
  else 
    schema_Make_l1 n a0 a1 a1 (a1.length : Int) 0 [] >>= fun b20 => 
    node_Text n [] >>= fun b26 => 
    node_Text n b20.1 >>= fun b28 => 
    node_List n b20.2.2 >>= fun b30 => 
    node_Map n ([([100] : Str), ([116, 105, 116, 108, 101] : Str), ([102, 105, 101, 108, 100, 115] : Str)]) [b26, b28, b30] >>= fun b32 => 
    said_Put n b32 ([([100] : Str)]) ([83, 67, 72, 77] : Str) 1 >>= fun b34 => 
    if (b34.2.2 != 0) then some ((⟨[], [], []⟩ : T_api_Schema), [], b34.2.2)
    else 
      node_Get n b34.1 ([100] : Str) >>= fun b37 => 
      slices_Clone__api_Field_api_Field b20.2.1 >>= fun b39 => some ((⟨b37.1.g_Text, b20.1, b39⟩ : T_api_Schema), b34.2.1, 0)
def law32_awake (n : Nat) : Option Bool :=
  schema_Make n ([80, 101, 114, 115, 111, 110] : Str) [] >>= fun b2 => 
  ref05_Number n 30 >>= fun b4 => 
  schema_Fits n (⟨([97, 103, 101] : Str), 2, false, 0, 120⟩ : T_api_Field) b4 >>= fun b6 => 
  if b6 then 
    ref05_Text n ([51, 48] : Str) >>= fun b9 => 
    schema_Fits n (⟨([97, 103, 101] : Str), 2, false, 0, 120⟩ : T_api_Field) b9 >>= fun b11 => 
    if (!b11) then 
      schema_Name n ([97, 95, 49] : Str) >>= fun b14 => 
      if b14 then 
        schema_Name n ([49, 97] : Str) >>= fun b17 => some ((!b17) && (b2.2.2 == 45))
      else some false
    else some false
  else some false
def law32_SchemaBounds (n : Nat) (a0 : Int) (a1 : Int) (a2 : Int) : Option Bool :=
  if cMk (w_i64 (Int.tmod a2 80)) (w_i64 (Int.tmod a2 80)) 1 then 
  law32_SchemaBounds_l1 n (w_i64 (Int.tmod a0 40)) (w_i64 (Int.tmod a1 30)) (w_i64 (Int.tmod a2 80)) ((List.replicate (w_i64 (Int.tmod a2 80)).toNat (0 : Int)).length : Int) 0 (⟨([110] : Str), 2, false, (w_i64 ((w_i64 (Int.tmod a0 40)) - 20)), (w_i64 ((w_i64 ((w_i64 (Int.tmod a0 40)) - 20)) + (w_i64 (Int.tmod a1 30))))⟩ : T_api_Field) (⟨([116] : Str), 1, false, (w_i64 (Int.tmod a0 40)), (w_i64 ((w_i64 (Int.tmod a0 40)) + (w_i64 (Int.tmod a1 30))))⟩ : T_api_Field) (List.replicate (w_i64 (Int.tmod a2 80)).toNat (0 : Int)) >>= fun b6 => 
  ref05_Number n (w_i64 (b6.2.2.1 - 20)) >>= fun b8 => 
  schema_Fits n b6.2.2.2.1 b8 >>= fun b10 => 
  if (!(b10 == ((decide (b6.2.2.1 ≥ b6.1)) && (decide (b6.2.2.1 ≤ (w_i64 (b6.1 + b6.2.1))))))) then some false
  else 
    ref05_Text n (strOf b6.2.2.2.2.2) >>= fun b13 => 
    schema_Fits n b6.2.2.2.2.1 b13 >>= fun b15 => 
    if (!(b15 == ((decide (b6.2.2.1 ≥ b6.1)) && (decide (b6.2.2.1 ≤ (w_i64 (b6.1 + b6.2.1))))))) then some false
    else 
      ref05_Text n ([49] : Str) >>= fun b18 => 
      schema_Fits n b6.2.2.2.1 b18 >>= fun b20 => 
      if (!b20) then 
        ref05_Number n 1 >>= fun b23 => 
        schema_Fits n b6.2.2.2.2.1 b23 >>= fun b25 => 
        if (!b25) then 
          play_Digest n ([97] : Str) >>= fun b28 => 
          ref05_Text n b28 >>= fun b30 => 
          schema_Fits n (⟨[], 3, false, 0, 0⟩ : T_api_Field) b30 >>= fun b32 => 
          if b32 then 
            ref05_Text n ([97] : Str) >>= fun b35 => 
            schema_Fits n (⟨[], 3, false, 0, 0⟩ : T_api_Field) b35 >>= fun b37 => 
            if (!b37) then 
              law32_awake n >>= fun b40 => some b40
            else some false
          else some false
        else some false
      else some false
  else none
def strings_HasPrefix (n : Nat) (a0 : Str) (a1 : Str) : Option Bool :=
  internal_stringslite_HasPrefix n a0 a1 >>= fun b2 => some b2
theorem law32_SchemaBounds_l1_ups (n : Nat) : (∀ (p0 : Int) (p1 : Int) (p2 : Int) (p3 : Int) (p4 : Int) (p5 : T_api_Field) (p6 : T_api_Field) (p7 : (List Int)), Le (law32_SchemaBounds_l1 n p0 p1 p2 p3 p4 p5 p6 p7) (law32_SchemaBounds_l1 (n + 1) p0 p1 p2 p3 p4 p5 p6 p7)) := by
  induction n with
  | zero => exact (fun p0 p1 p2 p3 p4 p5 p6 p7 => Eq.mpr (congrArg (fun a => Le a _) (law32_SchemaBounds_l1.eq_1 p0 p1 p2 p3 p4 p5 p6 p7)) (leNone _))
  | succ n ih => exact (fun p0 p1 p2 p3 p4 p5 p6 p7 => Eq.mpr (congrArg (fun a => Le a _) (law32_SchemaBounds_l1.eq_2 _ _ _ _ _ _ _ _ _)) (Eq.mpr (congrArg (Le _) (law32_SchemaBounds_l1.eq_2 _ _ _ _ _ _ _ _ _)) (leIte (leIte (leIte (ih _ _ _ _ _ _ _ _) (leRefl _)) (leRefl _)) (leRefl _))))
theorem law32_SchemaBounds_l1_up (n : Nat) : ∀ (p0 : Int) (p1 : Int) (p2 : Int) (p3 : Int) (p4 : Int) (p5 : T_api_Field) (p6 : T_api_Field) (p7 : (List Int)), Le (law32_SchemaBounds_l1 n p0 p1 p2 p3 p4 p5 p6 p7) (law32_SchemaBounds_l1 (n + 1) p0 p1 p2 p3 p4 p5 p6 p7) := (law32_SchemaBounds_l1_ups n)
theorem ref05_Number_up (n : Nat) : ∀ (a0 : Int), Le (ref05_Number n a0) (ref05_Number (n + 1) a0) :=
  fun a0 => Eq.mpr (congrArg (fun a => Le a _) (ref05_Number.eq_1 n a0)) (Eq.mpr (congrArg (Le _) (ref05_Number.eq_1 (n + 1) a0)) (leRefl _))
theorem node_fields_up (n : Nat) : ∀ (a0 : T_api_Node), Le (node_fields n a0) (node_fields (n + 1) a0) :=
  fun a0 => Eq.mpr (congrArg (fun a => Le a _) (node_fields.eq_1 n a0)) (Eq.mpr (congrArg (Le _) (node_fields.eq_1 (n + 1) a0)) (leRefl _))
theorem unicode_utf8_word__string_up (n : Nat) : ∀ (a0 : Str), Le (unicode_utf8_word__string n a0) (unicode_utf8_word__string (n + 1) a0) :=
  fun a0 => Eq.mpr (congrArg (fun a => Le a _) (unicode_utf8_word__string.eq_1 n a0)) (Eq.mpr (congrArg (Le _) (unicode_utf8_word__string.eq_1 (n + 1) a0)) (leIte (leIte (leIte (leIte (leIte (leIte (leIte (leIte (leRefl _) (leRefl _)) (leRefl _)) (leRefl _)) (leRefl _)) (leRefl _)) (leRefl _)) (leRefl _)) (leRefl _)))
theorem unicode_utf8_ValidString_l2_ups (n : Nat) : (∀ (p0 : Str) (p1 : Str) (p2 : Int) (p3 : Int) (p4 : Bool) (p5 : Str) (p6 : Int) (p7 : Str) (p8 : Str) (p9 : Int) (p10 : Int) (p11 : Int) (p12 : Bool), Le (unicode_utf8_ValidString_l2 n p0 p1 p2 p3 p4 p5 p6 p7 p8 p9 p10 p11 p12) (unicode_utf8_ValidString_l2 (n + 1) p0 p1 p2 p3 p4 p5 p6 p7 p8 p9 p10 p11 p12)) := by
  induction n with
  | zero => exact (fun p0 p1 p2 p3 p4 p5 p6 p7 p8 p9 p10 p11 p12 => Eq.mpr (congrArg (fun a => Le a _) (unicode_utf8_ValidString_l2.eq_1 p0 p1 p2 p3 p4 p5 p6 p7 p8 p9 p10 p11 p12)) (leNone _))
  | succ n ih => exact (fun p0 p1 p2 p3 p4 p5 p6 p7 p8 p9 p10 p11 p12 => Eq.mpr (congrArg (fun a => Le a _) (unicode_utf8_ValidString_l2.eq_2 _ _ _ _ _ _ _ _ _ _ _ _ _ _)) (Eq.mpr (congrArg (Le _) (unicode_utf8_ValidString_l2.eq_2 _ _ _ _ _ _ _ _ _ _ _ _ _ _)) (leIte (leBind (unicode_utf8_word__string_up n _) (fun b20 => (leIte (leBind (unicode_utf8_word__string_up n _) (fun b23 => (leIte (leBind (unicode_utf8_word__string_up n _) (fun b26 => (leIte (leBind (unicode_utf8_word__string_up n _) (fun b29 => (leIte (leIte (ih _ _ _ _ _ _ _ _ _ _ _ _ _) (leRefl _)) (leRefl _)))) (leRefl _)))) (leRefl _)))) (leRefl _)))) (leRefl _))))
theorem unicode_utf8_ValidString_l2_up (n : Nat) : ∀ (p0 : Str) (p1 : Str) (p2 : Int) (p3 : Int) (p4 : Bool) (p5 : Str) (p6 : Int) (p7 : Str) (p8 : Str) (p9 : Int) (p10 : Int) (p11 : Int) (p12 : Bool), Le (unicode_utf8_ValidString_l2 n p0 p1 p2 p3 p4 p5 p6 p7 p8 p9 p10 p11 p12) (unicode_utf8_ValidString_l2 (n + 1) p0 p1 p2 p3 p4 p5 p6 p7 p8 p9 p10 p11 p12) := (unicode_utf8_ValidString_l2_ups n)
theorem unicode_utf8_ValidString_l1_ups (n : Nat) : (∀ (p0 : Str), Le (unicode_utf8_ValidString_l1 n p0) (unicode_utf8_ValidString_l1 (n + 1) p0)) := by
  induction n with
  | zero => exact (fun p0 => Eq.mpr (congrArg (fun a => Le a _) (unicode_utf8_ValidString_l1.eq_1 p0)) (leNone _))
  | succ n ih => exact (fun p0 => Eq.mpr (congrArg (fun a => Le a _) (unicode_utf8_ValidString_l1.eq_2 _ _)) (Eq.mpr (congrArg (Le _) (unicode_utf8_ValidString_l1.eq_2 _ _)) (leIte (leIte (leIte (leIte (leIte (leBind (unicode_utf8_word__string_up n _) (fun b7 => (leIte (leIte (leIte (leBind (unicode_utf8_word__string_up n _) (fun b12 => (leIte (leBind (unicode_utf8_word__string_up n _) (fun b15 => (leIte (leIte (leBind (unicode_utf8_ValidString_l2_up n _ _ _ _ _ _ _ _ _ _ _ _ _) (fun b33 => (ih _))) (leRefl _)) (ih _)))) (leRefl _)))) (ih _)) (leRefl _)) (ih _)))) (ih _)) (leRefl _)) (leRefl _)) (leRefl _)) (leRefl _))))
theorem unicode_utf8_ValidString_l1_up (n : Nat) : ∀ (p0 : Str), Le (unicode_utf8_ValidString_l1 n p0) (unicode_utf8_ValidString_l1 (n + 1) p0) := (unicode_utf8_ValidString_l1_ups n)
theorem unicode_utf8_ValidString_up (n : Nat) : ∀ (a0 : Str), Le (unicode_utf8_ValidString n a0) (unicode_utf8_ValidString (n + 1) a0) :=
  fun a0 => Eq.mpr (congrArg (fun a => Le a _) (unicode_utf8_ValidString.eq_1 n a0)) (Eq.mpr (congrArg (Le _) (unicode_utf8_ValidString.eq_1 (n + 1) a0)) (leBind (unicode_utf8_ValidString_l1_up n _) (fun b35 => (leRefl _))))
theorem node_text_up (n : Nat) : ∀ (a0 : Str), Le (node_text n a0) (node_text (n + 1) a0) :=
  fun a0 => Eq.mpr (congrArg (fun a => Le a _) (node_text.eq_1 n a0)) (Eq.mpr (congrArg (Le _) (node_text.eq_1 (n + 1) a0)) (leIte (leBind (unicode_utf8_ValidString_up n _) (fun b3 => (leRefl _))) (leRefl _)))
theorem node_names_l1_ups (n : Nat) : (∀ (p0 : (List Str)) (p1 : Int) (p2 : Int) (p3 : T_api_Node) (p4 : (List (Str × Bool))), Le (node_names_l1 n p0 p1 p2 p3 p4) (node_names_l1 (n + 1) p0 p1 p2 p3 p4)) := by
  induction n with
  | zero => exact (fun p0 p1 p2 p3 p4 => Eq.mpr (congrArg (fun a => Le a _) (node_names_l1.eq_1 p0 p1 p2 p3 p4)) (leNone _))
  | succ n ih => exact (fun p0 p1 p2 p3 p4 => Eq.mpr (congrArg (fun a => Le a _) (node_names_l1.eq_2 _ _ _ _ _ _)) (Eq.mpr (congrArg (Le _) (node_names_l1.eq_2 _ _ _ _ _ _)) (leIte (leIte (leIte (leRefl _) (leBind (node_text_up n _) (fun b5 => (leIte (leRefl _) (ih _ _ _ _ _))))) (leRefl _)) (leRefl _))))
theorem node_names_l1_up (n : Nat) : ∀ (p0 : (List Str)) (p1 : Int) (p2 : Int) (p3 : T_api_Node) (p4 : (List (Str × Bool))), Le (node_names_l1 n p0 p1 p2 p3 p4) (node_names_l1 (n + 1) p0 p1 p2 p3 p4) := (node_names_l1_ups n)
theorem node_names_up (n : Nat) : ∀ (a0 : T_api_Node), Le (node_names n a0) (node_names (n + 1) a0) :=
  fun a0 => Eq.mpr (congrArg (fun a => Le a _) (node_names.eq_1 n a0)) (Eq.mpr (congrArg (Le _) (node_names.eq_1 (n + 1) a0)) (leBind (node_names_l1_up n _ _ _ _ _) (fun b7 => (match b7 with | .inl b8 => (leRefl _) | .inr b9 => (leRefl _)))))
theorem node_valid_ups (n : Nat) : (∀ (a0 : T_api_Node) (a1 : Int), Le (node_valid n a0 a1) (node_valid (n + 1) a0 a1)) ∧ (∀ (a0 : (List T_api_Node)) (a1 : Int), Le (slices_ContainsFunc__api_Node_api_Node n a0 a1) (slices_ContainsFunc__api_Node_api_Node (n + 1) a0 a1)) ∧ (∀ (p0 : (List T_api_Node)) (p1 : Int) (p2 : Int) (p3 : Int), Le (slices_IndexFunc__api_Node_api_Node_l1 n p0 p1 p2 p3) (slices_IndexFunc__api_Node_api_Node_l1 (n + 1) p0 p1 p2 p3)) ∧ (∀ (a0 : (List T_api_Node)) (a1 : Int), Le (slices_IndexFunc__api_Node_api_Node n a0 a1) (slices_IndexFunc__api_Node_api_Node (n + 1) a0 a1)) ∧ (∀ (a0 : T_api_Node) (a1 : Int), Le (node_valid_1 n a0 a1) (node_valid_1 (n + 1) a0 a1)) := by
  induction n with
  | zero => exact ⟨(fun a0 a1 => Eq.mpr (congrArg (fun a => Le a _) (node_valid.eq_1 a0 a1)) (leNone _)), (fun a0 a1 => Eq.mpr (congrArg (fun a => Le a _) (slices_ContainsFunc__api_Node_api_Node.eq_1 a0 a1)) (leNone _)), (fun p0 p1 p2 p3 => Eq.mpr (congrArg (fun a => Le a _) (slices_IndexFunc__api_Node_api_Node_l1.eq_1 p0 p1 p2 p3)) (leNone _)), (fun a0 a1 => Eq.mpr (congrArg (fun a => Le a _) (slices_IndexFunc__api_Node_api_Node.eq_1 a0 a1)) (leNone _)), (fun a0 a1 => Eq.mpr (congrArg (fun a => Le a _) (node_valid_1.eq_1 a0 a1)) (leNone _))⟩
  | succ n ih => exact ⟨(fun a0 a1 => Eq.mpr (congrArg (fun a => Le a _) (node_valid.eq_2 _ _ _)) (Eq.mpr (congrArg (Le _) (node_valid.eq_2 _ _ _)) (leIte (leRefl _) (leBind (node_fields_up n _) (fun b3 => (leIte (leRefl _) (leBind (node_text_up n _) (fun b6 => (leIte (leRefl _) (leIte (leBind (node_names_up n _) (fun b10 => (leIte (leRefl _) (leBind (ih.2.1 _ _) (fun b13 => (leRefl _)))))) (leBind (ih.2.1 _ _) (fun b15 => (leRefl _))))))))))))), (fun a0 a1 => Eq.mpr (congrArg (fun a => Le a _) (slices_ContainsFunc__api_Node_api_Node.eq_2 _ _ _)) (Eq.mpr (congrArg (Le _) (slices_ContainsFunc__api_Node_api_Node.eq_2 _ _ _)) (leBind (ih.2.2.2.1 _ _) (fun b2 => (leRefl _))))), (fun p0 p1 p2 p3 => Eq.mpr (congrArg (fun a => Le a _) (slices_IndexFunc__api_Node_api_Node_l1.eq_2 _ _ _ _ _)) (Eq.mpr (congrArg (Le _) (slices_IndexFunc__api_Node_api_Node_l1.eq_2 _ _ _ _ _)) (leIte (leIte (leBind (ih.2.2.2.2 _ _) (fun b4 => (leIte (leRefl _) (ih.2.2.1 _ _ _ _)))) (leRefl _)) (leRefl _)))), (fun a0 a1 => Eq.mpr (congrArg (fun a => Le a _) (slices_IndexFunc__api_Node_api_Node.eq_2 _ _ _)) (Eq.mpr (congrArg (Le _) (slices_IndexFunc__api_Node_api_Node.eq_2 _ _ _)) (leBind (ih.2.2.1 _ _ _ _) (fun b6 => (match b6 with | .inl b7 => (leRefl _) | .inr b8 => (leRefl _)))))), (fun a0 a1 => Eq.mpr (congrArg (fun a => Le a _) (node_valid_1.eq_2 _ _ _)) (Eq.mpr (congrArg (Le _) (node_valid_1.eq_2 _ _ _)) (leBind (ih.1 _ _) (fun b2 => (leRefl _)))))⟩
theorem node_valid_up (n : Nat) : ∀ (a0 : T_api_Node) (a1 : Int), Le (node_valid n a0 a1) (node_valid (n + 1) a0 a1) := (node_valid_ups n).1
theorem slices_ContainsFunc__api_Node_api_Node_up (n : Nat) : ∀ (a0 : (List T_api_Node)) (a1 : Int), Le (slices_ContainsFunc__api_Node_api_Node n a0 a1) (slices_ContainsFunc__api_Node_api_Node (n + 1) a0 a1) := (node_valid_ups n).2.1
theorem slices_IndexFunc__api_Node_api_Node_l1_up (n : Nat) : ∀ (p0 : (List T_api_Node)) (p1 : Int) (p2 : Int) (p3 : Int), Le (slices_IndexFunc__api_Node_api_Node_l1 n p0 p1 p2 p3) (slices_IndexFunc__api_Node_api_Node_l1 (n + 1) p0 p1 p2 p3) := (node_valid_ups n).2.2.1
theorem slices_IndexFunc__api_Node_api_Node_up (n : Nat) : ∀ (a0 : (List T_api_Node)) (a1 : Int), Le (slices_IndexFunc__api_Node_api_Node n a0 a1) (slices_IndexFunc__api_Node_api_Node (n + 1) a0 a1) := (node_valid_ups n).2.2.2.1
theorem node_valid_1_up (n : Nat) : ∀ (a0 : T_api_Node) (a1 : Int), Le (node_valid_1 n a0 a1) (node_valid_1 (n + 1) a0 a1) := (node_valid_ups n).2.2.2.2
theorem node_Valid_up (n : Nat) : ∀ (a0 : T_api_Node), Le (node_Valid n a0) (node_Valid (n + 1) a0) :=
  fun a0 => Eq.mpr (congrArg (fun a => Le a _) (node_Valid.eq_1 n a0)) (Eq.mpr (congrArg (Le _) (node_Valid.eq_1 (n + 1) a0)) (leBind (node_valid_up n _ _) (fun b2 => (leRefl _))))
theorem schema_Fits_1_up (n : Nat) : ∀ (a0 : Int) (a1 : Str) (a2 : Int) (a3 : Bool) (a4 : Int) (a5 : Int), Le (schema_Fits_1 n a0 a1 a2 a3 a4 a5) (schema_Fits_1 (n + 1) a0 a1 a2 a3 a4 a5) :=
  fun a0 a1 a2 a3 a4 a5 => Eq.mpr (congrArg (fun a => Le a _) (schema_Fits_1.eq_1 n a0 a1 a2 a3 a4 a5)) (Eq.mpr (congrArg (Le _) (schema_Fits_1.eq_1 (n + 1) a0 a1 a2 a3 a4 a5)) (leRefl _))
theorem primitive_form_lead_up (n : Nat) : ∀ (a0 : T_primitive_form), Le (primitive_form_lead n a0) (primitive_form_lead (n + 1) a0) :=
  fun a0 => Eq.mpr (congrArg (fun a => Le a _) (primitive_form_lead.eq_1 n a0)) (Eq.mpr (congrArg (Le _) (primitive_form_lead.eq_1 (n + 1) a0)) (leRefl _))
theorem primitive_form_size_up (n : Nat) : ∀ (a0 : T_primitive_form), Le (primitive_form_size n a0) (primitive_form_size (n + 1) a0) :=
  fun a0 => Eq.mpr (congrArg (fun a => Le a _) (primitive_form_size.eq_1 n a0)) (Eq.mpr (congrArg (Le _) (primitive_form_size.eq_1 (n + 1) a0)) (leBind (primitive_form_lead_up n _) (fun b2 => (leBind (primitive_form_lead_up n _) (fun b4 => (leRefl _))))))
theorem strings_Repeat_up (n : Nat) : ∀ (a0 : Str) (a1 : Int), Le (strings_Repeat n a0 a1) (strings_Repeat (n + 1) a0 a1) :=
  fun a0 a1 => Eq.mpr (congrArg (fun a => Le a _) (strings_Repeat.eq_1 n a0 a1)) (Eq.mpr (congrArg (Le _) (strings_Repeat.eq_1 (n + 1) a0 a1)) (leIte (leRefl _) (leIte (leRefl _) (leIte (leRefl _) (leRefl _)))))
theorem base64_newValues_l1_ups (n : Nat) : (∀ (p0 : Int) (p1 : (List Int)), Le (base64_newValues_l1 n p0 p1) (base64_newValues_l1 (n + 1) p0 p1)) := by
  induction n with
  | zero => exact (fun p0 p1 => Eq.mpr (congrArg (fun a => Le a _) (base64_newValues_l1.eq_1 p0 p1)) (leNone _))
  | succ n ih => exact (fun p0 p1 => Eq.mpr (congrArg (fun a => Le a _) (base64_newValues_l1.eq_2 _ _ _)) (Eq.mpr (congrArg (Le _) (base64_newValues_l1.eq_2 _ _ _)) (leIte (leIte (leIte (leIte (leIte (ih _ _) (leRefl _)) (leRefl _)) (leRefl _)) (leRefl _)) (leRefl _))))
theorem base64_newValues_l1_up (n : Nat) : ∀ (p0 : Int) (p1 : (List Int)), Le (base64_newValues_l1 n p0 p1) (base64_newValues_l1 (n + 1) p0 p1) := (base64_newValues_l1_ups n)
theorem base64_newValues_up (n : Nat) : Le (base64_newValues n) (base64_newValues (n + 1)) :=
  Eq.mpr (congrArg (fun a => Le a _) (base64_newValues.eq_1 n)) (Eq.mpr (congrArg (Le _) (base64_newValues.eq_1 (n + 1))) (leBind (base64_newValues_l1_up n _ _) (fun b7 => (leIte (leIte (leRefl _) (leRefl _)) (leRefl _)))))
theorem base64_values_up (n : Nat) : Le (base64_values n) (base64_values (n + 1)) :=
  Eq.mpr (congrArg (fun a => Le a _) (base64_values.eq_1 n)) (Eq.mpr (congrArg (Le _) (base64_values.eq_1 (n + 1))) (leBind (base64_newValues_up n) (fun b2 => (leIte (leRefl _) (leRefl _)))))
theorem base64_Value_up (n : Nat) : ∀ (a0 : Int), Le (base64_Value n a0) (base64_Value (n + 1) a0) :=
  fun a0 => Eq.mpr (congrArg (fun a => Le a _) (base64_Value.eq_1 n a0)) (Eq.mpr (congrArg (Le _) (base64_Value.eq_1 (n + 1) a0)) (leBind (base64_values_up n) (fun b2 => (leIte (leIte (leIte (leRefl _) (leBind (base64_values_up n) (fun b7 => (leIte (leIte (leRefl _) (leRefl _)) (leRefl _))))) (leRefl _)) (leRefl _)))))
theorem base64_number_l1_ups (n : Nat) : (∀ (p0 : Str) (p1 : Int) (p2 : Int) (p3 : Int), Le (base64_number_l1 n p0 p1 p2 p3) (base64_number_l1 (n + 1) p0 p1 p2 p3)) := by
  induction n with
  | zero => exact (fun p0 p1 p2 p3 => Eq.mpr (congrArg (fun a => Le a _) (base64_number_l1.eq_1 p0 p1 p2 p3)) (leNone _))
  | succ n ih => exact (fun p0 p1 p2 p3 => Eq.mpr (congrArg (fun a => Le a _) (base64_number_l1.eq_2 _ _ _ _ _)) (Eq.mpr (congrArg (Le _) (base64_number_l1.eq_2 _ _ _ _ _)) (leIte (leIte (leBind (base64_Value_up n _) (fun b4 => (leIte (leRefl _) (ih _ _ _ _)))) (leRefl _)) (leRefl _))))
theorem base64_number_l1_up (n : Nat) : ∀ (p0 : Str) (p1 : Int) (p2 : Int) (p3 : Int), Le (base64_number_l1 n p0 p1 p2 p3) (base64_number_l1 (n + 1) p0 p1 p2 p3) := (base64_number_l1_ups n)
theorem base64_number_up (n : Nat) : ∀ (a0 : Str), Le (base64_number n a0) (base64_number (n + 1) a0) :=
  fun a0 => Eq.mpr (congrArg (fun a => Le a _) (base64_number.eq_1 n a0)) (Eq.mpr (congrArg (Le _) (base64_number.eq_1 (n + 1) a0)) (leBind (base64_number_l1_up n _ _ _ _) (fun b6 => (match b6 with | .inl b7 => (leRefl _) | .inr b8 => (leRefl _)))))
theorem base64_Decode_l1_ups (n : Nat) : (∀ (p0 : Str) (p1 : (List Int)), Le (base64_Decode_l1 n p0 p1) (base64_Decode_l1 (n + 1) p0 p1)) := by
  induction n with
  | zero => exact (fun p0 p1 => Eq.mpr (congrArg (fun a => Le a _) (base64_Decode_l1.eq_1 p0 p1)) (leNone _))
  | succ n ih => exact (fun p0 p1 => Eq.mpr (congrArg (fun a => Le a _) (base64_Decode_l1.eq_2 _ _ _)) (Eq.mpr (congrArg (Le _) (base64_Decode_l1.eq_2 _ _ _)) (leIte (leIte (leBind (base64_number_up n _) (fun b7 => (leIte (leRefl _) (leIte (leIte (ih _ _) (leRefl _)) (leRefl _))))) (leRefl _)) (leRefl _))))
theorem base64_Decode_l1_up (n : Nat) : ∀ (p0 : Str) (p1 : (List Int)), Le (base64_Decode_l1 n p0 p1) (base64_Decode_l1 (n + 1) p0 p1) := (base64_Decode_l1_ups n)
theorem base64_Decode_up (n : Nat) : ∀ (a0 : Str), Le (base64_Decode n a0) (base64_Decode (n + 1) a0) :=
  fun a0 => Eq.mpr (congrArg (fun a => Le a _) (base64_Decode.eq_1 n a0)) (Eq.mpr (congrArg (Le _) (base64_Decode.eq_1 (n + 1) a0)) (leIte (leRefl _) (leIte (leRefl _) (leIte (leBind (base64_Decode_l1_up n _ _) (fun b11 => (match b11 with | .inl b12 => (leRefl _) | .inr b13 => (leRefl _)))) (leRefl _)))))
theorem internal_stringslite_HasPrefix_up (n : Nat) : ∀ (a0 : Str) (a1 : Str), Le (internal_stringslite_HasPrefix n a0 a1) (internal_stringslite_HasPrefix (n + 1) a0 a1) :=
  fun a0 a1 => Eq.mpr (congrArg (fun a => Le a _) (internal_stringslite_HasPrefix.eq_1 n a0 a1)) (Eq.mpr (congrArg (Le _) (internal_stringslite_HasPrefix.eq_1 (n + 1) a0 a1)) (leIte (leIte (leRefl _) (leRefl _)) (leRefl _)))
theorem internal_stringslite_CutPrefix_up (n : Nat) : ∀ (a0 : Str) (a1 : Str), Le (internal_stringslite_CutPrefix n a0 a1) (internal_stringslite_CutPrefix (n + 1) a0 a1) :=
  fun a0 a1 => Eq.mpr (congrArg (fun a => Le a _) (internal_stringslite_CutPrefix.eq_1 n a0 a1)) (Eq.mpr (congrArg (Le _) (internal_stringslite_CutPrefix.eq_1 (n + 1) a0 a1)) (leBind (internal_stringslite_HasPrefix_up n _ _) (fun b2 => (leIte (leRefl _) (leIte (leRefl _) (leRefl _))))))
theorem strings_CutPrefix_up (n : Nat) : ∀ (a0 : Str) (a1 : Str), Le (strings_CutPrefix n a0 a1) (strings_CutPrefix (n + 1) a0 a1) :=
  fun a0 a1 => Eq.mpr (congrArg (fun a => Le a _) (strings_CutPrefix.eq_1 n a0 a1)) (Eq.mpr (congrArg (Le _) (strings_CutPrefix.eq_1 (n + 1) a0 a1)) (leBind (internal_stringslite_CutPrefix_up n _ _) (fun b2 => (leRefl _))))
theorem primitive_Decode_up (n : Nat) : ∀ (a0 : Str), Le (primitive_Decode n a0) (primitive_Decode (n + 1) a0) :=
  fun a0 => Eq.mpr (congrArg (fun a => Le a _) (primitive_Decode.eq_1 n a0)) (Eq.mpr (congrArg (Le _) (primitive_Decode.eq_1 (n + 1) a0)) (leBind (leRefl _) (fun b2 => (leIte (leRefl _) (leBind (primitive_form_size_up n _) (fun b5 => (leIte (leRefl _) (leBind (primitive_form_lead_up n _) (fun b8 => (leBind (strings_Repeat_up n _ _) (fun b10 => (leBind (primitive_form_lead_up n _) (fun b12 => (leBind (strings_Repeat_up n _ _) (fun b14 => (leBind (primitive_form_size_up n _) (fun b16 => (leIte (leIte (leBind (base64_Decode_up n _) (fun b20 => (leBind (strings_CutPrefix_up n _ _) (fun b22 => (leIte (leRefl _) (leBind (primitive_form_size_up n _) (fun b25 => (leRefl _)))))))) (leRefl _)) (leRefl _)))))))))))))))))))
theorem primitive_Open_up (n : Nat) : ∀ (a0 : Int) (a1 : Str), Le (primitive_Open n a0 a1) (primitive_Open (n + 1) a0 a1) :=
  fun a0 a1 => Eq.mpr (congrArg (fun a => Le a _) (primitive_Open.eq_1 n a0 a1)) (Eq.mpr (congrArg (Le _) (primitive_Open.eq_1 (n + 1) a0 a1)) (leBind (primitive_Decode_up n _) (fun b2 => (leIte (leRefl _) (leIte (leRefl _) (leIte (leRefl _) (leRefl _)))))))
theorem schema_Fits_up (n : Nat) : ∀ (a0 : T_api_Field) (a1 : T_api_Node), Le (schema_Fits n a0 a1) (schema_Fits (n + 1) a0 a1) :=
  fun a0 a1 => Eq.mpr (congrArg (fun a => Le a _) (schema_Fits.eq_1 n a0 a1)) (Eq.mpr (congrArg (Le _) (schema_Fits.eq_1 (n + 1) a0 a1)) (leBind (node_Valid_up n _) (fun b2 => (leIte (leRefl _) (leIte (leIte (leBind (schema_Fits_1_up n _ _ _ _ _ _) (fun b7 => (leRefl _))) (leRefl _)) (leIte (leIte (leBind (schema_Fits_1_up n _ _ _ _ _ _) (fun b11 => (leRefl _))) (leRefl _)) (leIte (leBind (primitive_Open_up n _ _) (fun b14 => (leRefl _))) (leIte (leRefl _) (leRefl _)))))))))
theorem ref05_Text_up (n : Nat) : ∀ (a0 : Str), Le (ref05_Text n a0) (ref05_Text (n + 1) a0) :=
  fun a0 => Eq.mpr (congrArg (fun a => Le a _) (ref05_Text.eq_1 n a0)) (Eq.mpr (congrArg (Le _) (ref05_Text.eq_1 (n + 1) a0)) (leRefl _))
theorem ref02_first_up (n : Nat) : Le (ref02_first n) (ref02_first (n + 1)) :=
  Eq.mpr (congrArg (fun a => Le a _) (ref02_first.eq_1 n)) (Eq.mpr (congrArg (Le _) (ref02_first.eq_1 (n + 1))) (leRefl _))
theorem ref02_constants_up (n : Nat) : Le (ref02_constants n) (ref02_constants (n + 1)) :=
  Eq.mpr (congrArg (fun a => Le a _) (ref02_constants.eq_1 n)) (Eq.mpr (congrArg (Le _) (ref02_constants.eq_1 (n + 1))) (leRefl _))
theorem ref02_pad_l1_ups (n : Nat) : (∀ (p0 : Str) (p1 : (List Int)), Le (ref02_pad_l1 n p0 p1) (ref02_pad_l1 (n + 1) p0 p1)) := by
  induction n with
  | zero => exact (fun p0 p1 => Eq.mpr (congrArg (fun a => Le a _) (ref02_pad_l1.eq_1 p0 p1)) (leNone _))
  | succ n ih => exact (fun p0 p1 => Eq.mpr (congrArg (fun a => Le a _) (ref02_pad_l1.eq_2 _ _ _)) (Eq.mpr (congrArg (Le _) (ref02_pad_l1.eq_2 _ _ _)) (leIte (leIte (ih _ _) (leRefl _)) (leRefl _))))
theorem ref02_pad_l1_up (n : Nat) : ∀ (p0 : Str) (p1 : (List Int)), Le (ref02_pad_l1 n p0 p1) (ref02_pad_l1 (n + 1) p0 p1) := (ref02_pad_l1_ups n)
theorem ref02_pad_l2_ups (n : Nat) : (∀ (p0 : Str) (p1 : Int) (p2 : (List Int)), Le (ref02_pad_l2 n p0 p1 p2) (ref02_pad_l2 (n + 1) p0 p1 p2)) := by
  induction n with
  | zero => exact (fun p0 p1 p2 => Eq.mpr (congrArg (fun a => Le a _) (ref02_pad_l2.eq_1 p0 p1 p2)) (leNone _))
  | succ n ih => exact (fun p0 p1 p2 => Eq.mpr (congrArg (fun a => Le a _) (ref02_pad_l2.eq_2 _ _ _ _)) (Eq.mpr (congrArg (Le _) (ref02_pad_l2.eq_2 _ _ _ _)) (leIte (leIte (leIte (ih _ _ _) (leRefl _)) (leRefl _)) (leRefl _))))
theorem ref02_pad_l2_up (n : Nat) : ∀ (p0 : Str) (p1 : Int) (p2 : (List Int)), Le (ref02_pad_l2 n p0 p1 p2) (ref02_pad_l2 (n + 1) p0 p1 p2) := (ref02_pad_l2_ups n)
theorem ref02_pad_up (n : Nat) : ∀ (a0 : Str), Le (ref02_pad n a0) (ref02_pad (n + 1) a0) :=
  fun a0 => Eq.mpr (congrArg (fun a => Le a _) (ref02_pad.eq_1 n a0)) (Eq.mpr (congrArg (Le _) (ref02_pad.eq_1 (n + 1) a0)) (leIte (leBind (ref02_pad_l1_up n _ _) (fun b5 => (leBind (ref02_pad_l2_up n _ _ _) (fun b10 => (leRefl _))))) (leRefl _)))
theorem ref02_word_up (n : Nat) : ∀ (a0 : Str), Le (ref02_word n a0) (ref02_word (n + 1) a0) :=
  fun a0 => Eq.mpr (congrArg (fun a => Le a _) (ref02_word.eq_1 n a0)) (Eq.mpr (congrArg (Le _) (ref02_word.eq_1 (n + 1) a0)) (leIte (leIte (leIte (leIte (leRefl _) (leRefl _)) (leRefl _)) (leRefl _)) (leRefl _)))
theorem ref02_block_l1_ups (n : Nat) : (∀ (p0 : Str) (p1 : Int) (p2 : (List Int)) (p3 : (List Int)) (p4 : (List Int)), Le (ref02_block_l1 n p0 p1 p2 p3 p4) (ref02_block_l1 (n + 1) p0 p1 p2 p3 p4)) := by
  induction n with
  | zero => exact (fun p0 p1 p2 p3 p4 => Eq.mpr (congrArg (fun a => Le a _) (ref02_block_l1.eq_1 p0 p1 p2 p3 p4)) (leNone _))
  | succ n ih => exact (fun p0 p1 p2 p3 p4 => Eq.mpr (congrArg (fun a => Le a _) (ref02_block_l1.eq_2 _ _ _ _ _ _)) (Eq.mpr (congrArg (Le _) (ref02_block_l1.eq_2 _ _ _ _ _ _)) (leIte (leIte (leBind (ref02_word_up n _) (fun b4 => (leIte (leIte (leIte (ih _ _ _ _ _) (leRefl _)) (leRefl _)) (leRefl _)))) (leRefl _)) (leRefl _))))
theorem ref02_block_l1_up (n : Nat) : ∀ (p0 : Str) (p1 : Int) (p2 : (List Int)) (p3 : (List Int)) (p4 : (List Int)), Le (ref02_block_l1 n p0 p1 p2 p3 p4) (ref02_block_l1 (n + 1) p0 p1 p2 p3 p4) := (ref02_block_l1_ups n)
theorem ref02_right_up (n : Nat) : ∀ (a0 : Int) (a1 : Int), Le (ref02_right n a0 a1) (ref02_right (n + 1) a0 a1) :=
  fun a0 a1 => Eq.mpr (congrArg (fun a => Le a _) (ref02_right.eq_1 n a0 a1)) (Eq.mpr (congrArg (Le _) (ref02_right.eq_1 (n + 1) a0 a1)) (leIte (leIte (leRefl _) (leRefl _)) (leRefl _)))
theorem ref02_block_l2_ups (n : Nat) : (∀ (p0 : Int) (p1 : (List Int)) (p2 : (List Int)) (p3 : (List Int)), Le (ref02_block_l2 n p0 p1 p2 p3) (ref02_block_l2 (n + 1) p0 p1 p2 p3)) := by
  induction n with
  | zero => exact (fun p0 p1 p2 p3 => Eq.mpr (congrArg (fun a => Le a _) (ref02_block_l2.eq_1 p0 p1 p2 p3)) (leNone _))
  | succ n ih => exact (fun p0 p1 p2 p3 => Eq.mpr (congrArg (fun a => Le a _) (ref02_block_l2.eq_2 _ _ _ _ _)) (Eq.mpr (congrArg (Le _) (ref02_block_l2.eq_2 _ _ _ _ _)) (leIte (leIte (leIte (leIte (leIte (leIte (leIte (leBind (ref02_right_up n _ _) (fun b18 => (leBind (ref02_right_up n _ _) (fun b20 => (leBind (ref02_right_up n _ _) (fun b22 => (leBind (ref02_right_up n _ _) (fun b24 => (leIte (leIte (leIte (leIte (leIte (leIte (leIte (leIte (leIte (ih _ _ _ _) (leRefl _)) (leRefl _)) (leRefl _)) (leRefl _)) (leRefl _)) (leRefl _)) (leRefl _)) (leRefl _)) (leRefl _)))))))))) (leRefl _)) (leRefl _)) (leRefl _)) (leRefl _)) (leRefl _)) (leRefl _)) (leRefl _))))
theorem ref02_block_l2_up (n : Nat) : ∀ (p0 : Int) (p1 : (List Int)) (p2 : (List Int)) (p3 : (List Int)), Le (ref02_block_l2 n p0 p1 p2 p3) (ref02_block_l2 (n + 1) p0 p1 p2 p3) := (ref02_block_l2_ups n)
theorem ref02_block_l3_ups (n : Nat) : (∀ (p0 : Int) (p1 : (List Int)) (p2 : (List Int)) (p3 : (List Int)) (p4 : (List Int)), Le (ref02_block_l3 n p0 p1 p2 p3 p4) (ref02_block_l3 (n + 1) p0 p1 p2 p3 p4)) := by
  induction n with
  | zero => exact (fun p0 p1 p2 p3 p4 => Eq.mpr (congrArg (fun a => Le a _) (ref02_block_l3.eq_1 p0 p1 p2 p3 p4)) (leNone _))
  | succ n ih => exact (fun p0 p1 p2 p3 p4 => Eq.mpr (congrArg (fun a => Le a _) (ref02_block_l3.eq_2 _ _ _ _ _ _)) (Eq.mpr (congrArg (Le _) (ref02_block_l3.eq_2 _ _ _ _ _ _)) (leIte (leIte (leIte (leIte (leIte (leIte (leIte (leIte (leIte (leIte (leBind (ref02_right_up n _ _) (fun b49 => (leBind (ref02_right_up n _ _) (fun b51 => (leBind (ref02_right_up n _ _) (fun b53 => (leIte (leIte (leIte (leIte (leIte (leIte (leIte (leIte (leIte (leIte (leIte (leIte (leBind (ref02_right_up n _ _) (fun b67 => (leBind (ref02_right_up n _ _) (fun b69 => (leBind (ref02_right_up n _ _) (fun b71 => (leIte (leIte (leIte (leIte (leIte (leIte (leIte (leIte (leIte (leIte (leIte (leIte (leIte (leIte (leIte (leIte (leIte (leIte (leIte (leIte (leIte (leIte (leIte (leIte (leIte (leIte (leIte (leIte (ih _ _ _ _ _) (leRefl _)) (leRefl _)) (leRefl _)) (leRefl _)) (leRefl _)) (leRefl _)) (leRefl _)) (leRefl _)) (leRefl _)) (leRefl _)) (leRefl _)) (leRefl _)) (leRefl _)) (leRefl _)) (leRefl _)) (leRefl _)) (leRefl _)) (leRefl _)) (leRefl _)) (leRefl _)) (leRefl _)) (leRefl _)) (leRefl _)) (leRefl _)) (leRefl _)) (leRefl _)) (leRefl _)) (leRefl _)))))))) (leRefl _)) (leRefl _)) (leRefl _)) (leRefl _)) (leRefl _)) (leRefl _)) (leRefl _)) (leRefl _)) (leRefl _)) (leRefl _)) (leRefl _)) (leRefl _)))))))) (leRefl _)) (leRefl _)) (leRefl _)) (leRefl _)) (leRefl _)) (leRefl _)) (leRefl _)) (leRefl _)) (leRefl _)) (leRefl _))))
theorem ref02_block_l3_up (n : Nat) : ∀ (p0 : Int) (p1 : (List Int)) (p2 : (List Int)) (p3 : (List Int)) (p4 : (List Int)), Le (ref02_block_l3 n p0 p1 p2 p3 p4) (ref02_block_l3 (n + 1) p0 p1 p2 p3 p4) := (ref02_block_l3_ups n)
theorem ref02_block_l4_ups (n : Nat) : (∀ (p0 : Int) (p1 : (List Int)) (p2 : (List Int)), Le (ref02_block_l4 n p0 p1 p2) (ref02_block_l4 (n + 1) p0 p1 p2)) := by
  induction n with
  | zero => exact (fun p0 p1 p2 => Eq.mpr (congrArg (fun a => Le a _) (ref02_block_l4.eq_1 p0 p1 p2)) (leNone _))
  | succ n ih => exact (fun p0 p1 p2 => Eq.mpr (congrArg (fun a => Le a _) (ref02_block_l4.eq_2 _ _ _ _)) (Eq.mpr (congrArg (Le _) (ref02_block_l4.eq_2 _ _ _ _)) (leIte (leIte (leIte (leIte (leIte (leIte (leIte (leIte (leIte (leIte (ih _ _ _) (leRefl _)) (leRefl _)) (leRefl _)) (leRefl _)) (leRefl _)) (leRefl _)) (leRefl _)) (leRefl _)) (leRefl _)) (leRefl _))))
theorem ref02_block_l4_up (n : Nat) : ∀ (p0 : Int) (p1 : (List Int)) (p2 : (List Int)), Le (ref02_block_l4 n p0 p1 p2) (ref02_block_l4 (n + 1) p0 p1 p2) := (ref02_block_l4_ups n)
theorem ref02_block_up (n : Nat) : ∀ (a0 : (List Int)) (a1 : (List Int)) (a2 : Str), Le (ref02_block n a0 a1 a2) (ref02_block (n + 1) a0 a1 a2) :=
  fun a0 a1 a2 => Eq.mpr (congrArg (fun a => Le a _) (ref02_block.eq_1 n a0 a1 a2)) (Eq.mpr (congrArg (Le _) (ref02_block.eq_1 (n + 1) a0 a1 a2)) (leBind (ref02_block_l1_up n _ _ _ _ _) (fun b9 => (leBind (ref02_block_l2_up n _ _ _ _) (fun b35 => (leIte (leIte (leBind (ref02_block_l3_up n _ _ _ _ _) (fun b101 => (leBind (ref02_block_l4_up n _ _ _) (fun b113 => (leIte (leIte (leRefl _) (leRefl _)) (leRefl _)))))) (leRefl _)) (leRefl _)))))))
theorem ref02_Sum_l1_ups (n : Nat) : (∀ (p0 : Str) (p1 : Int) (p2 : (List Int)), Le (ref02_Sum_l1 n p0 p1 p2) (ref02_Sum_l1 (n + 1) p0 p1 p2)) := by
  induction n with
  | zero => exact (fun p0 p1 p2 => Eq.mpr (congrArg (fun a => Le a _) (ref02_Sum_l1.eq_1 p0 p1 p2)) (leNone _))
  | succ n ih => exact (fun p0 p1 p2 => Eq.mpr (congrArg (fun a => Le a _) (ref02_Sum_l1.eq_2 _ _ _ _)) (Eq.mpr (congrArg (Le _) (ref02_Sum_l1.eq_2 _ _ _ _)) (leIte (leIte (leIte (leBind (ref02_block_up n _ _ _) (fun b11 => (leIte (leIte (ih _ _ _) (leRefl _)) (leRefl _)))) (leRefl _)) (leRefl _)) (leRefl _))))
theorem ref02_Sum_l1_up (n : Nat) : ∀ (p0 : Str) (p1 : Int) (p2 : (List Int)), Le (ref02_Sum_l1 n p0 p1 p2) (ref02_Sum_l1 (n + 1) p0 p1 p2) := (ref02_Sum_l1_ups n)
theorem ref02_Sum_l2_ups (n : Nat) : (∀ (p0 : (List Int)) (p1 : Int) (p2 : (List Int)), Le (ref02_Sum_l2 n p0 p1 p2) (ref02_Sum_l2 (n + 1) p0 p1 p2)) := by
  induction n with
  | zero => exact (fun p0 p1 p2 => Eq.mpr (congrArg (fun a => Le a _) (ref02_Sum_l2.eq_1 p0 p1 p2)) (leNone _))
  | succ n ih => exact (fun p0 p1 p2 => Eq.mpr (congrArg (fun a => Le a _) (ref02_Sum_l2.eq_2 _ _ _ _)) (Eq.mpr (congrArg (Le _) (ref02_Sum_l2.eq_2 _ _ _ _)) (leIte (leIte (leIte (leIte (ih _ _ _) (leRefl _)) (leRefl _)) (leRefl _)) (leRefl _))))
theorem ref02_Sum_l2_up (n : Nat) : ∀ (p0 : (List Int)) (p1 : Int) (p2 : (List Int)), Le (ref02_Sum_l2 n p0 p1 p2) (ref02_Sum_l2 (n + 1) p0 p1 p2) := (ref02_Sum_l2_ups n)
theorem ref02_Sum_up (n : Nat) : ∀ (a0 : Str), Le (ref02_Sum n a0) (ref02_Sum (n + 1) a0) :=
  fun a0 => Eq.mpr (congrArg (fun a => Le a _) (ref02_Sum.eq_1 n a0)) (Eq.mpr (congrArg (Le _) (ref02_Sum.eq_1 (n + 1) a0)) (leBind (ref02_first_up n) (fun b2 => (leBind (ref02_constants_up n) (fun b4 => (leBind (ref02_pad_up n _) (fun b6 => (leBind (ref02_Sum_l1_up n _ _ _) (fun b15 => (leIte (leBind (ref02_Sum_l2_up n _ _ _) (fun b22 => (leRefl _))) (leRefl _)))))))))))
theorem ref03_Code_up (n : Nat) : ∀ (a0 : Int), Le (ref03_Code n a0) (ref03_Code (n + 1) a0) :=
  fun a0 => Eq.mpr (congrArg (fun a => Le a _) (ref03_Code.eq_1 n a0)) (Eq.mpr (congrArg (Le _) (ref03_Code.eq_1 (n + 1) a0)) (leIte (leRefl _) (leIte (leRefl _) (leRefl _))))
theorem ref03_Raw_up (n : Nat) : ∀ (a0 : Int), Le (ref03_Raw n a0) (ref03_Raw (n + 1) a0) :=
  fun a0 => Eq.mpr (congrArg (fun a => Le a _) (ref03_Raw.eq_1 n a0)) (Eq.mpr (congrArg (Le _) (ref03_Raw.eq_1 (n + 1) a0)) (leIte (leRefl _) (leIte (leRefl _) (leRefl _))))
theorem ref03_lead_up (n : Nat) : ∀ (a0 : Int), Le (ref03_lead n a0) (ref03_lead (n + 1) a0) :=
  fun a0 => Eq.mpr (congrArg (fun a => Le a _) (ref03_lead.eq_1 n a0)) (Eq.mpr (congrArg (Le _) (ref03_lead.eq_1 (n + 1) a0)) (leBind (ref03_Raw_up n _) (fun b2 => (leRefl _))))
theorem ref01_Encode_l1_ups (n : Nat) : (∀ (p0 : Str) (p1 : Int) (p2 : (List Int)), Le (ref01_Encode_l1 n p0 p1 p2) (ref01_Encode_l1 (n + 1) p0 p1 p2)) := by
  induction n with
  | zero => exact (fun p0 p1 p2 => Eq.mpr (congrArg (fun a => Le a _) (ref01_Encode_l1.eq_1 p0 p1 p2)) (leNone _))
  | succ n ih => exact (fun p0 p1 p2 => Eq.mpr (congrArg (fun a => Le a _) (ref01_Encode_l1.eq_2 _ _ _ _)) (Eq.mpr (congrArg (Le _) (ref01_Encode_l1.eq_2 _ _ _ _)) (leIte (leIte (leIte (leIte (leIte (leIte (leIte (leIte (leIte (ih _ _ _) (leRefl _)) (leRefl _)) (leRefl _)) (leRefl _)) (leRefl _)) (leRefl _)) (leRefl _)) (leRefl _)) (leRefl _))))
theorem ref01_Encode_l1_up (n : Nat) : ∀ (p0 : Str) (p1 : Int) (p2 : (List Int)), Le (ref01_Encode_l1 n p0 p1 p2) (ref01_Encode_l1 (n + 1) p0 p1 p2) := (ref01_Encode_l1_ups n)
theorem ref01_Encode_up (n : Nat) : ∀ (a0 : Str), Le (ref01_Encode n a0) (ref01_Encode (n + 1) a0) :=
  fun a0 => Eq.mpr (congrArg (fun a => Le a _) (ref01_Encode.eq_1 n a0)) (Eq.mpr (congrArg (Le _) (ref01_Encode.eq_1 (n + 1) a0)) (leIte (leRefl _) (leIte (leRefl _) (leBind (ref01_Encode_l1_up n _ _ _) (fun b13 => (leRefl _))))))
theorem ref03_Encode_up (n : Nat) : ∀ (a0 : T_api_Primitive), Le (ref03_Encode n a0) (ref03_Encode (n + 1) a0) :=
  fun a0 => Eq.mpr (congrArg (fun a => Le a _) (ref03_Encode.eq_1 n a0)) (Eq.mpr (congrArg (Le _) (ref03_Encode.eq_1 (n + 1) a0)) (leBind (ref03_Code_up n _) (fun b2 => (leIte (leRefl _) (leBind (ref03_Raw_up n _) (fun b5 => (leIte (leRefl _) (leBind (ref03_lead_up n _) (fun b8 => (leIte (leIte (leBind (ref01_Encode_up n _) (fun b12 => (leIte (leIte (leRefl _) (leRefl _)) (leRefl _)))) (leRefl _)) (leRefl _)))))))))))
theorem ref03_Make_up (n : Nat) : ∀ (a0 : Int) (a1 : Str), Le (ref03_Make n a0 a1) (ref03_Make (n + 1) a0 a1) :=
  fun a0 a1 => Eq.mpr (congrArg (fun a => Le a _) (ref03_Make.eq_1 n a0 a1)) (Eq.mpr (congrArg (Le _) (ref03_Make.eq_1 (n + 1) a0 a1)) (leBind (ref03_Encode_up n _) (fun b2 => (leRefl _))))
theorem ref10_Digest_up (n : Nat) : ∀ (a0 : Str), Le (ref10_Digest n a0) (ref10_Digest (n + 1) a0) :=
  fun a0 => Eq.mpr (congrArg (fun a => Le a _) (ref10_Digest.eq_1 n a0)) (Eq.mpr (congrArg (Le _) (ref10_Digest.eq_1 (n + 1) a0)) (leBind (ref02_Sum_up n _) (fun b2 => (leBind (ref03_Make_up n _ _) (fun b4 => (leRefl _))))))
theorem play_Digest_up (n : Nat) : ∀ (a0 : Str), Le (play_Digest n a0) (play_Digest (n + 1) a0) :=
  fun a0 => Eq.mpr (congrArg (fun a => Le a _) (play_Digest.eq_1 n a0)) (Eq.mpr (congrArg (Le _) (play_Digest.eq_1 (n + 1) a0)) (leBind (ref10_Digest_up n _) (fun b2 => (leRefl _))))
theorem schema_index_l1_ups (n : Nat) : (∀ (p0 : (List T_api_Field)) (p1 : Int) (p2 : Int) (p3 : (List (Str × T_schema_numbered))), Le (schema_index_l1 n p0 p1 p2 p3) (schema_index_l1 (n + 1) p0 p1 p2 p3)) := by
  induction n with
  | zero => exact (fun p0 p1 p2 p3 => Eq.mpr (congrArg (fun a => Le a _) (schema_index_l1.eq_1 p0 p1 p2 p3)) (leNone _))
  | succ n ih => exact (fun p0 p1 p2 p3 => Eq.mpr (congrArg (fun a => Le a _) (schema_index_l1.eq_2 _ _ _ _ _)) (Eq.mpr (congrArg (Le _) (schema_index_l1.eq_2 _ _ _ _ _)) (leIte (leIte (leIte (ih _ _ _ _) (ih _ _ _ _)) (leRefl _)) (leRefl _))))
theorem schema_index_l1_up (n : Nat) : ∀ (p0 : (List T_api_Field)) (p1 : Int) (p2 : Int) (p3 : (List (Str × T_schema_numbered))), Le (schema_index_l1 n p0 p1 p2 p3) (schema_index_l1 (n + 1) p0 p1 p2 p3) := (schema_index_l1_ups n)
theorem schema_index_up (n : Nat) : ∀ (a0 : (List T_api_Field)), Le (schema_index n a0) (schema_index (n + 1) a0) :=
  fun a0 => Eq.mpr (congrArg (fun a => Le a _) (schema_index.eq_1 n a0)) (Eq.mpr (congrArg (Le _) (schema_index.eq_1 (n + 1) a0)) (leBind (schema_index_l1_up n _ _ _ _) (fun b5 => (leRefl _))))
theorem schema_Name_l1_ups (n : Nat) : (∀ (p0 : Str) (p1 : Int) (p2 : Int), Le (schema_Name_l1 n p0 p1 p2) (schema_Name_l1 (n + 1) p0 p1 p2)) ∧ (∀ (p0 : Str) (p1 : Int) (p2 : Bool) (p3 : Int) (p4 : Int), Le (schema_Name_j1 n p0 p1 p2 p3 p4) (schema_Name_j1 (n + 1) p0 p1 p2 p3 p4)) := by
  induction n with
  | zero => exact ⟨(fun p0 p1 p2 => Eq.mpr (congrArg (fun a => Le a _) (schema_Name_l1.eq_1 p0 p1 p2)) (leNone _)), (fun p0 p1 p2 p3 p4 => Eq.mpr (congrArg (fun a => Le a _) (schema_Name_j1.eq_1 p0 p1 p2 p3 p4)) (leNone _))⟩
  | succ n ih => exact ⟨(fun p0 p1 p2 => Eq.mpr (congrArg (fun a => Le a _) (schema_Name_l1.eq_2 _ _ _ _)) (Eq.mpr (congrArg (Le _) (schema_Name_l1.eq_2 _ _ _ _)) (leIte (leIte (leIte (leIte (ih.2 _ _ _ _ _) (leRefl _)) (ih.2 _ _ _ _ _)) (leRefl _)) (leRefl _)))), (fun p0 p1 p2 p3 p4 => Eq.mpr (congrArg (fun a => Le a _) (schema_Name_j1.eq_2 _ _ _ _ _ _)) (Eq.mpr (congrArg (Le _) (schema_Name_j1.eq_2 _ _ _ _ _ _)) (leIte (leIte (leRefl _) (leIte (leIte (leIte (leIte (leRefl _) (leIte (leIte (leRefl _) (ih.1 _ _ _)) (leRefl _))) (leRefl _)) (ih.1 _ _ _)) (leRefl _))) (ih.1 _ _ _))))⟩
theorem schema_Name_l1_up (n : Nat) : ∀ (p0 : Str) (p1 : Int) (p2 : Int), Le (schema_Name_l1 n p0 p1 p2) (schema_Name_l1 (n + 1) p0 p1 p2) := (schema_Name_l1_ups n).1
theorem schema_Name_j1_up (n : Nat) : ∀ (p0 : Str) (p1 : Int) (p2 : Bool) (p3 : Int) (p4 : Int), Le (schema_Name_j1 n p0 p1 p2 p3 p4) (schema_Name_j1 (n + 1) p0 p1 p2 p3 p4) := (schema_Name_l1_ups n).2
theorem schema_Name_up (n : Nat) : ∀ (a0 : Str), Le (schema_Name n a0) (schema_Name (n + 1) a0) :=
  fun a0 => Eq.mpr (congrArg (fun a => Le a _) (schema_Name.eq_1 n a0)) (Eq.mpr (congrArg (Le _) (schema_Name.eq_1 (n + 1) a0)) (leIte (leRefl _) (leBind (schema_Name_l1_up n _ _ _) (fun b14 => (match b14 with | .inl b15 => (leRefl _) | .inr b16 => (leRefl _))))))
theorem schema_bounded_up (n : Nat) : ∀ (a0 : T_api_Field), Le (schema_bounded n a0) (schema_bounded (n + 1) a0) :=
  fun a0 => Eq.mpr (congrArg (fun a => Le a _) (schema_bounded.eq_1 n a0)) (Eq.mpr (congrArg (Le _) (schema_bounded.eq_1 (n + 1) a0)) (leIte (leRefl _) (leIte (leRefl _) (leIte (leRefl _) (leIte (leRefl _) (leRefl _))))))
theorem schema_right_1_up (n : Nat) : ∀ (a0 : T_api_Field), Le (schema_right_1 n a0) (schema_right_1 (n + 1) a0) :=
  fun a0 => Eq.mpr (congrArg (fun a => Le a _) (schema_right_1.eq_1 n a0)) (Eq.mpr (congrArg (Le _) (schema_right_1.eq_1 (n + 1) a0)) (leBind (schema_Name_up n _) (fun b2 => (leIte (leRefl _) (leBind (schema_bounded_up n _) (fun b5 => (leRefl _)))))))
theorem slices_IndexFunc__api_Field_api_Field_l1_ups (n : Nat) : (∀ (p0 : (List T_api_Field)) (p1 : Int) (p2 : Int), Le (slices_IndexFunc__api_Field_api_Field_l1 n p0 p1 p2) (slices_IndexFunc__api_Field_api_Field_l1 (n + 1) p0 p1 p2)) := by
  induction n with
  | zero => exact (fun p0 p1 p2 => Eq.mpr (congrArg (fun a => Le a _) (slices_IndexFunc__api_Field_api_Field_l1.eq_1 p0 p1 p2)) (leNone _))
  | succ n ih => exact (fun p0 p1 p2 => Eq.mpr (congrArg (fun a => Le a _) (slices_IndexFunc__api_Field_api_Field_l1.eq_2 _ _ _ _)) (Eq.mpr (congrArg (Le _) (slices_IndexFunc__api_Field_api_Field_l1.eq_2 _ _ _ _)) (leIte (leIte (leBind (schema_right_1_up n _) (fun b4 => (leIte (leRefl _) (ih _ _ _)))) (leRefl _)) (leRefl _))))
theorem slices_IndexFunc__api_Field_api_Field_l1_up (n : Nat) : ∀ (p0 : (List T_api_Field)) (p1 : Int) (p2 : Int), Le (slices_IndexFunc__api_Field_api_Field_l1 n p0 p1 p2) (slices_IndexFunc__api_Field_api_Field_l1 (n + 1) p0 p1 p2) := (slices_IndexFunc__api_Field_api_Field_l1_ups n)
theorem slices_IndexFunc__api_Field_api_Field_up (n : Nat) : ∀ (a0 : (List T_api_Field)), Le (slices_IndexFunc__api_Field_api_Field n a0) (slices_IndexFunc__api_Field_api_Field (n + 1) a0) :=
  fun a0 => Eq.mpr (congrArg (fun a => Le a _) (slices_IndexFunc__api_Field_api_Field.eq_1 n a0)) (Eq.mpr (congrArg (Le _) (slices_IndexFunc__api_Field_api_Field.eq_1 (n + 1) a0)) (leBind (slices_IndexFunc__api_Field_api_Field_l1_up n _ _ _) (fun b6 => (match b6 with | .inl b7 => (leRefl _) | .inr b8 => (leRefl _)))))
theorem slices_ContainsFunc__api_Field_api_Field_up (n : Nat) : ∀ (a0 : (List T_api_Field)), Le (slices_ContainsFunc__api_Field_api_Field n a0) (slices_ContainsFunc__api_Field_api_Field (n + 1) a0) :=
  fun a0 => Eq.mpr (congrArg (fun a => Le a _) (slices_ContainsFunc__api_Field_api_Field.eq_1 n a0)) (Eq.mpr (congrArg (Le _) (slices_ContainsFunc__api_Field_api_Field.eq_1 (n + 1) a0)) (leBind (slices_IndexFunc__api_Field_api_Field_up n _) (fun b2 => (leRefl _))))
theorem schema_right_up (n : Nat) : ∀ (a0 : Str) (a1 : (List T_api_Field)), Le (schema_right n a0 a1) (schema_right (n + 1) a0 a1) :=
  fun a0 a1 => Eq.mpr (congrArg (fun a => Le a _) (schema_right.eq_1 n a0 a1)) (Eq.mpr (congrArg (Le _) (schema_right.eq_1 (n + 1) a0 a1)) (leBind (schema_index_up n _) (fun b2 => (leBind (schema_Name_up n _) (fun b4 => (leIte (leRefl _) (leBind (slices_ContainsFunc__api_Field_api_Field_up n _) (fun b7 => (leRefl _)))))))))
theorem node_Text_up (n : Nat) : ∀ (a0 : Str), Le (node_Text n a0) (node_Text (n + 1) a0) :=
  fun a0 => Eq.mpr (congrArg (fun a => Le a _) (node_Text.eq_1 n a0)) (Eq.mpr (congrArg (Le _) (node_Text.eq_1 (n + 1) a0)) (leRefl _))
theorem node_Number_up (n : Nat) : ∀ (a0 : Int), Le (node_Number n a0) (node_Number (n + 1) a0) :=
  fun a0 => Eq.mpr (congrArg (fun a => Le a _) (node_Number.eq_1 n a0)) (Eq.mpr (congrArg (Le _) (node_Number.eq_1 (n + 1) a0)) (leRefl _))
theorem schema_flag_up (n : Nat) : ∀ (a0 : Bool), Le (schema_flag n a0) (schema_flag (n + 1) a0) :=
  fun a0 => Eq.mpr (congrArg (fun a => Le a _) (schema_flag.eq_1 n a0)) (Eq.mpr (congrArg (Le _) (schema_flag.eq_1 (n + 1) a0)) (leRefl _))
theorem node_Own_l1_ups (n : Nat) : (∀ (p0 : Int) (p1 : Int) (p2 : Int) (p3 : Bool) (p4 : Int) (p5 : Str) (p6 : (List T_api_Node)) (p7 : (List Str)), Le (node_Own_l1 n p0 p1 p2 p3 p4 p5 p6 p7) (node_Own_l1 (n + 1) p0 p1 p2 p3 p4 p5 p6 p7)) ∧ (∀ (a0 : T_api_Node), Le (node_Own n a0) (node_Own (n + 1) a0)) := by
  induction n with
  | zero => exact ⟨(fun p0 p1 p2 p3 p4 p5 p6 p7 => Eq.mpr (congrArg (fun a => Le a _) (node_Own_l1.eq_1 p0 p1 p2 p3 p4 p5 p6 p7)) (leNone _)), (fun a0 => Eq.mpr (congrArg (fun a => Le a _) (node_Own.eq_1 a0)) (leNone _))⟩
  | succ n ih => exact ⟨(fun p0 p1 p2 p3 p4 p5 p6 p7 => Eq.mpr (congrArg (fun a => Le a _) (node_Own_l1.eq_2 _ _ _ _ _ _ _ _ _)) (Eq.mpr (congrArg (Le _) (node_Own_l1.eq_2 _ _ _ _ _ _ _ _ _)) (leIte (leIte (leIte (leBind (ih.2 _) (fun b9 => (leIte (leIte (ih.1 _ _ _ _ _ _ _ _) (leRefl _)) (leRefl _)))) (leRefl _)) (leRefl _)) (leRefl _)))), (fun a0 => Eq.mpr (congrArg (fun a => Le a _) (node_Own.eq_2 _ _)) (Eq.mpr (congrArg (Le _) (node_Own.eq_2 _ _)) (leBind (leRefl _) (fun b2 => (leBind (leRefl _) (fun b4 => (leBind (ih.1 _ _ _ _ _ _ _ _) (fun b13 => (leRefl _)))))))))⟩
theorem node_Own_l1_up (n : Nat) : ∀ (p0 : Int) (p1 : Int) (p2 : Int) (p3 : Bool) (p4 : Int) (p5 : Str) (p6 : (List T_api_Node)) (p7 : (List Str)), Le (node_Own_l1 n p0 p1 p2 p3 p4 p5 p6 p7) (node_Own_l1 (n + 1) p0 p1 p2 p3 p4 p5 p6 p7) := (node_Own_l1_ups n).1
theorem node_Own_up (n : Nat) : ∀ (a0 : T_api_Node), Le (node_Own n a0) (node_Own (n + 1) a0) := (node_Own_l1_ups n).2
theorem node_Map_up (n : Nat) : ∀ (a0 : (List Str)) (a1 : (List T_api_Node)), Le (node_Map n a0 a1) (node_Map (n + 1) a0 a1) :=
  fun a0 a1 => Eq.mpr (congrArg (fun a => Le a _) (node_Map.eq_1 n a0 a1)) (Eq.mpr (congrArg (Le _) (node_Map.eq_1 (n + 1) a0 a1)) (leBind (node_Own_up n _) (fun b2 => (leRefl _))))
theorem schema_Make_l1_ups (n : Nat) : (∀ (p0 : Str) (p1 : (List T_api_Field)) (p2 : (List T_api_Field)) (p3 : Int) (p4 : Int) (p5 : (List T_api_Node)), Le (schema_Make_l1 n p0 p1 p2 p3 p4 p5) (schema_Make_l1 (n + 1) p0 p1 p2 p3 p4 p5)) := by
  induction n with
  | zero => exact (fun p0 p1 p2 p3 p4 p5 => Eq.mpr (congrArg (fun a => Le a _) (schema_Make_l1.eq_1 p0 p1 p2 p3 p4 p5)) (leNone _))
  | succ n ih => exact (fun p0 p1 p2 p3 p4 p5 => Eq.mpr (congrArg (fun a => Le a _) (schema_Make_l1.eq_2 _ _ _ _ _ _ _)) (Eq.mpr (congrArg (Le _) (schema_Make_l1.eq_2 _ _ _ _ _ _ _)) (leIte (leIte (leBind (node_Text_up n _) (fun b7 => (leBind (node_Number_up n _) (fun b9 => (leBind (schema_flag_up n _) (fun b11 => (leBind (node_Number_up n _) (fun b13 => (leBind (node_Number_up n _) (fun b15 => (leBind (node_Map_up n _ _) (fun b17 => (leIte (ih _ _ _ _ _ _) (leRefl _)))))))))))))) (leRefl _)) (leRefl _))))
theorem schema_Make_l1_up (n : Nat) : ∀ (p0 : Str) (p1 : (List T_api_Field)) (p2 : (List T_api_Field)) (p3 : Int) (p4 : Int) (p5 : (List T_api_Node)), Le (schema_Make_l1 n p0 p1 p2 p3 p4 p5) (schema_Make_l1 (n + 1) p0 p1 p2 p3 p4 p5) := (schema_Make_l1_ups n)
theorem node_List_up (n : Nat) : ∀ (a0 : (List T_api_Node)), Le (node_List n a0) (node_List (n + 1) a0) :=
  fun a0 => Eq.mpr (congrArg (fun a => Le a _) (node_List.eq_1 n a0)) (Eq.mpr (congrArg (Le _) (node_List.eq_1 (n + 1) a0)) (leBind (node_Own_up n _) (fun b2 => (leRefl _))))
theorem slices_Index__string_string_l1_ups (n : Nat) : (∀ (p0 : (List Str)) (p1 : Str) (p2 : Int) (p3 : Int), Le (slices_Index__string_string_l1 n p0 p1 p2 p3) (slices_Index__string_string_l1 (n + 1) p0 p1 p2 p3)) := by
  induction n with
  | zero => exact (fun p0 p1 p2 p3 => Eq.mpr (congrArg (fun a => Le a _) (slices_Index__string_string_l1.eq_1 p0 p1 p2 p3)) (leNone _))
  | succ n ih => exact (fun p0 p1 p2 p3 => Eq.mpr (congrArg (fun a => Le a _) (slices_Index__string_string_l1.eq_2 _ _ _ _ _)) (Eq.mpr (congrArg (Le _) (slices_Index__string_string_l1.eq_2 _ _ _ _ _)) (leIte (leIte (leIte (leRefl _) (ih _ _ _ _)) (leRefl _)) (leRefl _))))
theorem slices_Index__string_string_l1_up (n : Nat) : ∀ (p0 : (List Str)) (p1 : Str) (p2 : Int) (p3 : Int), Le (slices_Index__string_string_l1 n p0 p1 p2 p3) (slices_Index__string_string_l1 (n + 1) p0 p1 p2 p3) := (slices_Index__string_string_l1_ups n)
theorem slices_Index__string_string_up (n : Nat) : ∀ (a0 : (List Str)) (a1 : Str), Le (slices_Index__string_string n a0 a1) (slices_Index__string_string (n + 1) a0 a1) :=
  fun a0 a1 => Eq.mpr (congrArg (fun a => Le a _) (slices_Index__string_string.eq_1 n a0 a1)) (Eq.mpr (congrArg (Le _) (slices_Index__string_string.eq_1 (n + 1) a0 a1)) (leBind (slices_Index__string_string_l1_up n _ _ _ _) (fun b4 => (match b4 with | .inl b5 => (leRefl _) | .inr b6 => (leRefl _)))))
theorem slices_Contains__string_string_up (n : Nat) : ∀ (a0 : (List Str)) (a1 : Str), Le (slices_Contains__string_string n a0 a1) (slices_Contains__string_string (n + 1) a0 a1) :=
  fun a0 a1 => Eq.mpr (congrArg (fun a => Le a _) (slices_Contains__string_string.eq_1 n a0 a1)) (Eq.mpr (congrArg (Le _) (slices_Contains__string_string.eq_1 (n + 1) a0 a1)) (leBind (slices_Index__string_string_up n _ _) (fun b2 => (leRefl _))))
theorem primitive_forms_up (n : Nat) : Le (primitive_forms n) (primitive_forms (n + 1)) :=
  Eq.mpr (congrArg (fun a => Le a _) (primitive_forms.eq_1 n)) (Eq.mpr (congrArg (Le _) (primitive_forms.eq_1 (n + 1))) (leRefl _))
theorem primitive_Size_up (n : Nat) : ∀ (a0 : Int), Le (primitive_Size n a0) (primitive_Size (n + 1) a0) :=
  fun a0 => Eq.mpr (congrArg (fun a => Le a _) (primitive_Size.eq_1 n a0)) (Eq.mpr (congrArg (Le _) (primitive_Size.eq_1 (n + 1) a0)) (leBind (primitive_forms_up n) (fun b2 => (leIte (leRefl _) (leBind (primitive_form_size_up n _) (fun b5 => (leRefl _)))))))
theorem said_Dummy_up (n : Nat) : Le (said_Dummy n) (said_Dummy (n + 1)) :=
  Eq.mpr (congrArg (fun a => Le a _) (said_Dummy.eq_1 n)) (Eq.mpr (congrArg (Le _) (said_Dummy.eq_1 (n + 1))) (leBind (primitive_Size_up n _) (fun b2 => (leBind (strings_Repeat_up n _ _) (fun b4 => (leRefl _))))))
theorem node_place_up (n : Nat) : ∀ (a0 : T_api_Node) (a1 : Str), Le (node_place n a0 a1) (node_place (n + 1) a0 a1) :=
  fun a0 a1 => Eq.mpr (congrArg (fun a => Le a _) (node_place.eq_1 n a0 a1)) (Eq.mpr (congrArg (Le _) (node_place.eq_1 (n + 1) a0 a1)) (leIte (leRefl _) (leIte (leBind (slices_Index__string_string_up n _ _) (fun b4 => (leRefl _))) (leRefl _))))
theorem node_Set_up (n : Nat) : ∀ (a0 : T_api_Node) (a1 : Str) (a2 : T_api_Node), Le (node_Set n a0 a1 a2) (node_Set (n + 1) a0 a1 a2) :=
  fun a0 a1 a2 => Eq.mpr (congrArg (fun a => Le a _) (node_Set.eq_1 n a0 a1 a2)) (Eq.mpr (congrArg (Le _) (node_Set.eq_1 (n + 1) a0 a1 a2)) (leBind (node_Own_up n _) (fun b2 => (leBind (node_place_up n _ _) (fun b4 => (leIte (leBind (node_Own_up n _) (fun b7 => (leIte (leIte (leRefl _) (leRefl _)) (leRefl _)))) (leIte (leBind (node_Own_up n _) (fun b12 => (leIte (leRefl _) (leRefl _)))) (leRefl _))))))))
theorem said_all_l1_ups (n : Nat) : (∀ (p0 : Str) (p1 : (List Str)) (p2 : Int) (p3 : Int) (p4 : T_api_Node), Le (said_all_l1 n p0 p1 p2 p3 p4) (said_all_l1 (n + 1) p0 p1 p2 p3 p4)) := by
  induction n with
  | zero => exact (fun p0 p1 p2 p3 p4 => Eq.mpr (congrArg (fun a => Le a _) (said_all_l1.eq_1 p0 p1 p2 p3 p4)) (leNone _))
  | succ n ih => exact (fun p0 p1 p2 p3 p4 => Eq.mpr (congrArg (fun a => Le a _) (said_all_l1.eq_2 _ _ _ _ _ _)) (Eq.mpr (congrArg (Le _) (said_all_l1.eq_2 _ _ _ _ _ _)) (leIte (leIte (leBind (node_Text_up n _) (fun b4 => (leBind (node_Set_up n _ _ _) (fun b6 => (ih _ _ _ _ _))))) (leRefl _)) (leRefl _))))
theorem said_all_l1_up (n : Nat) : ∀ (p0 : Str) (p1 : (List Str)) (p2 : Int) (p3 : Int) (p4 : T_api_Node), Le (said_all_l1 n p0 p1 p2 p3 p4) (said_all_l1 (n + 1) p0 p1 p2 p3 p4) := (said_all_l1_ups n)
theorem said_all_up (n : Nat) : ∀ (a0 : T_api_Node) (a1 : (List Str)) (a2 : Str), Le (said_all n a0 a1 a2) (said_all (n + 1) a0 a1 a2) :=
  fun a0 a1 a2 => Eq.mpr (congrArg (fun a => Le a _) (said_all.eq_1 n a0 a1 a2)) (Eq.mpr (congrArg (Le _) (said_all.eq_1 (n + 1) a0 a1 a2)) (leBind (said_all_l1_up n _ _ _ _ _) (fun b8 => (leRefl _))))
theorem version_names_up (n : Nat) : Le (version_names n) (version_names (n + 1)) :=
  Eq.mpr (congrArg (fun a => Le a _) (version_names.eq_1 n)) (Eq.mpr (congrArg (Le _) (version_names.eq_1 (n + 1))) (leRefl _))
theorem version_protocol_l1_ups (n : Nat) : (∀ (p0 : Str) (p1 : Str) (p2 : Nat), Le (version_protocol_l1 n p0 p1 p2) (version_protocol_l1 (n + 1) p0 p1 p2)) := by
  induction n with
  | zero => exact (fun p0 p1 p2 => Eq.mpr (congrArg (fun a => Le a _) (version_protocol_l1.eq_1 p0 p1 p2)) (leNone _))
  | succ n ih => exact (fun p0 p1 p2 => Eq.mpr (congrArg (fun a => Le a _) (version_protocol_l1.eq_2 _ _ _ _)) (Eq.mpr (congrArg (Le _) (version_protocol_l1.eq_2 _ _ _ _)) (leIte (leIte (leRefl _) (ih _ _ _)) (leRefl _))))
theorem version_protocol_l1_up (n : Nat) : ∀ (p0 : Str) (p1 : Str) (p2 : Nat), Le (version_protocol_l1 n p0 p1 p2) (version_protocol_l1 (n + 1) p0 p1 p2) := (version_protocol_l1_ups n)
theorem version_protocol_up (n : Nat) : ∀ (a0 : Str), Le (version_protocol n a0) (version_protocol (n + 1) a0) :=
  fun a0 => Eq.mpr (congrArg (fun a => Le a _) (version_protocol.eq_1 n a0)) (Eq.mpr (congrArg (Le _) (version_protocol.eq_1 (n + 1) a0)) (leBind (version_protocol_l1_up n _ _ _) (fun b3 => (match b3 with | .inl b4 => (leRefl _) | .inr b5 => (leRefl _)))))
theorem version_Valid_up (n : Nat) : ∀ (a0 : T_api_Version), Le (version_Valid n a0) (version_Valid (n + 1) a0) :=
  fun a0 => Eq.mpr (congrArg (fun a => Le a _) (version_Valid.eq_1 n a0)) (Eq.mpr (congrArg (Le _) (version_Valid.eq_1 (n + 1) a0)) (leBind (version_names_up n) (fun b2 => (leIte (leBind (version_protocol_up n _) (fun b5 => (leRefl _))) (leRefl _)))))
theorem version_hex_up (n : Nat) : ∀ (a0 : Int) (a1 : Int), Le (version_hex n a0 a1) (version_hex (n + 1) a0 a1) :=
  fun a0 a1 => Eq.mpr (congrArg (fun a => Le a _) (version_hex.eq_1 n a0 a1)) (Eq.mpr (congrArg (Le _) (version_hex.eq_1 (n + 1) a0 a1)) (leBind (leRefl _) (fun b2 => (leBind (strings_Repeat_up n _ _) (fun b4 => (leIte (leRefl _) (leRefl _)))))))
theorem version_Text_up (n : Nat) : ∀ (a0 : T_api_Version), Le (version_Text n a0) (version_Text (n + 1) a0) :=
  fun a0 => Eq.mpr (congrArg (fun a => Le a _) (version_Text.eq_1 n a0)) (Eq.mpr (congrArg (Le _) (version_Text.eq_1 (n + 1) a0)) (leBind (version_Valid_up n _) (fun b2 => (leIte (leRefl _) (leBind (version_hex_up n _ _) (fun b5 => (leIte (leBind (version_hex_up n _ _) (fun b8 => (leIte (leBind (version_names_up n) (fun b11 => (leIte (leBind (version_hex_up n _ _) (fun b14 => (leIte (leIte (leRefl _) (leRefl _)) (leRefl _)))) (leRefl _)))) (leRefl _)))) (leRefl _))))))))
theorem slices_Index__string_string_i2_l1_ups (n : Nat) : (∀ (p0 : Str) (p1 : Int) (p2 : Int) (p3 : (List Str)), Le (slices_Index__string_string_i2_l1 n p0 p1 p2 p3) (slices_Index__string_string_i2_l1 (n + 1) p0 p1 p2 p3)) := by
  induction n with
  | zero => exact (fun p0 p1 p2 p3 => Eq.mpr (congrArg (fun a => Le a _) (slices_Index__string_string_i2_l1.eq_1 p0 p1 p2 p3)) (leNone _))
  | succ n ih => exact (fun p0 p1 p2 p3 => Eq.mpr (congrArg (fun a => Le a _) (slices_Index__string_string_i2_l1.eq_2 _ _ _ _ _)) (Eq.mpr (congrArg (Le _) (slices_Index__string_string_i2_l1.eq_2 _ _ _ _ _)) (leIte (leIte (leIte (leIte (leRefl _) (ih _ _ _ _)) (leRefl _)) (leRefl _)) (leRefl _))))
theorem slices_Index__string_string_i2_l1_up (n : Nat) : ∀ (p0 : Str) (p1 : Int) (p2 : Int) (p3 : (List Str)), Le (slices_Index__string_string_i2_l1 n p0 p1 p2 p3) (slices_Index__string_string_i2_l1 (n + 1) p0 p1 p2 p3) := (slices_Index__string_string_i2_l1_ups n)
theorem slices_Index__string_string_i2_up (n : Nat) : ∀ (a0 : Str) (a1 : (List Str)), Le (slices_Index__string_string_i2 n a0 a1) (slices_Index__string_string_i2 (n + 1) a0 a1) :=
  fun a0 a1 => Eq.mpr (congrArg (fun a => Le a _) (slices_Index__string_string_i2.eq_1 n a0 a1)) (Eq.mpr (congrArg (Le _) (slices_Index__string_string_i2.eq_1 (n + 1) a0 a1)) (leBind (slices_Index__string_string_i2_l1_up n _ _ _ _) (fun b5 => (match b5 with | .inl b6 => (leRefl _) | .inr b7 => (leRefl _)))))
theorem version_Fit_j1_up (n : Nat) : ∀ (p0 : Int) (p1 : Str) (p2 : T_api_Version) (p3 : Int) (p4 : Bool) (p5 : Int) (p6 : Str) (p7 : (List Str)) (p8 : (List T_api_Node)), Le (version_Fit_j1 n p0 p1 p2 p3 p4 p5 p6 p7 p8) (version_Fit_j1 (n + 1) p0 p1 p2 p3 p4 p5 p6 p7 p8) :=
  fun p0 p1 p2 p3 p4 p5 p6 p7 p8 => Eq.mpr (congrArg (fun a => Le a _) (version_Fit_j1.eq_1 n p0 p1 p2 p3 p4 p5 p6 p7 p8)) (Eq.mpr (congrArg (Le _) (version_Fit_j1.eq_1 (n + 1) p0 p1 p2 p3 p4 p5 p6 p7 p8)) (leBind (leRefl _) (fun b18 => (leBind (leRefl _) (fun b20 => (leBind (node_Text_up n _) (fun b26 => (leBind (node_Set_up n _ _ _) (fun b28 => (leBind (leRefl _) (fun b30 => (leIte (leRefl _) (leBind (version_Text_up n _) (fun b33 => (leBind (node_Text_up n _) (fun b35 => (leBind (node_Set_up n _ _ _) (fun b37 => (leBind (leRefl _) (fun b39 => (leRefl _)))))))))))))))))))))
theorem version_Fit_up (n : Nat) : ∀ (a0 : T_api_Node) (a1 : Str) (a2 : Int), Le (version_Fit n a0 a1 a2) (version_Fit (n + 1) a0 a1 a2) :=
  fun a0 a1 a2 => Eq.mpr (congrArg (fun a => Le a _) (version_Fit.eq_1 n a0 a1 a2)) (Eq.mpr (congrArg (Le _) (version_Fit.eq_1 (n + 1) a0 a1 a2)) (leBind (version_Text_up n _) (fun b2 => (leIte (leRefl _) (leIte (leRefl _) (leBind (node_Valid_up n _) (fun b6 => (leIte (leRefl _) (leBind (node_Own_up n _) (fun b9 => (leBind (slices_Index__string_string_i2_up n _ _) (fun b11 => (leIte (leBind (leRefl _) (fun b14 => (leBind (leRefl _) (fun b16 => (version_Fit_j1_up n _ _ _ _ _ _ _ _ _))))) (version_Fit_j1_up n _ _ _ _ _ _ _ _ _))))))))))))))
theorem hash_begin_up (n : Nat) : Le (hash_begin n) (hash_begin (n + 1)) :=
  Eq.mpr (congrArg (fun a => Le a _) (hash_begin.eq_1 n)) (Eq.mpr (congrArg (Le _) (hash_begin.eq_1 (n + 1))) (leRefl _))
theorem hash_constants_up (n : Nat) : Le (hash_constants n) (hash_constants (n + 1)) :=
  Eq.mpr (congrArg (fun a => Le a _) (hash_constants.eq_1 n)) (Eq.mpr (congrArg (Le _) (hash_constants.eq_1 (n + 1))) (leRefl _))
theorem strings_Builder_WriteString_up (n : Nat) : ∀ (a0 : Str), Le (strings_Builder_WriteString n a0) (strings_Builder_WriteString (n + 1) a0) :=
  fun a0 => Eq.mpr (congrArg (fun a => Le a _) (strings_Builder_WriteString.eq_1 n a0)) (Eq.mpr (congrArg (Le _) (strings_Builder_WriteString.eq_1 (n + 1) a0)) (leBind (leRefl _) (fun b2 => (leIte (leRefl _) (leRefl _)))))
theorem strings_Builder_WriteByte_up (n : Nat) : ∀ (a0 : Int) (a1 : (List Int)), Le (strings_Builder_WriteByte n a0 a1) (strings_Builder_WriteByte (n + 1) a0 a1) :=
  fun a0 a1 => Eq.mpr (congrArg (fun a => Le a _) (strings_Builder_WriteByte.eq_1 n a0 a1)) (Eq.mpr (congrArg (Le _) (strings_Builder_WriteByte.eq_1 (n + 1) a0 a1)) (leBind (leRefl _) (fun b2 => (leIte (leRefl _) (leRefl _)))))
theorem strings_Builder_WriteString_i2_up (n : Nat) : ∀ (a0 : Str) (a1 : (List Int)), Le (strings_Builder_WriteString_i2 n a0 a1) (strings_Builder_WriteString_i2 (n + 1) a0 a1) :=
  fun a0 a1 => Eq.mpr (congrArg (fun a => Le a _) (strings_Builder_WriteString_i2.eq_1 n a0 a1)) (Eq.mpr (congrArg (Le _) (strings_Builder_WriteString_i2.eq_1 (n + 1) a0 a1)) (leBind (leRefl _) (fun b2 => (leIte (leRefl _) (leRefl _)))))
theorem hash_rest_l1_ups (n : Nat) : (∀ (p0 : Int) (p1 : Int) (p2 : (List Int)), Le (hash_rest_l1 n p0 p1 p2) (hash_rest_l1 (n + 1) p0 p1 p2)) := by
  induction n with
  | zero => exact (fun p0 p1 p2 => Eq.mpr (congrArg (fun a => Le a _) (hash_rest_l1.eq_1 p0 p1 p2)) (leNone _))
  | succ n ih => exact (fun p0 p1 p2 => Eq.mpr (congrArg (fun a => Le a _) (hash_rest_l1.eq_2 _ _ _ _)) (Eq.mpr (congrArg (Le _) (hash_rest_l1.eq_2 _ _ _ _)) (leIte (leIte (leBind (strings_Builder_WriteByte_up n _ _) (fun b12 => (ih _ _ _))) (leRefl _)) (leRefl _))))
theorem hash_rest_l1_up (n : Nat) : ∀ (p0 : Int) (p1 : Int) (p2 : (List Int)), Le (hash_rest_l1 n p0 p1 p2) (hash_rest_l1 (n + 1) p0 p1 p2) := (hash_rest_l1_ups n)
theorem hash_rest_up (n : Nat) : ∀ (a0 : Str) (a1 : Int), Le (hash_rest n a0 a1) (hash_rest (n + 1) a0 a1) :=
  fun a0 a1 => Eq.mpr (congrArg (fun a => Le a _) (hash_rest.eq_1 n a0 a1)) (Eq.mpr (congrArg (Le _) (hash_rest.eq_1 (n + 1) a0 a1)) (leBind (strings_Builder_WriteString_up n _) (fun b2 => (leBind (strings_Builder_WriteByte_up n _ _) (fun b4 => (leBind (strings_Repeat_up n _ _) (fun b6 => (leBind (strings_Builder_WriteString_i2_up n _ _) (fun b8 => (leBind (hash_rest_l1_up n _ _ _) (fun b14 => (leBind (leRefl _) (fun b16 => (leRefl _))))))))))))))
theorem hash_state_add_l1_ups (n : Nat) : (∀ (p0 : Str) (p1 : Int) (p2 : (List Int)) (p3 : (List Int)) (p4 : (List Int)), Le (hash_state_add_l1 n p0 p1 p2 p3 p4) (hash_state_add_l1 (n + 1) p0 p1 p2 p3 p4)) := by
  induction n with
  | zero => exact (fun p0 p1 p2 p3 p4 => Eq.mpr (congrArg (fun a => Le a _) (hash_state_add_l1.eq_1 p0 p1 p2 p3 p4)) (leNone _))
  | succ n ih => exact (fun p0 p1 p2 p3 p4 => Eq.mpr (congrArg (fun a => Le a _) (hash_state_add_l1.eq_2 _ _ _ _ _ _)) (Eq.mpr (congrArg (Le _) (hash_state_add_l1.eq_2 _ _ _ _ _ _)) (leIte (leIte (leIte (leIte (leIte (leIte (leIte (leIte (ih _ _ _ _ _) (leRefl _)) (leRefl _)) (leRefl _)) (leRefl _)) (leRefl _)) (leRefl _)) (leRefl _)) (leRefl _))))
theorem hash_state_add_l1_up (n : Nat) : ∀ (p0 : Str) (p1 : Int) (p2 : (List Int)) (p3 : (List Int)) (p4 : (List Int)), Le (hash_state_add_l1 n p0 p1 p2 p3 p4) (hash_state_add_l1 (n + 1) p0 p1 p2 p3 p4) := (hash_state_add_l1_ups n)
theorem math_bits_RotateLeft32_up (n : Nat) : ∀ (a0 : Int) (a1 : Int), Le (math_bits_RotateLeft32 n a0 a1) (math_bits_RotateLeft32 (n + 1) a0 a1) :=
  fun a0 a1 => Eq.mpr (congrArg (fun a => Le a _) (math_bits_RotateLeft32.eq_1 n a0 a1)) (Eq.mpr (congrArg (Le _) (math_bits_RotateLeft32.eq_1 (n + 1) a0 a1)) (leIte (leIte (leRefl _) (leRefl _)) (leRefl _)))
theorem hash_right_up (n : Nat) : ∀ (a0 : Int) (a1 : Int), Le (hash_right n a0 a1) (hash_right (n + 1) a0 a1) :=
  fun a0 a1 => Eq.mpr (congrArg (fun a => Le a _) (hash_right.eq_1 n a0 a1)) (Eq.mpr (congrArg (Le _) (hash_right.eq_1 (n + 1) a0 a1)) (leBind (math_bits_RotateLeft32_up n _ _) (fun b2 => (leRefl _))))
theorem hash_state_add_l2_ups (n : Nat) : (∀ (p0 : Int) (p1 : (List Int)) (p2 : (List Int)) (p3 : (List Int)), Le (hash_state_add_l2 n p0 p1 p2 p3) (hash_state_add_l2 (n + 1) p0 p1 p2 p3)) := by
  induction n with
  | zero => exact (fun p0 p1 p2 p3 => Eq.mpr (congrArg (fun a => Le a _) (hash_state_add_l2.eq_1 p0 p1 p2 p3)) (leNone _))
  | succ n ih => exact (fun p0 p1 p2 p3 => Eq.mpr (congrArg (fun a => Le a _) (hash_state_add_l2.eq_2 _ _ _ _ _)) (Eq.mpr (congrArg (Le _) (hash_state_add_l2.eq_2 _ _ _ _ _)) (leIte (leIte (leIte (leIte (leIte (leIte (leIte (leBind (hash_right_up n _ _) (fun b19 => (leBind (hash_right_up n _ _) (fun b21 => (leBind (hash_right_up n _ _) (fun b23 => (leBind (hash_right_up n _ _) (fun b25 => (leIte (leIte (leIte (leIte (leIte (leIte (leIte (leIte (leIte (ih _ _ _ _) (leRefl _)) (leRefl _)) (leRefl _)) (leRefl _)) (leRefl _)) (leRefl _)) (leRefl _)) (leRefl _)) (leRefl _)))))))))) (leRefl _)) (leRefl _)) (leRefl _)) (leRefl _)) (leRefl _)) (leRefl _)) (leRefl _))))
theorem hash_state_add_l2_up (n : Nat) : ∀ (p0 : Int) (p1 : (List Int)) (p2 : (List Int)) (p3 : (List Int)), Le (hash_state_add_l2 n p0 p1 p2 p3) (hash_state_add_l2 (n + 1) p0 p1 p2 p3) := (hash_state_add_l2_ups n)
theorem hash_state_add_l3_ups (n : Nat) : (∀ (p0 : Int) (p1 : (List Int)) (p2 : (List Int)) (p3 : (List Int)) (p4 : (List Int)), Le (hash_state_add_l3 n p0 p1 p2 p3 p4) (hash_state_add_l3 (n + 1) p0 p1 p2 p3 p4)) := by
  induction n with
  | zero => exact (fun p0 p1 p2 p3 p4 => Eq.mpr (congrArg (fun a => Le a _) (hash_state_add_l3.eq_1 p0 p1 p2 p3 p4)) (leNone _))
  | succ n ih => exact (fun p0 p1 p2 p3 p4 => Eq.mpr (congrArg (fun a => Le a _) (hash_state_add_l3.eq_2 _ _ _ _ _ _)) (Eq.mpr (congrArg (Le _) (hash_state_add_l3.eq_2 _ _ _ _ _ _)) (leIte (leIte (leIte (leIte (leIte (leIte (leIte (leIte (leIte (leIte (leBind (hash_right_up n _ _) (fun b50 => (leBind (hash_right_up n _ _) (fun b52 => (leBind (hash_right_up n _ _) (fun b54 => (leIte (leIte (leIte (leIte (leIte (leIte (leIte (leIte (leIte (leIte (leIte (leIte (leBind (hash_right_up n _ _) (fun b68 => (leBind (hash_right_up n _ _) (fun b70 => (leBind (hash_right_up n _ _) (fun b72 => (leIte (leIte (leIte (leIte (leIte (leIte (leIte (leIte (leIte (leIte (leIte (leIte (leIte (leIte (leIte (leIte (leIte (leIte (leIte (leIte (leIte (leIte (leIte (leIte (leIte (leIte (leIte (leIte (leIte (leIte (leIte (leIte (leIte (leIte (ih _ _ _ _ _) (leRefl _)) (leRefl _)) (leRefl _)) (leRefl _)) (leRefl _)) (leRefl _)) (leRefl _)) (leRefl _)) (leRefl _)) (leRefl _)) (leRefl _)) (leRefl _)) (leRefl _)) (leRefl _)) (leRefl _)) (leRefl _)) (leRefl _)) (leRefl _)) (leRefl _)) (leRefl _)) (leRefl _)) (leRefl _)) (leRefl _)) (leRefl _)) (leRefl _)) (leRefl _)) (leRefl _)) (leRefl _)) (leRefl _)) (leRefl _)) (leRefl _)) (leRefl _)) (leRefl _)) (leRefl _)))))))) (leRefl _)) (leRefl _)) (leRefl _)) (leRefl _)) (leRefl _)) (leRefl _)) (leRefl _)) (leRefl _)) (leRefl _)) (leRefl _)) (leRefl _)) (leRefl _)))))))) (leRefl _)) (leRefl _)) (leRefl _)) (leRefl _)) (leRefl _)) (leRefl _)) (leRefl _)) (leRefl _)) (leRefl _)) (leRefl _))))
theorem hash_state_add_l3_up (n : Nat) : ∀ (p0 : Int) (p1 : (List Int)) (p2 : (List Int)) (p3 : (List Int)) (p4 : (List Int)), Le (hash_state_add_l3 n p0 p1 p2 p3 p4) (hash_state_add_l3 (n + 1) p0 p1 p2 p3 p4) := (hash_state_add_l3_ups n)
theorem hash_state_add_l4_ups (n : Nat) : (∀ (p0 : (List Int)) (p1 : Int) (p2 : (List Int)) (p3 : (List Int)), Le (hash_state_add_l4 n p0 p1 p2 p3) (hash_state_add_l4 (n + 1) p0 p1 p2 p3)) := by
  induction n with
  | zero => exact (fun p0 p1 p2 p3 => Eq.mpr (congrArg (fun a => Le a _) (hash_state_add_l4.eq_1 p0 p1 p2 p3)) (leNone _))
  | succ n ih => exact (fun p0 p1 p2 p3 => Eq.mpr (congrArg (fun a => Le a _) (hash_state_add_l4.eq_2 _ _ _ _ _)) (Eq.mpr (congrArg (Le _) (hash_state_add_l4.eq_2 _ _ _ _ _)) (leIte (leIte (leIte (leIte (leIte (leIte (leIte (leIte (leIte (ih _ _ _ _) (leRefl _)) (leRefl _)) (leRefl _)) (leRefl _)) (leRefl _)) (leRefl _)) (leRefl _)) (leRefl _)) (leRefl _))))
theorem hash_state_add_l4_up (n : Nat) : ∀ (p0 : (List Int)) (p1 : Int) (p2 : (List Int)) (p3 : (List Int)), Le (hash_state_add_l4 n p0 p1 p2 p3) (hash_state_add_l4 (n + 1) p0 p1 p2 p3) := (hash_state_add_l4_ups n)
theorem hash_state_add_up (n : Nat) : ∀ (a0 : Str) (a1 : (List Int)) (a2 : (List Int)), Le (hash_state_add n a0 a1 a2) (hash_state_add (n + 1) a0 a1 a2) :=
  fun a0 a1 a2 => Eq.mpr (congrArg (fun a => Le a _) (hash_state_add.eq_1 n a0 a1 a2)) (Eq.mpr (congrArg (Le _) (hash_state_add.eq_1 (n + 1) a0 a1 a2)) (leBind (hash_state_add_l1_up n _ _ _ _ _) (fun b10 => (leBind (hash_state_add_l2_up n _ _ _ _) (fun b36 => (leIte (leIte (leBind (hash_state_add_l3_up n _ _ _ _ _) (fun b108 => (leIte (leBind (hash_state_add_l4_up n _ _ _ _) (fun b120 => (leRefl _))) (leRefl _)))) (leRefl _)) (leRefl _)))))))
theorem hash_Sum_l2_ups (n : Nat) : (∀ (p0 : Str) (p1 : (List Str)) (p2 : Int) (p3 : (List Int)) (p4 : (List Int)), Le (hash_Sum_l2 n p0 p1 p2 p3 p4) (hash_Sum_l2 (n + 1) p0 p1 p2 p3 p4)) := by
  induction n with
  | zero => exact (fun p0 p1 p2 p3 p4 => Eq.mpr (congrArg (fun a => Le a _) (hash_Sum_l2.eq_1 p0 p1 p2 p3 p4)) (leNone _))
  | succ n ih => exact (fun p0 p1 p2 p3 p4 => Eq.mpr (congrArg (fun a => Le a _) (hash_Sum_l2.eq_2 _ _ _ _ _ _)) (Eq.mpr (congrArg (Le _) (hash_Sum_l2.eq_2 _ _ _ _ _ _)) (leIte (leBind (hash_state_add_up n _ _ _) (fun b13 => (leIte (ih _ _ _ _ _) (leRefl _)))) (leRefl _))))
theorem hash_Sum_l2_up (n : Nat) : ∀ (p0 : Str) (p1 : (List Str)) (p2 : Int) (p3 : (List Int)) (p4 : (List Int)), Le (hash_Sum_l2 n p0 p1 p2 p3 p4) (hash_Sum_l2 (n + 1) p0 p1 p2 p3 p4) := (hash_Sum_l2_ups n)
theorem hash_Sum_l1_ups (n : Nat) : (∀ (p0 : (List Str)) (p1 : Int) (p2 : (List Int)) (p3 : (List Int)), Le (hash_Sum_l1 n p0 p1 p2 p3) (hash_Sum_l1 (n + 1) p0 p1 p2 p3)) := by
  induction n with
  | zero => exact (fun p0 p1 p2 p3 => Eq.mpr (congrArg (fun a => Le a _) (hash_Sum_l1.eq_1 p0 p1 p2 p3)) (leNone _))
  | succ n ih => exact (fun p0 p1 p2 p3 => Eq.mpr (congrArg (fun a => Le a _) (hash_Sum_l1.eq_2 _ _ _ _ _)) (Eq.mpr (congrArg (Le _) (hash_Sum_l1.eq_2 _ _ _ _ _)) (leIte (leIte (leBind (hash_Sum_l2_up n _ _ _ _ _) (fun b16 => (ih _ _ _ _))) (leRefl _)) (leRefl _))))
theorem hash_Sum_l1_up (n : Nat) : ∀ (p0 : (List Str)) (p1 : Int) (p2 : (List Int)) (p3 : (List Int)), Le (hash_Sum_l1 n p0 p1 p2 p3) (hash_Sum_l1 (n + 1) p0 p1 p2 p3) := (hash_Sum_l1_ups n)
theorem hash_Sum_l3_ups (n : Nat) : (∀ (p0 : (List Int)) (p1 : Int) (p2 : (List Int)), Le (hash_Sum_l3 n p0 p1 p2) (hash_Sum_l3 (n + 1) p0 p1 p2)) := by
  induction n with
  | zero => exact (fun p0 p1 p2 => Eq.mpr (congrArg (fun a => Le a _) (hash_Sum_l3.eq_1 p0 p1 p2)) (leNone _))
  | succ n ih => exact (fun p0 p1 p2 => Eq.mpr (congrArg (fun a => Le a _) (hash_Sum_l3.eq_2 _ _ _ _)) (Eq.mpr (congrArg (Le _) (hash_Sum_l3.eq_2 _ _ _ _)) (leIte (leIte (leIte (leIte (leIte (leIte (leIte (leIte (leIte (leIte (leIte (leIte (leIte (leIte (leIte (ih _ _ _) (leRefl _)) (leRefl _)) (leRefl _)) (leRefl _)) (leRefl _)) (leRefl _)) (leRefl _)) (leRefl _)) (leRefl _)) (leRefl _)) (leRefl _)) (leRefl _)) (leRefl _)) (leRefl _)) (leRefl _))))
theorem hash_Sum_l3_up (n : Nat) : ∀ (p0 : (List Int)) (p1 : Int) (p2 : (List Int)), Le (hash_Sum_l3 n p0 p1 p2) (hash_Sum_l3 (n + 1) p0 p1 p2) := (hash_Sum_l3_ups n)
theorem hash_Sum_up (n : Nat) : ∀ (a0 : Str), Le (hash_Sum n a0) (hash_Sum (n + 1) a0) :=
  fun a0 => Eq.mpr (congrArg (fun a => Le a _) (hash_Sum.eq_1 n a0)) (Eq.mpr (congrArg (Le _) (hash_Sum.eq_1 (n + 1) a0)) (leBind (hash_begin_up n) (fun b2 => (leBind (hash_constants_up n) (fun b4 => (leIte (leIte (leBind (hash_rest_up n _ _) (fun b8 => (leBind (hash_Sum_l1_up n _ _ _ _) (fun b18 => (leIte (leBind (hash_Sum_l3_up n _ _ _) (fun b36 => (leIte (leRefl _) (leRefl _)))) (leRefl _)))))) (leRefl _)) (leRefl _)))))))
theorem base64_Encode_l1_ups (n : Nat) : (∀ (p0 : Str) (p1 : (List Int)), Le (base64_Encode_l1 n p0 p1) (base64_Encode_l1 (n + 1) p0 p1)) := by
  induction n with
  | zero => exact (fun p0 p1 => Eq.mpr (congrArg (fun a => Le a _) (base64_Encode_l1.eq_1 p0 p1)) (leNone _))
  | succ n ih => exact (fun p0 p1 => Eq.mpr (congrArg (fun a => Le a _) (base64_Encode_l1.eq_2 _ _ _)) (Eq.mpr (congrArg (Le _) (base64_Encode_l1.eq_2 _ _ _)) (leIte (leIte (leIte (leIte (leIte (leIte (leIte (leIte (leIte (leIte (ih _ _) (leRefl _)) (leRefl _)) (leRefl _)) (leRefl _)) (leRefl _)) (leRefl _)) (leRefl _)) (leRefl _)) (leRefl _)) (leRefl _))))
theorem base64_Encode_l1_up (n : Nat) : ∀ (p0 : Str) (p1 : (List Int)), Le (base64_Encode_l1 n p0 p1) (base64_Encode_l1 (n + 1) p0 p1) := (base64_Encode_l1_ups n)
theorem base64_Encode_up (n : Nat) : ∀ (a0 : Str), Le (base64_Encode n a0) (base64_Encode (n + 1) a0) :=
  fun a0 => Eq.mpr (congrArg (fun a => Le a _) (base64_Encode.eq_1 n a0)) (Eq.mpr (congrArg (Le _) (base64_Encode.eq_1 (n + 1) a0)) (leIte (leRefl _) (leIte (leRefl _) (leIte (leBind (base64_Encode_l1_up n _ _) (fun b15 => (leRefl _))) (leRefl _)))))
theorem primitive_Encode_up (n : Nat) : ∀ (a0 : T_api_Primitive), Le (primitive_Encode n a0) (primitive_Encode (n + 1) a0) :=
  fun a0 => Eq.mpr (congrArg (fun a => Le a _) (primitive_Encode.eq_1 n a0)) (Eq.mpr (congrArg (Le _) (primitive_Encode.eq_1 (n + 1) a0)) (leBind (primitive_forms_up n) (fun b2 => (leIte (leRefl _) (leIte (leRefl _) (leBind (primitive_form_lead_up n _) (fun b6 => (leBind (strings_Repeat_up n _ _) (fun b8 => (leIte (leBind (base64_Encode_up n _) (fun b11 => (leBind (primitive_form_lead_up n _) (fun b13 => (leIte (leIte (leRefl _) (leRefl _)) (leRefl _)))))) (leRefl _)))))))))))
theorem primitive_Make_up (n : Nat) : ∀ (a0 : Int) (a1 : Str), Le (primitive_Make n a0 a1) (primitive_Make (n + 1) a0 a1) :=
  fun a0 a1 => Eq.mpr (congrArg (fun a => Le a _) (primitive_Make.eq_1 n a0 a1)) (Eq.mpr (congrArg (Le _) (primitive_Make.eq_1 (n + 1) a0 a1)) (leBind (primitive_Encode_up n _) (fun b2 => (leRefl _))))
theorem said_Digest_up (n : Nat) : ∀ (a0 : Str), Le (said_Digest n a0) (said_Digest (n + 1) a0) :=
  fun a0 => Eq.mpr (congrArg (fun a => Le a _) (said_Digest.eq_1 n a0)) (Eq.mpr (congrArg (Le _) (said_Digest.eq_1 (n + 1) a0)) (leBind (hash_Sum_up n _) (fun b2 => (leBind (primitive_Make_up n _ _) (fun b4 => (leRefl _))))))
theorem said_Put_j1_up (n : Nat) : ∀ (p0 : (List Str)) (p1 : Str) (p2 : Int) (p3 : T_api_Node), Le (said_Put_j1 n p0 p1 p2 p3) (said_Put_j1 (n + 1) p0 p1 p2 p3) :=
  fun p0 p1 p2 p3 => Eq.mpr (congrArg (fun a => Le a _) (said_Put_j1.eq_1 n p0 p1 p2 p3)) (Eq.mpr (congrArg (Le _) (said_Put_j1.eq_1 (n + 1) p0 p1 p2 p3)) (leBind (version_Fit_up n _ _ _) (fun b11 => (leIte (leRefl _) (leBind (said_Digest_up n _) (fun b14 => (leBind (said_all_up n _ _ _) (fun b16 => (leBind (leRefl _) (fun b18 => (leIte (leRefl _) (leRefl _))))))))))))
theorem said_Put_up (n : Nat) : ∀ (a0 : T_api_Node) (a1 : (List Str)) (a2 : Str) (a3 : Int), Le (said_Put n a0 a1 a2 a3) (said_Put (n + 1) a0 a1 a2 a3) :=
  fun a0 a1 a2 a3 => Eq.mpr (congrArg (fun a => Le a _) (said_Put.eq_1 n a0 a1 a2 a3)) (Eq.mpr (congrArg (Le _) (said_Put.eq_1 (n + 1) a0 a1 a2 a3)) (leIte (leRefl _) (leBind (slices_Contains__string_string_up n _ _) (fun b3 => (leIte (leRefl _) (leIte (leBind (said_Dummy_up n) (fun b7 => (leBind (said_all_up n _ _ _) (fun b9 => (said_Put_j1_up n _ _ _ _))))) (said_Put_j1_up n _ _ _ _)))))))
theorem node_Get_up (n : Nat) : ∀ (a0 : T_api_Node) (a1 : Str), Le (node_Get n a0 a1) (node_Get (n + 1) a0 a1) :=
  fun a0 a1 => Eq.mpr (congrArg (fun a => Le a _) (node_Get.eq_1 n a0 a1)) (Eq.mpr (congrArg (Le _) (node_Get.eq_1 (n + 1) a0 a1)) (leBind (node_place_up n _ _) (fun b2 => (leIte (leRefl _) (leIte (leBind (node_Own_up n _) (fun b6 => (leRefl _))) (leRefl _))))))
theorem schema_Make_up (n : Nat) : ∀ (a0 : Str) (a1 : (List T_api_Field)), Le (schema_Make n a0 a1) (schema_Make (n + 1) a0 a1) :=
  fun a0 a1 => Eq.mpr (congrArg (fun a => Le a _) (schema_Make.eq_1 n a0 a1)) (Eq.mpr (congrArg (Le _) (schema_Make.eq_1 (n + 1) a0 a1)) (leBind (schema_right_up n _ _) (fun b2 => (leIte (leRefl _) (leBind (schema_Make_l1_up n _ _ _ _ _ _) (fun b20 => (leBind (node_Text_up n _) (fun b26 => (leBind (node_Text_up n _) (fun b28 => (leBind (node_List_up n _) (fun b30 => (leBind (node_Map_up n _ _) (fun b32 => (leBind (said_Put_up n _ _ _ _) (fun b34 => (leIte (leRefl _) (leBind (node_Get_up n _ _) (fun b37 => (leBind (leRefl _) (fun b39 => (leRefl _))))))))))))))))))))))
theorem law32_awake_up (n : Nat) : Le (law32_awake n) (law32_awake (n + 1)) :=
  Eq.mpr (congrArg (fun a => Le a _) (law32_awake.eq_1 n)) (Eq.mpr (congrArg (Le _) (law32_awake.eq_1 (n + 1))) (leBind (schema_Make_up n _ _) (fun b2 => (leBind (ref05_Number_up n _) (fun b4 => (leBind (schema_Fits_up n _ _) (fun b6 => (leIte (leBind (ref05_Text_up n _) (fun b9 => (leBind (schema_Fits_up n _ _) (fun b11 => (leIte (leBind (schema_Name_up n _) (fun b14 => (leIte (leBind (schema_Name_up n _) (fun b17 => (leRefl _))) (leRefl _)))) (leRefl _)))))) (leRefl _)))))))))
theorem law32_SchemaBounds_up (n : Nat) : ∀ (a0 : Int) (a1 : Int) (a2 : Int), Le (law32_SchemaBounds n a0 a1 a2) (law32_SchemaBounds (n + 1) a0 a1 a2) :=
  fun a0 a1 a2 => Eq.mpr (congrArg (fun a => Le a _) (law32_SchemaBounds.eq_1 n a0 a1 a2)) (Eq.mpr (congrArg (Le _) (law32_SchemaBounds.eq_1 (n + 1) a0 a1 a2)) (leIte (leBind (law32_SchemaBounds_l1_up n _ _ _ _ _ _ _ _) (fun b6 => (leBind (ref05_Number_up n _) (fun b8 => (leBind (schema_Fits_up n _ _) (fun b10 => (leIte (leRefl _) (leBind (ref05_Text_up n _) (fun b13 => (leBind (schema_Fits_up n _ _) (fun b15 => (leIte (leRefl _) (leBind (ref05_Text_up n _) (fun b18 => (leBind (schema_Fits_up n _ _) (fun b20 => (leIte (leBind (ref05_Number_up n _) (fun b23 => (leBind (schema_Fits_up n _ _) (fun b25 => (leIte (leBind (play_Digest_up n _) (fun b28 => (leBind (ref05_Text_up n _) (fun b30 => (leBind (schema_Fits_up n _ _) (fun b32 => (leIte (leBind (ref05_Text_up n _) (fun b35 => (leBind (schema_Fits_up n _ _) (fun b37 => (leIte (leBind (law32_awake_up n) (fun b40 => (leRefl _))) (leRefl _)))))) (leRefl _)))))))) (leRefl _)))))) (leRefl _)))))))))))))))))) (leRefl _)))
theorem strings_HasPrefix_up (n : Nat) : ∀ (a0 : Str) (a1 : Str), Le (strings_HasPrefix n a0 a1) (strings_HasPrefix (n + 1) a0 a1) :=
  fun a0 a1 => Eq.mpr (congrArg (fun a => Le a _) (strings_HasPrefix.eq_1 n a0 a1)) (Eq.mpr (congrArg (Le _) (strings_HasPrefix.eq_1 (n + 1) a0 a1)) (leBind (internal_stringslite_HasPrefix_up n _ _) (fun b2 => (leRefl _))))
end
end Go.Proofs.YtifmnhcmmoacfaaGreatDoorQ
