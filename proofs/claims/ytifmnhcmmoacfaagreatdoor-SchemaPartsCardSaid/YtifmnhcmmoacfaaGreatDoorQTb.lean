/- A part of the proof. -/
import Derived.Test.YtifmnhcmmoacfaaGreatDoorQTa
import Derived.Lib.Repeat
import Derived.Lib.ItoaNum
set_option linter.unusedVariables false
set_option maxRecDepth 100000
set_option maxHeartbeats 1000000
namespace Go.Proofs.YtifmnhcmmoacfaaGreatDoorQ
open Go Go.PE
noncomputable section
def z4x (a0 : (List Str)) : Option (List Str) := if fits (a0.length * 16) then some a0 else none
def z3i (a0 : (List z00)) : Option (List z00) := if fits (a0.length * 88) then some a0 else none
def strings_Repeat (a0 : Str) (a1 : Int) : Option Str := if 0 ≤ a1 ∧ a0.length * a1.toNat ≤ 140737488355328 ∧ a1 ≤ 9223372036854775807 then some (Lib.repeatL a0 a1.toNat) else none
def z6w (a0 : Int) : Option Int := if a0 = 16 then some 4 else none
def z7o (_ : Int) (_ : Int) (_ : (List Str)) : Option (List Str) := none
def z5E (_ : Int) (_ : Int) (_ : (List z00)) : Option (List z00) := none
def z3Y (a0 : Int) (a1 : (List Str)) (a2 : (List Str)) : Option (List Str) := if a0 = 0 ∧ a1.length = 1 ∧ 1 ≤ a2.length ∧ a2.length ≤ 1000000000 then some (a1 ++ a2) else none
def z3e (a0 : Int) (a1 : (List z00)) (a2 : (List z00)) : Option (List z00) := if a0 = 0 ∧ a1.length = 1 ∧ 1 ≤ a2.length ∧ a2.length ≤ 1000000000 then some (a1 ++ a2) else none
def z0Y (a0 : Int) (a1 : Int) (a2 : (List Int)) : Option (List Int) := if a1 = 10 ∧ 0 ≤ a0 ∧ a0 < 18446744073709551616 ∧ a2.length + 20 ≤ 140737488355328 then some (a2 ++ bytesOf (Lib.decDigits a0.toNat)) else none
def z3y (_ : Int) (_ : Int) : Option (List Int) := none
def zop (a0 : Str) (a1 : Int) : Option Str := if a0.length ≤ 1000000000 then some (zbt a0 a1) else none
def z2S (a0 : (List z03)) : Option (List z03) := if fits (a0.length * 48) then some a0 else none
def z1s : List (Int × z02) := [(1,⟨([69] : Str),32⟩),(2,⟨([68] : Str),32⟩),(3,⟨([66] : Str),32⟩),(4,⟨([65] : Str),32⟩),(5,⟨([48,65] : Str),16⟩),(6,⟨([77] : Str),2⟩),(7,⟨([83] : Str),626⟩),(8,⟨([49,65,65,76] : Str),6⟩)]
def z1S (a0 : Str) : Option (Int × z02 × Bool) :=
  match z1s.find? (fun p => p.2.z3q.isPrefixOf a0) with
  | some p => some (p.1,p.2,true)
  | none => some (0,⟨([] : Str),0⟩,false)
def internal_strconv_Itoa (a0 : Int) : Option Str := if -9223372036854775808 ≤ a0 ∧ a0 ≤ 9223372036854775807 then some (Lib.itoa a0) else none
def zm9 (_ : z00) : Option (Str × Int) := none
def zmq (_ : z00) : Option (Str × Int) := none
def zoI (n : Nat) (a0 : Int) (a1 : Int) : Option Int :=
  if (decide (a1 < 1)) then some 0
  else
   if nz a1 then
   if nz a1 then some (Int.tmod (z0a ((Int.tmod a0 a1) + a1)) a1)
   else none
   else none
def z2q (n : Nat) (a0 : Int) (a1 : (List Int)) (a2 : Int) : Option (Int × Int) :=
  if (decide (a2 ≥ (a1.length : Int))) then some (0,a2)
  else
   if within (z0a ((z0a (a2 + 1)) - 1)) a1.length then
   zoI n (rd 0 a1 (z0a ((z0a (a2 + 1)) - 1))) a0 >>= fun b4 => some (b4,(z0a (a2 + 1)))
   else none
def z1F : Nat → Int → (List z04) → Int → Int → (List Int) → Int → Str → Str → (List z03) → Option (Int × (List z04) × Str × Str × (List z03))
  | 0,_,_,_,_,_,_,_,_,_ => none
  | n + 1,p0,p1,p2,p3,p4,p5,p6,p7,p8 =>
  if (decide (p3 < p2)) then
   z2q n 2 p4 p5 >>= fun b14 =>
   if within p3 p8.length then
   if within p3 p8.length then z1F n p0 p1 p2 (z0a (p3 + 1)) p4 b14.2 p6 p7 (p8.set (p3).toNat (⟨(rd z03.dft p8 p3).z0l,(rd z03.dft p8 p3).z08,(b14.1 == 0),(rd z03.dft p8 p3).z0G,(rd z03.dft p8 p3).z15⟩ : z03))
   else none
   else none
  else some (p0,p1,p6,p7,p8)
def z19 : Nat → Int → Bool → (List z04) → Int → Int → z0k → (List z04) → Option (Bool × z0k × (List z04))
  | 0,_,_,_,_,_,_,_ => none
  | n + 1,p0,p1,p2,p3,p4,p5,p6 =>
  if (decide (p4 < p3)) then
   if within p4 p2.length then
   if nn p4 then
   if ((iand .u8 (shr .u8 p0 p4) 1) == 1) then
    if fits ((p6.length + 1) * 120) then z19 n p0 p1 p2 p3 (z0a (p4 + 1)) p5 (p6 ++ [(rd z04.dft p2 p4)])
    else none
   else
    if p1 then z19 n p0 true p2 p3 (z0a (p4 + 1)) p5 p6
    else
     if within p4 p5.z0C.length then z19 n p0 ((rd z03.dft p5.z0C p4).z0p) p2 p3 (z0a (p4 + 1)) p5 p6
     else none
   else none
   else none
  else some (p1,p5,p6)
def zgm (n : Nat) (a0 : (List Int)) : Option Bool :=some (decide ((a0.length : Int) ≤ 500))
def z2I : Nat → (List z03) → Int → Int → (List (Str × z0h)) → Option (List (Str × z0h))
  | 0,_,_,_,_ => none
  | n + 1,p0,p1,p2,p3 =>
  if (decide (p2 < p1)) then
   if within p2 p0.length then
   if (!(alk (fun y => (rd z03.dft p0 p2).z0l == y) p3).isSome) then z2I n p0 p1 (z0a (p2 + 1)) (ast (fun y => (rd z03.dft p0 p2).z0l == y) ((rd z03.dft p0 p2).z0l) (⟨⟨(rd z03.dft p0 p2).z0l,(rd z03.dft p0 p2).z08,(rd z03.dft p0 p2).z0p,(rd z03.dft p0 p2).z0G,(rd z03.dft p0 p2).z15⟩,p2⟩ : z0h) p3)
   else z2I n p0 p1 (z0a (p2 + 1)) p3
   else none
  else some p3
def z7I (n : Nat) (a0 : (List z03)) : Option (List (Str × z0h)) :=
  z2I n a0 (a0.length : Int) 0 ([] : List (Str × z0h)) >>= fun b5 => some b5
mutual
def z5v : Nat → Str → Int → Int → Option (Sum Unit Unit)
  | 0,_,_,_ => none
  | n + 1,p0,p1,p2 =>
  if (decide (p2 < p1)) then
   if within p2 p0.length then
   if (decide ((bt p0 p2) ≥ 97)) then
    if within p2 p0.length then z8t n p0 p2 (decide ((bt p0 p2) ≤ 122)) p1 p2
    else none
   else z8t n p0 p2 false p1 p2
   else none
  else some (.inr ())
def z8t : Nat → Str → Int → Bool → Int → Int → Option (Sum Unit Unit)
  | 0,_,_,_,_,_ => none
  | n + 1,p0,p1,p2,p3,p4 =>
  if (!p2) then
   if (p1 == 0) then some (.inl ())
   else
    if within p1 p0.length then
    if ((bt p0 p1) != 95) then
     if within p1 p0.length then
     if (decide ((bt p0 p1) < 48)) then some (.inl ())
     else
      if within p1 p0.length then
      if (decide ((bt p0 p1) > 57)) then some (.inl ())
      else z5v n p0 p3 (z0a (p4 + 1))
      else none
     else none
    else z5v n p0 p3 (z0a (p4 + 1))
    else none
  else z5v n p0 p3 (z0a (p4 + 1))
end
def z7F (n : Nat) (a0 : Str) : Option Bool :=
  if (((a0.length : Int) == 0) || (decide ((a0.length : Int) > 32))) then some false
  else
   z5v n a0 (a0.length : Int) 0 >>= fun b14 =>
   match b14 with
   | .inl b15 => some false
   | .inr b16 => some true
def z6X (n : Nat) (a0 : z03) : Option Bool :=
  if (a0.z08 == 1) then some (((decide (a0.z0G ≥ 0)) && (decide (a0.z0G ≤ a0.z15))) && (decide (a0.z15 ≤ 65536)))
  else
   if (a0.z08 == 2) then some (((decide (a0.z0G ≥ (-1099511627776))) && (decide (a0.z0G ≤ a0.z15))) && (decide (a0.z15 ≤ 1099511627776)))
   else
    if (a0.z08 == 3) then some ((a0.z0G == 0) && (a0.z15 == 0))
    else
     if (a0.z08 == 4) then some ((a0.z0G == 0) && (a0.z15 == 0))
     else some false
def z6Y (n : Nat) (a0 : z03) : Option Bool :=
  z7F n a0.z0l >>= fun b2 =>
  if (!b2) then some true
  else
   z6X n a0 >>= fun b5 => some (!b5)
def z0t : Nat → (List z03) → Int → Int → Option (Sum Int Unit)
  | 0,_,_,_ => none
  | n + 1,p0,p1,p2 =>
  if (decide (p2 < p1)) then
   if within p2 p0.length then
   z6Y n (rd z03.dft p0 p2) >>= fun b4 =>
   if b4 then some (.inl p2)
   else z0t n p0 p1 (z0a (p2 + 1))
   else none
  else some (.inr ())
def z0S (n : Nat) (a0 : (List z03)) : Option Int :=
  z0t n a0 (a0.length : Int) 0 >>= fun b6 =>
  match b6 with
  | .inl b7 => some b7
  | .inr b8 => some (-1)
def z0N (n : Nat) (a0 : (List z03)) : Option Bool :=
  z0S n a0 >>= fun b2 => some (decide (b2 ≥ 0))
def z96 (n : Nat) (a0 : Str) (a1 : (List z03)) : Option Bool :=
  z7I n a1 >>= fun b2 =>
  z7F n a0 >>= fun b4 =>
  if (((!b4) || (decide ((a1.length : Int) > 32))) || ((b2.length : Int) != (a1.length : Int))) then some false
  else
   z0N n a1 >>= fun b7 => some (!b7)
def z4v (n : Nat) (a0 : Str) : Option z00 :=some (⟨3,false,0,a0,[],[]⟩ : z00)
def z6H (n : Nat) (a0 : Int) : Option z00 :=some (⟨2,false,a0,[],[],[]⟩ : z00)
def zc8 (n : Nat) (a0 : Bool) : Option z00 :=some (⟨1,a0,0,[],[],[]⟩ : z00)
mutual
def z7K : Nat → Int → Int → Int → Bool → Int → Str → (List z00) → (List Str) → Option (Int × Bool × Int × Str × (List Str) × (List z00))
  | 0,_,_,_,_,_,_,_,_ => none
  | n + 1,p0,p1,p2,p3,p4,p5,p6,p7 =>
  if (decide (p1 < p0)) then
   if within p1 p6.length then
   if within p1 p6.length then
   z5G n (rd z00.dft p6 p1) >>= fun b9 =>
   if within p1 p6.length then
   if within p1 p6.length then z7K n p0 (z0a (p1 + 1)) p2 p3 p4 p5 (p6.set (p1).toNat b9) p7
   else none
   else none
   else none
   else none
  else some (p2,p3,p4,p5,p7,p6)
def z5G : Nat → z00 → Option z00
  | 0,_ => none
  | n + 1,a0 =>
  z4x a0.z07 >>= fun b2 =>
  z3i a0.z05 >>= fun b4 =>
  z7K n (b4.length : Int) 0 a0.z08 a0.z0c a0.z06 a0.z0b b4 b2 >>= fun b13 => some (⟨b13.1,b13.2.1,b13.2.2.1,b13.2.2.2.1,b13.2.2.2.2.1,b13.2.2.2.2.2⟩ : z00)
end
def zfe (n : Nat) (a0 : (List Str)) (a1 : (List z00)) : Option z00 :=
  z5G n (⟨5,false,0,[],a0,a1⟩ : z00) >>= fun b2 => some b2
def z4q : Nat → Str → (List z03) → (List z03) → Int → Int → (List z00) → Option (Str × (List z03) × (List z00))
  | 0,_,_,_,_,_,_ => none
  | n + 1,p0,p1,p2,p3,p4,p5 =>
  if (decide (p4 < p3)) then
   if within p4 p2.length then
   z4v n ((rd z03.dft p2 p4).z0l) >>= fun b7 =>
   z6H n ((rd z03.dft p2 p4).z08) >>= fun b9 =>
   zc8 n ((rd z03.dft p2 p4).z0p) >>= fun b11 =>
   z6H n ((rd z03.dft p2 p4).z0G) >>= fun b13 =>
   z6H n ((rd z03.dft p2 p4).z15) >>= fun b15 =>
   zfe n ([([110,97,109,101] : Str),([107,105,110,100] : Str),([114,101,113,117,105,114,101,100] : Str),([108,101,97,115,116] : Str),([109,111,115,116] : Str)]) [b7,b9,b11,b13,b15] >>= fun b17 =>
   if fits ((p5.length + 1) * 88) then z4q n p0 p1 p2 p3 (z0a (p4 + 1)) (p5 ++ [b17])
   else none
   else none
  else some (p0,p1,p5)
def zep (n : Nat) (a0 : (List z00)) : Option z00 :=
  z5G n (⟨4,false,0,[],[],a0⟩ : z00) >>= fun b2 => some b2
def z0u : Nat → (List Str) → Str → Int → Int → Option (Sum Int Unit)
  | 0,_,_,_,_ => none
  | n + 1,p0,p1,p2,p3 =>
  if (decide (p3 < p2)) then
   if within p3 p0.length then
   if (p1 == (rd [] p0 p3)) then some (.inl p3)
   else z0u n p0 p1 p2 (z0a (p3 + 1))
   else none
  else some (.inr ())
def z0I (n : Nat) (a0 : (List Str)) (a1 : Str) : Option Int :=
  z0u n a0 a1 (a0.length : Int) 0 >>= fun b4 =>
  match b4 with
  | .inl b5 => some b5
  | .inr b6 => some (-1)
def z1p (n : Nat) (a0 : (List Str)) (a1 : Str) : Option Bool :=
  z0I n a0 a1 >>= fun b2 => some (decide (b2 ≥ 0))
def z4C (n : Nat) : Option Unit :=some ()
def z0L (n : Nat) (a0 : z02) : Option Int :=some (Int.tmod (z0a (3 - (Int.tmod a0.zcT 3))) 3)
def z2r (n : Nat) (a0 : z02) : Option Int :=
  z0L n a0 >>= fun b2 =>
  z0L n a0 >>= fun b4 => some (z0a ((z0a ((a0.z3q.length : Int) + (z0a ((z0a (Int.tdiv (z0a (a0.zcT + b2)) 3)) * 4)))) - b4))
def zat (n : Nat) (a0 : Int) : Option Int :=
  z4C n >>= fun b2 =>
  if (!(alk (fun y => a0 == y) (ast (fun y => 8 == y) 8 (⟨([49,65,65,76] : Str),6⟩ : z02) (ast (fun y => 7 == y) 7 (⟨([83] : Str),626⟩ : z02) (ast (fun y => 6 == y) 6 (⟨([77] : Str),2⟩ : z02) (ast (fun y => 5 == y) 5 (⟨([48,65] : Str),16⟩ : z02) (ast (fun y => 4 == y) 4 (⟨([65] : Str),32⟩ : z02) (ast (fun y => 3 == y) 3 (⟨([66] : Str),32⟩ : z02) (ast (fun y => 2 == y) 2 (⟨([68] : Str),32⟩ : z02) (ast (fun y => 1 == y) 1 (⟨([69] : Str),32⟩ : z02) ([] : List (Int × z02))))))))))).isSome) then some 0
  else
   z2r n ((alk (fun y => a0 == y) (ast (fun y => 8 == y) 8 (⟨([49,65,65,76] : Str),6⟩ : z02) (ast (fun y => 7 == y) 7 (⟨([83] : Str),626⟩ : z02) (ast (fun y => 6 == y) 6 (⟨([77] : Str),2⟩ : z02) (ast (fun y => 5 == y) 5 (⟨([48,65] : Str),16⟩ : z02) (ast (fun y => 4 == y) 4 (⟨([65] : Str),32⟩ : z02) (ast (fun y => 3 == y) 3 (⟨([66] : Str),32⟩ : z02) (ast (fun y => 2 == y) 2 (⟨([68] : Str),32⟩ : z02) (ast (fun y => 1 == y) 1 (⟨([69] : Str),32⟩ : z02) ([] : List (Int × z02))))))))))).getD z02.dft) >>= fun b5 => some b5
def zdS (n : Nat) : Option Str :=
  zat n 1 >>= fun b2 =>
  strings_Repeat ([35] : Str) b2 >>= fun b4 => some b4
def za0 (n : Nat) (a0 : z00) (a1 : Str) : Option Int :=
  if (a0.z08 != 5) then some (-1)
  else
   if cLo (if (a0.z05.length : Int) < (a0.z07.length : Int) then (a0.z05.length : Int) else (a0.z07.length : Int)) a0.z07.length then
   z0I n (a0.z07.take (if (a0.z05.length : Int) < (a0.z07.length : Int) then (a0.z05.length : Int) else (a0.z07.length : Int)).toNat) a1 >>= fun b4 => some b4
   else none
def z88 (n : Nat) (a0 : z00) (a1 : Str) (a2 : z00) : Option z00 :=
  z5G n a0 >>= fun b2 =>
  za0 n a0 a1 >>= fun b4 =>
  if (decide (b4 ≥ 0)) then
   z5G n a2 >>= fun b7 =>
   if within b4 b2.z05.length then
   if within b4 b2.z05.length then some (⟨b2.z08,b2.z0c,b2.z06,b2.z0b,b2.z07,(b2.z05.set (b4).toNat b7)⟩ : z00)
   else none
   else none
  else
   if fits ((b2.z07.length + 1) * 16) then
   z5G n a2 >>= fun b12 =>
   if fits ((b2.z05.length + 1) * 88) then some (⟨b2.z08,b2.z0c,b2.z06,b2.z0b,(b2.z07 ++ [a1]),(b2.z05 ++ [b12])⟩ : z00)
   else none
   else none
def z6z : Nat → Str → (List Str) → Int → Int → z00 → Option z00
  | 0,_,_,_,_,_ => none
  | n + 1,p0,p1,p2,p3,p4 =>
  if (decide (p3 < p2)) then
   if within p3 p1.length then
   z4v n p0 >>= fun b4 =>
   z88 n p4 (rd [] p1 p3) b4 >>= fun b6 => z6z n p0 p1 p2 (z0a (p3 + 1)) b6
   else none
  else some p4
def zf7 (n : Nat) (a0 : z00) (a1 : (List Str)) (a2 : Str) : Option z00 :=
  z6z n a2 a1 (a1.length : Int) 0 a0 >>= fun b8 => some b8
def z7X (n : Nat) : Option Unit :=some ()
def z4A : Nat → Str → Str → Nat → Option (Sum Unit Str)
  | 0,_,_,_ => none
  | n + 1,p0,p1,p2 =>
  if p2 < p1.length then
   if ((decide (((sdec p1 p2).1 : Int) < 65)) || (decide (((sdec p1 p2).1 : Int) > 90))) then some (.inl ())
   else z4A n p0 p1 (p2 + (sdec p1 p2).2)
  else some (.inr p0)
def z6N (n : Nat) (a0 : Str) : Option Bool :=
  z4A n a0 a0 0 >>= fun b3 =>
  match b3 with
  | .inl b4 => some false
  | .inr b5 => some ((b5.length : Int) == 4)
def z9A (n : Nat) (a0 : z0g) : Option Bool :=
  z7X n >>= fun b2 =>
  if (alk (fun y => a0.z3G == y) (ast (fun y => 3 == y) 3 ([77,71,80,75] : Str) (ast (fun y => 2 == y) 2 ([67,66,79,82] : Str) (ast (fun y => 1 == y) 1 ([74,83,79,78] : Str) ([] : List (Int × Str)))))).isSome then
   z6N n a0.z0z >>= fun b5 => some ((((((b5 && (decide (a0.z2s ≥ 0))) && (decide (a0.z2s ≤ 15))) && (decide (a0.z2t ≥ 0))) && (decide (a0.z2t ≤ 15))) && (decide (a0.z5W ≥ 0))) && (decide (a0.z5W ≤ 16777215)))
  else some false
def internal_strconv_small (n : Nat) (a0 : Int) : Option Str :=
  if (decide (a0 < 10)) then
   if cLH a0 (z0a (a0 + 1)) 36 then some ((([48,49,50,51,52,53,54,55,56,57,97,98,99,100,101,102,103,104,105,106,107,108,109,110,111,112,113,114,115,116,117,118,119,120,121,122] : Str).take (z0a (a0 + 1)).toNat).drop (a0).toNat)
   else none
  else
   if cLH (z0a (a0 * 2)) (z0a ((z0a (a0 * 2)) + 2)) 200 then some ((([48,48,48,49,48,50,48,51,48,52,48,53,48,54,48,55,48,56,48,57,49,48,49,49,49,50,49,51,49,52,49,53,49,54,49,55,49,56,49,57,50,48,50,49,50,50,50,51,50,52,50,53,50,54,50,55,50,56,50,57,51,48,51,49,51,50,51,51,51,52,51,53,51,54,51,55,51,56,51,57,52,48,52,49,52,50,52,51,52,52,52,53,52,54,52,55,52,56,52,57,53,48,53,49,53,50,53,51,53,52,53,53,53,54,53,55,53,56,53,57,54,48,54,49,54,50,54,51,54,52,54,53,54,54,54,55,54,56,54,57,55,48,55,49,55,50,55,51,55,52,55,53,55,54,55,55,55,56,55,57,56,48,56,49,56,50,56,51,56,52,56,53,56,54,56,55,56,56,56,57,57,48,57,49,57,50,57,51,57,52,57,53,57,54,57,55,57,56,57,57] : Str).take (z0a ((z0a (a0 * 2)) + 2)).toNat).drop (z0a (a0 * 2)).toNat)
   else none
def z2p (n : Nat) (p0 : Int) (p1 : Int) : Option Str :=none
def z1v (n : Nat) (a0 : Int) : Option Bool :=some ((iand .i64 a0 (z0a (a0 - 1))) == 0)
def z0E : Nat → (List Int) → Int → Bool → Bool → Int → Int → Int → Int → (List Int) → Option ((List Int) × Int × Bool × Bool × Int × (List Int))
  | 0,_,_,_,_,_,_,_,_,_ => none
  | n + 1,p0,p1,p2,p3,p4,p5,p6,p7,p8 =>
  if (decide (p1 ≥ p6)) then
   if within (iand .u64 p1 p7) 36 then
   if within (z0a (p4 - 1)) p8.length then
   if p8.length = 65 then
   if within (z0a (p4 - 1)) p8.length then
   if nn p5 then z0E n p0 (shr .u64 p1 p5) p2 p3 (z0a (p4 - 1)) p5 p6 p7 (p8.set (z0a (p4 - 1)).toNat (bt ([48,49,50,51,52,53,54,55,56,57,97,98,99,100,101,102,103,104,105,106,107,108,109,110,111,112,113,114,115,116,117,118,119,120,121,122] : Str) (iand .u64 p1 p7)))
   else none
   else none
   else none
   else none
   else none
  else some (p0,p1,p2,p3,p4,p8)
def z1q (n : Nat) (p0 : (List Int)) (p1 : Bool) (p2 : Bool) (p3 : Int) (p4 : (List Int)) : Option ((List Int) × Str) :=
  if p1 then
   if within (z0a (p3 - 1)) p4.length then
   if p4.length = 65 then
   if within (z0a (p3 - 1)) p4.length then
   if p2 then none
   else
    if (p4.set (z0a (p3 - 1)).toNat 45).length = 65 then
    if cLo (z0a (p3 - 1)) ((p4.set (z0a (p3 - 1)).toNat 45).length) then some ([],(strOf ((p4.set (z0a (p3 - 1)).toNat 45).drop (z0a (p3 - 1)).toNat)))
    else none
    else none
   else none
   else none
   else none
  else
   if p2 then none
   else
    if p4.length = 65 then
    if cLo p3 p4.length then some ([],(strOf (p4.drop (p3).toNat)))
    else none
    else none
def z1r : Nat → (List Int) → Int → Bool → Bool → Int → Int → (List Int) → Option ((List Int) × Int × Bool × Bool × Int × (List Int))
  | 0,_,_,_,_,_,_,_ => none
  | n + 1,p0,p1,p2,p3,p4,p5,p6 =>
  if (decide (p1 ≥ p5)) then
   if nz p5 then
   if within (z1b (p1 - (z1b ((z1b (Int.tdiv p1 p5)) * p5)))) 36 then
   if within (z0a (p4 - 1)) p6.length then
   if p6.length = 65 then
   if within (z0a (p4 - 1)) p6.length then z1r n p0 (z1b (Int.tdiv p1 p5)) p2 p3 (z0a (p4 - 1)) p5 (p6.set (z0a (p4 - 1)).toNat (bt ([48,49,50,51,52,53,54,55,56,57,97,98,99,100,101,102,103,104,105,106,107,108,109,110,111,112,113,114,115,116,117,118,119,120,121,122] : Str) (z1b (p1 - (z1b ((z1b (Int.tdiv p1 p5)) * p5))))))
   else none
   else none
   else none
   else none
   else none
  else some (p0,p1,p2,p3,p4,p6)
def z1t (n : Nat) (p0 : (List Int)) (p1 : Int) (p2 : Int) (p3 : Bool) (p4 : Bool) : Option ((List Int) × Str) :=
  z1v n p2 >>= fun b4 =>
  if b4 then
   z6w (z1b p2) >>= fun b7 =>
   z0E n p0 p1 p3 p4 65 (z1b b7) (z1b p2) (z1b ((z1b p2) - 1)) (List.replicate 65 (0 : Int)) >>= fun b15 =>
   if within b15.2.1 36 then
   if within (z0a (b15.2.2.2.2.1 - 1)) b15.2.2.2.2.2.length then
   if b15.2.2.2.2.2.length = 65 then
   if within (z0a (b15.2.2.2.2.1 - 1)) b15.2.2.2.2.2.length then z1q n b15.1 b15.2.2.1 b15.2.2.2.1 (z0a (b15.2.2.2.2.1 - 1)) (b15.2.2.2.2.2.set (z0a (b15.2.2.2.2.1 - 1)).toNat (bt ([48,49,50,51,52,53,54,55,56,57,97,98,99,100,101,102,103,104,105,106,107,108,109,110,111,112,113,114,115,116,117,118,119,120,121,122] : Str) b15.2.1))
   else none
   else none
   else none
   else none
  else
   z1r n p0 p1 p3 p4 65 (z1b p2) (List.replicate 65 (0 : Int)) >>= fun b27 =>
   if within b27.2.1 36 then
   if within (z0a (b27.2.2.2.2.1 - 1)) b27.2.2.2.2.2.length then
   if b27.2.2.2.2.2.length = 65 then
   if within (z0a (b27.2.2.2.2.1 - 1)) b27.2.2.2.2.2.length then z1q n b27.1 b27.2.2.1 b27.2.2.2.1 (z0a (b27.2.2.2.2.1 - 1)) (b27.2.2.2.2.2.set (z0a (b27.2.2.2.2.1 - 1)).toNat (bt ([48,49,50,51,52,53,54,55,56,57,97,98,99,100,101,102,103,104,105,106,107,108,109,110,111,112,113,114,115,116,117,118,119,120,121,122] : Str) b27.2.1))
   else none
   else none
   else none
   else none
def z1O (n : Nat) (a0 : (List Int)) (a1 : Int) (a2 : Int) (a3 : Bool) (a4 : Bool) : Option ((List Int) × Str) :=
  if (((decide (a2 < 2)) || (a2 == 10)) || (decide (a2 > 36))) then none
  else
   if a3 then z1t n a0 (z1b (0 - a1)) a2 a3 a4
   else z1t n a0 a1 a2 a3 a4
def z1Z (n : Nat) (a0 : Int) (a1 : Int) : Option Str :=
  if (a1 == 10) then
   if ((decide (0 ≤ a0)) && (decide (a0 < 100))) then
    internal_strconv_small n a0 >>= fun b4 => some b4
   else
    if (decide (a0 < 0)) then z2p n a0 (z1b (0 - (z1b a0)))
    else z2p n a0 (z1b a0)
  else
   z1O n [] (z1b a0) a1 (decide (a0 < 0)) false >>= fun b7 => some b7.2
def z4r (n : Nat) (a0 : Int) (a1 : Int) : Option Str :=
  z1Z n a0 a1 >>= fun b2 => some b2
def z5q (n : Nat) (a0 : Int) (a1 : Int) : Option Str :=
  z4r n a0 16 >>= fun b2 =>
  strings_Repeat ([48] : Str) (z0a (a1 - (b2.length : Int))) >>= fun b4 =>
  if fits (b4.length + b2.length) then some (b4 ++ b2)
  else none
def z7L (n : Nat) (a0 : z0g) : Option (Str × Int) :=
  z9A n a0 >>= fun b2 =>
  if (!b2) then some ([],2)
  else
   z5q n a0.z2s 1 >>= fun b5 =>
   if fits (a0.z0z.length + b5.length) then
   z5q n a0.z2t 1 >>= fun b8 =>
   if fits ((a0.z0z ++ b5).length + b8.length) then
   z7X n >>= fun b11 =>
   if fits (((a0.z0z ++ b5) ++ b8).length + ((alk (fun y => a0.z3G == y) (ast (fun y => 3 == y) 3 ([77,71,80,75] : Str) (ast (fun y => 2 == y) 2 ([67,66,79,82] : Str) (ast (fun y => 1 == y) 1 ([74,83,79,78] : Str) ([] : List (Int × Str)))))).getD []).length) then
   z5q n a0.z5W 6 >>= fun b14 =>
   if fits ((((a0.z0z ++ b5) ++ b8) ++ ((alk (fun y => a0.z3G == y) (ast (fun y => 3 == y) 3 ([77,71,80,75] : Str) (ast (fun y => 2 == y) 2 ([67,66,79,82] : Str) (ast (fun y => 1 == y) 1 ([74,83,79,78] : Str) ([] : List (Int × Str)))))).getD [])).length + b14.length) then
   if fits (((((a0.z0z ++ b5) ++ b8) ++ ((alk (fun y => a0.z3G == y) (ast (fun y => 3 == y) 3 ([77,71,80,75] : Str) (ast (fun y => 2 == y) 2 ([67,66,79,82] : Str) (ast (fun y => 1 == y) 1 ([74,83,79,78] : Str) ([] : List (Int × Str)))))).getD [])) ++ b14).length + 1) then some ((((((a0.z0z ++ b5) ++ b8) ++ ((alk (fun y => a0.z3G == y) (ast (fun y => 3 == y) 3 ([77,71,80,75] : Str) (ast (fun y => 2 == y) 2 ([67,66,79,82] : Str) (ast (fun y => 1 == y) 1 ([74,83,79,78] : Str) ([] : List (Int × Str)))))).getD [])) ++ b14) ++ ([95] : Str)),0)
   else none
   else none
   else none
   else none
   else none
def za8 (n : Nat) (a0 : z00) : Option Bool :=some ((((((a0.z08 == 1) || (!a0.z0c)) && ((a0.z08 == 2) || (a0.z06 == 0))) && ((a0.z08 == 3) || (a0.z0b == []))) && (((a0.z08 == 4) || (a0.z08 == 5)) || ((a0.z05.length : Int) == 0))) && ((a0.z08 == 5) || ((a0.z07.length : Int) == 0)))
def z0B (n : Nat) (a0 : Str) : Option Int :=
  if within 0 a0.length then
  if within 1 a0.length then
  if within 2 a0.length then
  if within 3 a0.length then
  if within 4 a0.length then
  if within 5 a0.length then
  if within 6 a0.length then
  if within 7 a0.length then some (ior .u64 (ior .u64 (ior .u64 (ior .u64 (ior .u64 (ior .u64 (ior .u64 (z1b (bt a0 0)) (shl .u64 (z1b (bt a0 1)) 8)) (shl .u64 (z1b (bt a0 2)) 16)) (shl .u64 (z1b (bt a0 3)) 24)) (shl .u64 (z1b (bt a0 4)) 32)) (shl .u64 (z1b (bt a0 5)) 40)) (shl .u64 (z1b (bt a0 6)) 48)) (shl .u64 (z1b (bt a0 7)) 56))
  else none
  else none
  else none
  else none
  else none
  else none
  else none
  else none
def z0O : Nat → Str → Str → Int → Int → Bool → Str → Int → Str → Str → Int → Int → Int → Bool → Option (Str × Str × Int × Int × Bool × Str × Int × Str × Str × Int × Int × Int × Bool)
  | 0,_,_,_,_,_,_,_,_,_,_,_,_,_ => none
  | n + 1,p0,p1,p2,p3,p4,p5,p6,p7,p8,p9,p10,p11,p12 =>
  if (decide ((p0.length : Int) > 32)) then
   z0B n p0 >>= fun b20 =>
   if cLo 8 p0.length then
   z0B n (p0.drop 8) >>= fun b23 =>
   if cLo 16 p0.length then
   z0B n (p0.drop 16) >>= fun b26 =>
   if cLo 24 p0.length then
   z0B n (p0.drop 24) >>= fun b29 =>
   if ((iand .u64 (ior .u64 (ior .u64 b20 b23) (ior .u64 b26 b29)) 9259542123273814144) == 0) then
    if cLo 32 p0.length then z0O n (p0.drop 32) p1 p2 p3 p4 p5 p6 p7 p8 p9 p10 p11 p12
    else none
   else some (p0,p1,p2,p3,p4,p5,p6,p7,p8,p9,p10,p11,p12)
   else none
   else none
   else none
  else some (p0,p1,p2,p3,p4,p5,p6,p7,p8,p9,p10,p11,p12)
def z0y : Nat → Str → Option Unit
  | 0,_ => none
  | n + 1,p0 =>
  if (decide ((p0.length : Int) > 0)) then
   if within 0 p0.length then
   if (decide ((bt p0 0) < 128)) then
    if cLo 1 p0.length then
    if (decide (((p0.drop 1).length : Int) > 8)) then
     z0B n (p0.drop 1) >>= fun b7 =>
     if ((iand .u64 b7 9259542123273814144) == 0) then
      if cLo 8 ((p0.drop 1).length) then
      if (decide ((((p0.drop 1).drop 8).length : Int) > 16)) then
       z0B n ((p0.drop 1).drop 8) >>= fun b12 =>
       if cLo 8 (((p0.drop 1).drop 8).length) then
       z0B n (((p0.drop 1).drop 8).drop 8) >>= fun b15 =>
       if ((iand .u64 (ior .u64 b12 b15) 9259542123273814144) == 0) then
        if cLo 16 (((p0.drop 1).drop 8).length) then
        z0O n (((p0.drop 1).drop 8).drop 16) (p0.drop 1) b7 (iand .u64 b7 9259542123273814144) ((iand .u64 b7 9259542123273814144) == 0) ((p0.drop 1).drop 8) b12 ((p0.drop 1).drop 8) (((p0.drop 1).drop 8).drop 8) b15 (ior .u64 b12 b15) (iand .u64 (ior .u64 b12 b15) 9259542123273814144) ((iand .u64 (ior .u64 b12 b15) 9259542123273814144) == 0) >>= fun b33 => z0y n b33.1
        else none
       else z0y n ((p0.drop 1).drop 8)
       else none
      else z0y n ((p0.drop 1).drop 8)
      else none
     else z0y n (p0.drop 1)
    else z0y n (p0.drop 1)
    else none
   else none
   else none
  else some ()
def z1i (n : Nat) (a0 : Str) : Option Bool :=
  z0y n a0 >>= fun b35 => some true
def zc9 (n : Nat) (a0 : Str) : Option Bool :=
  if (decide ((a0.length : Int) ≤ 65536)) then
   z1i n a0 >>= fun b3 => some b3
  else some false
def z4R : Nat → (List Str) → Int → Int → z00 → (List (Str × Bool)) → Option (Sum Unit z00)
  | 0,_,_,_,_,_ => none
  | n + 1,p0,p1,p2,p3,p4 =>
  if (decide (p2 < p1)) then
   if within p2 p0.length then
   if ((alk (fun y => (rd [] p0 p2) == y) p4).getD false) then some (.inl ())
   else
    zc9 n (rd [] p0 p2) >>= fun b5 =>
    if (!b5) then some (.inl ())
    else z4R n p0 p1 (z0a (p2 + 1)) p3 (ast (fun y => (rd [] p0 p2) == y) (rd [] p0 p2) true p4)
   else none
  else some (.inr p3)
def zbZ (n : Nat) (a0 : z00) : Option Bool :=
  z4R n a0.z07 (a0.z07.length : Int) 0 a0 ([] : List (Str × Bool)) >>= fun b7 =>
  match b7 with
  | .inl b8 => some false
  | .inr b9 => some ((b9.z07.length : Int) == (b9.z05.length : Int))
mutual
def z8b : Nat → z00 → Int → Option Bool
  | 0,_,_ => none
  | n + 1,a0,a1 =>
  if (((decide (a1 < 1)) || (decide (a0.z08 < 0))) || (decide (a0.z08 > 5))) then some false
  else
   za8 n a0 >>= fun b3 =>
   if (!b3) then some false
   else
    zc9 n a0.z0b >>= fun b6 =>
    if ((!b6) || (decide ((a0.z05.length : Int) > 256))) then some false
    else
     if (a0.z08 == 5) then
      zbZ n a0 >>= fun b10 =>
      if (!b10) then some false
      else
       z0x n a0.z05 a1 >>= fun b13 => some (!b13.1)
     else
      z0x n a0.z05 a1 >>= fun b15 => some (!b15.1)
def z0x : Nat → (List z00) → Int → Option (Bool × Int)
  | 0,_,_ => none
  | n + 1,a0,a1 =>
  z0M n a0 a1 >>= fun b2 => some ((decide (b2.1 ≥ 0)),b2.2)
def z0w : Nat → (List z00) → Int → Int → Int → Option (Sum (Int × Int) Int)
  | 0,_,_,_,_ => none
  | n + 1,p0,p1,p2,p3 =>
  if (decide (p2 < p1)) then
   if within p2 p0.length then
   z8T n (rd z00.dft p0 p2) p3 >>= fun b4 =>
   if b4 then some (.inl (p2,p3))
   else z0w n p0 p1 (z0a (p2 + 1)) p3
   else none
  else some (.inr p3)
def z0M : Nat → (List z00) → Int → Option (Int × Int)
  | 0,_,_ => none
  | n + 1,a0,a1 =>
  z0w n a0 (a0.length : Int) 0 a1 >>= fun b6 =>
  match b6 with
  | .inl b7 => some (b7.1,b7.2)
  | .inr b8 => some ((-1),b8)
def z8T : Nat → z00 → Int → Option Bool
  | 0,_,_ => none
  | n + 1,a0,a1 =>
  z8b n a0 (z0a (a1 - 1)) >>= fun b2 => some (!b2)
end
def z92 (n : Nat) (a0 : z00) : Option Bool :=
  z8b n a0 8 >>= fun b2 => some b2
def z0D : Nat → Str → Int → Int → (List Str) → Option (Sum (Int × (List Str)) (List Str))
  | 0,_,_,_,_ => none
  | n + 1,p0,p1,p2,p3 =>
  if (decide (p2 < p1)) then
   if within p2 p3.length then
   if within p2 p3.length then
   if (p0 == (rd [] p3 p2)) then some (.inl (p2,p3))
   else z0D n p0 p1 (z0a (p2 + 1)) p3
   else none
   else none
  else some (.inr p3)
def z16 (n : Nat) (a0 : Str) (a1 : (List Str)) : Option (Int × (List Str)) :=
  z0D n a0 (a1.length : Int) 0 a1 >>= fun b5 =>
  match b5 with
  | .inl b6 => some (b6.1,b6.2)
  | .inr b7 => some ((-1),b7)
def z1P (n : Nat) (a0 : Bool) : Option (List Int) :=
  if a0 then some (bytesOf ([116,114,117,101] : Str))
  else some (bytesOf ([102,97,108,115,101] : Str))
def z4W (n : Nat) (a0 : Bool) : Option (List Int) :=
  z1P n a0 >>= fun b2 => some b2
def z2a (n : Nat) (a0 : Int) (a1 : Int) : Option (List Int) :=
  if (decide (a0 < 0)) then
   z0Y (z1b (0 - (z1b a0))) a1 [45] >>= fun b3 => some b3
  else
   z3y (z1b a0) a1 >>= fun b5 => some b5
def z5I (n : Nat) (a0 : Int) (a1 : Int) : Option (List Int) :=
  z2a n a0 a1 >>= fun b2 => some b2
def z8Z (n : Nat) : Option Unit :=some ()
def z5j : Nat → Str → Int → Int → (List Int) → Option (List Int)
  | 0,_,_,_,_ => none
  | n + 1,p0,p1,p2,p3 =>
  if (decide (p2 < p1)) then
   if within p2 p0.length then
   if (alk (fun y => (bt p0 p2) == y) (ast (fun y => 13 == y) 13 114 (ast (fun y => 12 == y) 12 102 (ast (fun y => 10 == y) 10 110 (ast (fun y => 9 == y) 9 116 (ast (fun y => 8 == y) 8 98 (ast (fun y => 92 == y) 92 92 (ast (fun y => 34 == y) 34 34 ([] : List (Int × Int)))))))))).isSome then
    if fits ((p3.length + ([92,((alk (fun y => (bt p0 p2) == y) (ast (fun y => 13 == y) 13 114 (ast (fun y => 12 == y) 12 102 (ast (fun y => 10 == y) 10 110 (ast (fun y => 9 == y) 9 116 (ast (fun y => 8 == y) 8 98 (ast (fun y => 92 == y) 92 92 (ast (fun y => 34 == y) 34 34 ([] : List (Int × Int)))))))))).getD 0)]).length) * 1) then z5j n p0 p1 (z0a (p2 + 1)) (p3 ++ [92,((alk (fun y => (bt p0 p2) == y) (ast (fun y => 13 == y) 13 114 (ast (fun y => 12 == y) 12 102 (ast (fun y => 10 == y) 10 110 (ast (fun y => 9 == y) 9 116 (ast (fun y => 8 == y) 8 98 (ast (fun y => 92 == y) 92 92 (ast (fun y => 34 == y) 34 34 ([] : List (Int × Int)))))))))).getD 0)])
    else none
   else
    if (decide ((bt p0 p2) < 32)) then
     if within (shr .u8 (bt p0 p2) 4) 16 then
     if within (iand .u8 (bt p0 p2) 15) 16 then
     if fits ((p3.length + ([92,117,48,48,(bt ([48,49,50,51,52,53,54,55,56,57,97,98,99,100,101,102] : Str) (shr .u8 (bt p0 p2) 4)),(bt ([48,49,50,51,52,53,54,55,56,57,97,98,99,100,101,102] : Str) (iand .u8 (bt p0 p2) 15))]).length) * 1) then z5j n p0 p1 (z0a (p2 + 1)) (p3 ++ [92,117,48,48,(bt ([48,49,50,51,52,53,54,55,56,57,97,98,99,100,101,102] : Str) (shr .u8 (bt p0 p2) 4)),(bt ([48,49,50,51,52,53,54,55,56,57,97,98,99,100,101,102] : Str) (iand .u8 (bt p0 p2) 15))])
     else none
     else none
     else none
    else
     if fits ((p3.length + 1) * 1) then z5j n p0 p1 (z0a (p2 + 1)) (p3 ++ [(bt p0 p2)])
     else none
   else none
  else some p3
def zc3 (n : Nat) (a0 : Str) : Option (List Int) :=
  z8Z n >>= fun b2 =>
  z5j n a0 (a0.length : Int) 0 [34] >>= fun b13 =>
  if fits ((b13.length + 1) * 1) then some (b13 ++ [34])
  else none
def z1E : Nat → Str → Int → Int → (List Int) → Option (List Int)
  | 0,_,_,_,_ => none
  | n + 1,p0,p1,p2,p3 =>
  if (decide (p2 < p1)) then
   if within p2 p0.length then
   if (alk (fun y => (bt p0 p2) == y) (ast (fun y => 13 == y) 13 114 (ast (fun y => 12 == y) 12 102 (ast (fun y => 10 == y) 10 110 (ast (fun y => 9 == y) 9 116 (ast (fun y => 8 == y) 8 98 (ast (fun y => 92 == y) 92 92 (ast (fun y => 34 == y) 34 34 ([] : List (Int × Int)))))))))).isSome then
    if fits ((p3.length + ([92,((alk (fun y => (bt p0 p2) == y) (ast (fun y => 13 == y) 13 114 (ast (fun y => 12 == y) 12 102 (ast (fun y => 10 == y) 10 110 (ast (fun y => 9 == y) 9 116 (ast (fun y => 8 == y) 8 98 (ast (fun y => 92 == y) 92 92 (ast (fun y => 34 == y) 34 34 ([] : List (Int × Int)))))))))).getD 0)]).length) * 1) then z1E n p0 p1 (z0a (p2 + 1)) (p3 ++ [92,((alk (fun y => (bt p0 p2) == y) (ast (fun y => 13 == y) 13 114 (ast (fun y => 12 == y) 12 102 (ast (fun y => 10 == y) 10 110 (ast (fun y => 9 == y) 9 116 (ast (fun y => 8 == y) 8 98 (ast (fun y => 92 == y) 92 92 (ast (fun y => 34 == y) 34 34 ([] : List (Int × Int)))))))))).getD 0)])
    else none
   else
    if (decide ((bt p0 p2) < 32)) then
     if within (shr .u8 (bt p0 p2) 4) 16 then
     if within (iand .u8 (bt p0 p2) 15) 16 then
     if fits ((p3.length + ([92,117,48,48,(bt ([48,49,50,51,52,53,54,55,56,57,97,98,99,100,101,102] : Str) (shr .u8 (bt p0 p2) 4)),(bt ([48,49,50,51,52,53,54,55,56,57,97,98,99,100,101,102] : Str) (iand .u8 (bt p0 p2) 15))]).length) * 1) then z1E n p0 p1 (z0a (p2 + 1)) (p3 ++ [92,117,48,48,(bt ([48,49,50,51,52,53,54,55,56,57,97,98,99,100,101,102] : Str) (shr .u8 (bt p0 p2) 4)),(bt ([48,49,50,51,52,53,54,55,56,57,97,98,99,100,101,102] : Str) (iand .u8 (bt p0 p2) 15))])
     else none
     else none
     else none
    else
     if fits ((p3.length + 1) * 1) then z1E n p0 p1 (z0a (p2 + 1)) (p3 ++ [(bt p0 p2)])
     else none
   else none
  else some p3
def z3w (n : Nat) (a0 : Str) (a1 : (List Int)) : Option (List Int) :=
  z8Z n >>= fun b2 =>
  if fits ((a1.length + 1) * 1) then
  z1E n a0 (a0.length : Int) 0 (a1 ++ [34]) >>= fun b14 =>
  if fits ((b14.length + 1) * 1) then some (b14 ++ [34])
  else none
  else none
def z14 (n : Nat) (a0 : Bool) (a1 : (List Int)) : Option (List Int) :=
  if a0 then
   if fits ((a1.length + (bytesOf ([116,114,117,101] : Str)).length) * 1) then some (a1 ++ (bytesOf ([116,114,117,101] : Str)))
   else none
  else
   if fits ((a1.length + (bytesOf ([102,97,108,115,101] : Str)).length) * 1) then some (a1 ++ (bytesOf ([102,97,108,115,101] : Str)))
   else none
def z2C (n : Nat) (a0 : Bool) (a1 : (List Int)) : Option (List Int) :=
  z14 n a0 a1 >>= fun b2 => some b2
def z1a (n : Nat) (a0 : Int) (a1 : Int) (a2 : (List Int)) : Option (List Int) :=
  if (decide (a0 < 0)) then
   if fits ((a2.length + 1) * 1) then
   z0Y (z1b (0 - (z1b a0))) a1 (a2 ++ [45]) >>= fun b4 => some b4
   else none
  else
   z0Y (z1b a0) a1 a2 >>= fun b6 => some b6
def z2d (n : Nat) (a0 : Int) (a1 : Int) (a2 : (List Int)) : Option (List Int) :=
  z1a n a0 a1 a2 >>= fun b2 => some b2
mutual
def z5k : Nat → Str → (List Int) → z00 → Option (List Int)
  | 0,_,_,_ => none
  | n + 1,p0,p1,p2 =>
  if within 0 p0.length then
  if fits ((p1.length + 1) * 1) then
  z3s n p0 p2.z05 (p2.z05.length : Int) 0 (p1 ++ [(bt p0 0)]) p2 >>= fun b29 =>
  if within 1 b29.1.length then
  if fits ((b29.2.length + 1) * 1) then some (b29.2 ++ [(bt b29.1 1)])
  else none
  else none
  else none
  else none
def z3s : Nat → Str → (List z00) → Int → Int → (List Int) → z00 → Option (Str × (List Int))
  | 0,_,_,_,_,_,_ => none
  | n + 1,p0,p1,p2,p3,p4,p5 =>
  if (decide (p3 < p2)) then
   if within p3 p1.length then
   if (decide (p3 > 0)) then
    if fits ((p4.length + 1) * 1) then z5r n p0 p3 p1 p2 p3 (p4 ++ [44]) p5 (rd z00.dft p1 p3)
    else none
   else z5r n p0 p3 p1 p2 p3 p4 p5 (rd z00.dft p1 p3)
   else none
  else some (p0,p4)
def z5r : Nat → Str → Int → (List z00) → Int → Int → (List Int) → z00 → z00 → Option (Str × (List Int))
  | 0,_,_,_,_,_,_,_,_ => none
  | n + 1,p0,p1,p2,p3,p4,p5,p6,p7 =>
  if (p6.z08 == 5) then
   if within p1 p6.z07.length then
   z3w n (rd [] p6.z07 p1) p5 >>= fun b22 =>
   if fits ((b22.length + 1) * 1) then
   z3n n p7 (b22 ++ [58]) >>= fun b25 => z3s n p0 p2 p3 (z0a (p4 + 1)) b25 p6
   else none
   else none
  else
   z3n n p7 p5 >>= fun b27 => z3s n p0 p2 p3 (z0a (p4 + 1)) b27 p6
def z3n : Nat → z00 → (List Int) → Option (List Int)
  | 0,_,_ => none
  | n + 1,a0,a1 =>
  if (a0.z08 == 0) then
   if fits ((a1.length + (bytesOf ([110,117,108,108] : Str)).length) * 1) then some (a1 ++ (bytesOf ([110,117,108,108] : Str)))
   else none
  else
   if (a0.z08 == 1) then
    z2C n a0.z0c a1 >>= fun b5 => some b5
   else
    if (a0.z08 == 2) then
     z2d n a0.z06 10 a1 >>= fun b8 => some b8
    else
     if (a0.z08 == 3) then
      z3w n a0.z0b a1 >>= fun b11 => some b11
     else
      if (a0.z08 == 5) then z5k n ([123,125] : Str) a1 a0
      else z5k n ([91,93] : Str) a1 a0
end
mutual
def z6q : Nat → Str → (List z00) → Int → Int → (List Int) → z00 → Option (Str × (List Int))
  | 0,_,_,_,_,_,_ => none
  | n + 1,p0,p1,p2,p3,p4,p5 =>
  if (decide (p3 < p2)) then
   if within p3 p1.length then
   if (decide (p3 > 0)) then
    if fits ((p4.length + 1) * 1) then z8P n p0 p3 p1 p2 p3 (p4 ++ [44]) p5 (rd z00.dft p1 p3)
    else none
   else z8P n p0 p3 p1 p2 p3 p4 p5 (rd z00.dft p1 p3)
   else none
  else some (p0,p4)
def z8P : Nat → Str → Int → (List z00) → Int → Int → (List Int) → z00 → z00 → Option (Str × (List Int))
  | 0,_,_,_,_,_,_,_,_ => none
  | n + 1,p0,p1,p2,p3,p4,p5,p6,p7 =>
  if (p6.z08 == 5) then
   if within p1 p6.z07.length then
   z3w n (rd [] p6.z07 p1) p5 >>= fun b20 =>
   if fits ((b20.length + 1) * 1) then
   z3n n p7 (b20 ++ [58]) >>= fun b23 => z6q n p0 p2 p3 (z0a (p4 + 1)) b23 p6
   else none
   else none
  else
   z3n n p7 p5 >>= fun b25 => z6q n p0 p2 p3 (z0a (p4 + 1)) b25 p6
end
def za3 (n : Nat) (p0 : Str) (p1 : z00) : Option (List Int) :=
  if within 0 p0.length then
  z6q n p0 p1.z05 (p1.z05.length : Int) 0 [(bt p0 0)] p1 >>= fun b27 =>
  if within 1 b27.1.length then
  if fits ((b27.2.length + 1) * 1) then some (b27.2 ++ [(bt b27.1 1)])
  else none
  else none
  else none
def zcX (n : Nat) (a0 : z00) : Option (List Int) :=
  if (a0.z08 == 0) then some (bytesOf ([110,117,108,108] : Str))
  else
   if (a0.z08 == 1) then
    z4W n a0.z0c >>= fun b4 => some b4
   else
    if (a0.z08 == 2) then
     z5I n a0.z06 10 >>= fun b7 => some b7
    else
     if (a0.z08 == 3) then
      zc3 n a0.z0b >>= fun b10 => some b10
     else
      if (a0.z08 == 5) then za3 n ([123,125] : Str) a0
      else za3 n ([91,93] : Str) a0
def z9K (n : Nat) (a0 : z00) : Option (Str × Int) :=
  z92 n a0 >>= fun b2 =>
  if (!b2) then some ([],1)
  else
   zcX n a0 >>= fun b5 =>
   if (decide ((b5.length : Int) > 65536)) then some ([],3)
   else some ((strOf b5),0)
def za9 (n : Nat) (a0 : z00) : Option (Str × Int) :=
  z9K n a0 >>= fun b2 => some (b2.1,b2.2)
def z6m (n : Nat) (a0 : Int) (a1 : z00) : Option (Str × Int) :=
  if decide (a0 = 1) then
   za9 n a1 >>= fun b2 => some (b2.1,b2.2)
  else none
def z8u (n : Nat) (p0 : Int) (p1 : Str) (p2 : z0g) (p3 : Int) (p4 : Bool) (p5 : Int) (p6 : Str) (p7 : (List Str)) (p8 : (List z00)) : Option (z00 × Str × Int) :=
  z3Y 0 ([([118] : Str)]) p7 >>= fun b18 =>
  z3e 0 ([(⟨0,false,0,[],[],[]⟩ : z00)]) p8 >>= fun b20 =>
  z4v n p1 >>= fun b26 =>
  z88 n (⟨p3,p4,p5,p6,b18,b20⟩ : z00) ([118] : Str) b26 >>= fun b28 =>
  z6m n p0 b28 >>= fun b30 =>
  if (b30.2 != 0) then some ((⟨0,false,0,[],[],[]⟩ : z00),[],b30.2)
  else
   z7L n (⟨p2.z0z,p2.z2s,p2.z2t,p2.z3G,(b30.1.length : Int)⟩ : z0g) >>= fun b33 =>
   z4v n b33.1 >>= fun b35 =>
   z88 n b28 ([118] : Str) b35 >>= fun b37 =>
   z6m n p0 b37 >>= fun b39 => some (b37,b39.1,b39.2)
def za4 (n : Nat) (a0 : z00) (a1 : Str) (a2 : Int) : Option (z00 × Str × Int) :=
  z7L n (⟨a1,1,0,a2,0⟩ : z0g) >>= fun b2 =>
  if (b2.2 != 0) then some ((⟨0,false,0,[],[],[]⟩ : z00),[],2)
  else
   if (a0.z08 != 5) then some ((⟨0,false,0,[],[],[]⟩ : z00),[],1)
   else
    z92 n a0 >>= fun b6 =>
    if (!b6) then some ((⟨0,false,0,[],[],[]⟩ : z00),[],1)
    else
     z5G n a0 >>= fun b9 =>
     z16 n ([118] : Str) b9.z07 >>= fun b11 =>
     if (decide (b11.1 ≥ 0)) then
      z7o b11.1 (z0a (b11.1 + 1)) b11.2 >>= fun b14 =>
      z5E b11.1 (z0a (b11.1 + 1)) b9.z05 >>= fun b16 => z8u n a2 b2.1 (⟨a1,1,0,a2,0⟩ : z0g) b9.z08 b9.z0c b9.z06 b9.z0b b14 b16
     else z8u n a2 b2.1 (⟨a1,1,0,a2,0⟩ : z0g) b9.z08 b9.z0c b9.z06 b9.z0b b11.2 b9.z05
def ze7 (n : Nat) : Option Unit :=some ()
def z8w (n : Nat) : Option Unit :=some ()
def z2y : Nat → Str → Int → (List Int) → (List Int) → (List Int) → Option ((List Int) × (List Int) × (List Int))
  | 0,_,_,_,_,_ => none
  | n + 1,p0,p1,p2,p3,p4 =>
  if (decide (p1 < 16)) then
   if within (z0a (4 * p1)) p0.length then
   if within (z0a ((z0a (4 * p1)) + 1)) p0.length then
   if within (z0a ((z0a (4 * p1)) + 2)) p0.length then
   if within (z0a ((z0a (4 * p1)) + 3)) p0.length then
   if within p1 p4.length then
   if p4.length = 64 then
   if within p1 p4.length then z2y n p0 (z0a (p1 + 1)) p2 p3 (p4.set (p1).toNat (ior .u32 (ior .u32 (ior .u32 (shl .u32 (z0T (bt p0 (z0a (4 * p1)))) 24) (shl .u32 (z0T (bt p0 (z0a ((z0a (4 * p1)) + 1)))) 16)) (shl .u32 (z0T (bt p0 (z0a ((z0a (4 * p1)) + 2)))) 8)) (z0T (bt p0 (z0a ((z0a (4 * p1)) + 3))))))
   else none
   else none
   else none
   else none
   else none
   else none
   else none
  else some (p2,p3,p4)
def z4H (n : Nat) (a0 : Int) (a1 : Int) : Option Int :=
  if nn (iand .u64 (z1b a1) 31) then
  if nn (z1b (32 - (iand .u64 (z1b a1) 31))) then some (ior .u32 (shl .u32 a0 (iand .u64 (z1b a1) 31)) (shr .u32 a0 (z1b (32 - (iand .u64 (z1b a1) 31)))))
  else none
  else none
def z3K (n : Nat) (a0 : Int) (a1 : Int) : Option Int :=
  z4H n a0 (z0a (0 - a1)) >>= fun b2 => some b2
def z2A : Nat → Int → (List Int) → (List Int) → (List Int) → Option ((List Int) × (List Int) × (List Int))
  | 0,_,_,_,_ => none
  | n + 1,p0,p1,p2,p3 =>
  if (decide (p0 < 64)) then
   if within (z0a (p0 - 15)) p3.length then
   if p3.length = 64 then
   if within (z0a (p0 - 15)) p3.length then
   if within (z0a (p0 - 2)) p3.length then
   if p3.length = 64 then
   if within (z0a (p0 - 2)) p3.length then
   z3K n (rd 0 p3 (z0a (p0 - 15))) 7 >>= fun b19 =>
   z3K n (rd 0 p3 (z0a (p0 - 15))) 18 >>= fun b21 =>
   z3K n (rd 0 p3 (z0a (p0 - 2))) 17 >>= fun b23 =>
   z3K n (rd 0 p3 (z0a (p0 - 2))) 19 >>= fun b25 =>
   if within (z0a (p0 - 7)) p3.length then
   if p3.length = 64 then
   if within (z0a (p0 - 7)) p3.length then
   if within (z0a (p0 - 16)) p3.length then
   if p3.length = 64 then
   if within (z0a (p0 - 16)) p3.length then
   if within p0 p3.length then
   if p3.length = 64 then
   if within p0 p3.length then z2A n (z0a (p0 + 1)) p1 p2 (p3.set (p0).toNat (z0T ((z0T ((z0T ((ixor .u32 (ixor .u32 b23 b25) (shr .u32 (rd 0 p3 (z0a (p0 - 2))) 10)) + (rd 0 p3 (z0a (p0 - 7))))) + (ixor .u32 (ixor .u32 b19 b21) (shr .u32 (rd 0 p3 (z0a (p0 - 15))) 3)))) + (rd 0 p3 (z0a (p0 - 16))))))
   else none
   else none
   else none
   else none
   else none
   else none
   else none
   else none
   else none
   else none
   else none
   else none
   else none
   else none
   else none
  else some (p1,p2,p3)
def z2z : Nat → Int → (List Int) → (List Int) → (List Int) → (List Int) → Option ((List Int) × (List Int) × (List Int))
  | 0,_,_,_,_,_ => none
  | n + 1,p0,p1,p2,p3,p4 =>
  if (decide (p0 < 64)) then
   if within 0 p4.length then
   if p4.length = 8 then
   if within 0 p4.length then
   if within 4 p4.length then
   if p4.length = 8 then
   if within 4 p4.length then
   if within 7 p4.length then
   if p4.length = 8 then
   if within 7 p4.length then
   z3K n (rd 0 p4 4) 6 >>= fun b50 =>
   z3K n (rd 0 p4 4) 11 >>= fun b52 =>
   z3K n (rd 0 p4 4) 25 >>= fun b54 =>
   if within 5 p4.length then
   if p4.length = 8 then
   if within 5 p4.length then
   if within 6 p4.length then
   if p4.length = 8 then
   if within 6 p4.length then
   if within p0 p2.length then
   if p2.length = 64 then
   if within p0 p2.length then
   if within p0 p3.length then
   if p3.length = 64 then
   if within p0 p3.length then
   z3K n (rd 0 p4 0) 2 >>= fun b68 =>
   z3K n (rd 0 p4 0) 13 >>= fun b70 =>
   z3K n (rd 0 p4 0) 22 >>= fun b72 =>
   if within 1 p4.length then
   if p4.length = 8 then
   if within 1 p4.length then
   if within 2 p4.length then
   if p4.length = 8 then
   if within 2 p4.length then
   if within 1 p4.length then
   if p4.length = 8 then
   if within 1 p4.length then
   if within 2 p4.length then
   if p4.length = 8 then
   if within 2 p4.length then
   if within 0 p4.length then
   if p4.length = 8 then
   if within 0 p4.length then
   if within 1 p4.length then
   if p4.length = 8 then
   if within 1 p4.length then
   if within 2 p4.length then
   if p4.length = 8 then
   if within 2 p4.length then
   if within 3 p4.length then
   if p4.length = 8 then
   if within 3 p4.length then
   if within 4 p4.length then
   if p4.length = 8 then
   if within 4 p4.length then
   if within 5 p4.length then
   if p4.length = 8 then
   if within 5 p4.length then
   if within 6 p4.length then
   if p4.length = 8 then
   if within 6 p4.length then
   if p4.length = 8 then z2z n (z0a (p0 + 1)) p1 p2 p3 [(z0T ((z0T ((z0T ((z0T ((z0T ((rd 0 p4 7) + (ixor .u32 (ixor .u32 b50 b52) b54))) + (ixor .u32 (iand .u32 (rd 0 p4 4) (rd 0 p4 5)) (iand .u32 (ixor .u32 4294967295 (rd 0 p4 4)) (rd 0 p4 6))))) + (rd 0 p2 p0))) + (rd 0 p3 p0))) + (z0T ((ixor .u32 (ixor .u32 b68 b70) b72) + (ixor .u32 (ixor .u32 (iand .u32 (rd 0 p4 0) (rd 0 p4 1)) (iand .u32 (rd 0 p4 0) (rd 0 p4 2))) (iand .u32 (rd 0 p4 1) (rd 0 p4 2))))))),(rd 0 p4 0),(rd 0 p4 1),(rd 0 p4 2),(z0T ((rd 0 p4 3) + (z0T ((z0T ((z0T ((z0T ((rd 0 p4 7) + (ixor .u32 (ixor .u32 b50 b52) b54))) + (ixor .u32 (iand .u32 (rd 0 p4 4) (rd 0 p4 5)) (iand .u32 (ixor .u32 4294967295 (rd 0 p4 4)) (rd 0 p4 6))))) + (rd 0 p2 p0))) + (rd 0 p3 p0))))),(rd 0 p4 4),(rd 0 p4 5),(rd 0 p4 6)]
   else none
   else none
   else none
   else none
   else none
   else none
   else none
   else none
   else none
   else none
   else none
   else none
   else none
   else none
   else none
   else none
   else none
   else none
   else none
   else none
   else none
   else none
   else none
   else none
   else none
   else none
   else none
   else none
   else none
   else none
   else none
   else none
   else none
   else none
   else none
   else none
   else none
   else none
   else none
   else none
   else none
   else none
   else none
   else none
   else none
   else none
   else none
   else none
   else none
   else none
   else none
   else none
   else none
   else none
   else none
  else some (p1,p2,p4)
def z2u : Nat → (List Int) → Int → (List Int) → (List Int) → Option ((List Int) × (List Int))
  | 0,_,_,_,_ => none
  | n + 1,p0,p1,p2,p3 =>
  if (decide (p1 < 8)) then
   if within p1 p0.length then
   if p0.length = 8 then
   if within p1 p2.length then
   if p2.length = 8 then
   if within p1 p2.length then
   if within p1 p2.length then
   if p2.length = 8 then
   if within p1 p2.length then z2u n p0 (z0a (p1 + 1)) (p2.set (p1).toNat (z0T ((rd 0 p2 p1) + (rd 0 p0 p1)))) p3
   else none
   else none
   else none
   else none
   else none
   else none
   else none
   else none
  else some (p2,p3)
def z6Z (n : Nat) (a0 : Str) (a1 : (List Int)) (a2 : (List Int)) : Option ((List Int) × (List Int)) :=
  z2y n a0 0 a1 a2 (List.replicate 64 (0 : Int)) >>= fun b10 =>
  z2A n 16 b10.1 b10.2.1 b10.2.2 >>= fun b36 =>
  if b36.1.length = 8 then
  if b36.1.length = 8 then
  z2z n 0 b36.1 b36.2.1 b36.2.2 b36.1 >>= fun b108 =>
  if b108.2.2.length = 8 then
  z2u n b108.2.2 0 b108.1 b108.2.1 >>= fun b120 => some (b120.1,b120.2)
  else none
  else none
  else none
def z7J : Nat → Str → (List Str) → Int → (List Int) → (List Int) → Option ((List Str) × Int × (List Int) × (List Int))
  | 0,_,_,_,_,_ => none
  | n + 1,p0,p1,p2,p3,p4 =>
  if (!(p0 == [])) then
   z6Z n p0 p3 p4 >>= fun b13 =>
   if cLo 64 p0.length then z7J n (p0.drop 64) p1 p2 b13.1 b13.2
   else none
  else some (p1,p2,p3,p4)
def z6B : Nat → (List Str) → Int → (List Int) → (List Int) → Option (List Int)
  | 0,_,_,_,_ => none
  | n + 1,p0,p1,p2,p3 =>
  if (decide (p1 < 2)) then
   if within p1 p0.length then
   z7J n (rd [] p0 p1) p0 p1 p2 p3 >>= fun b16 => z6B n b16.1 (z0a (b16.2.1 + 1)) b16.2.2.1 b16.2.2.2
   else none
  else some p2
def z8R : Nat → (List Int) → Int → (List Int) → Option (List Int)
  | 0,_,_,_ => none
  | n + 1,p0,p1,p2 =>
  if (decide (p1 < 8)) then
   if within p1 p0.length then
   if p0.length = 8 then
   if within (z0a (4 * p1)) p2.length then
   if p2.length = 32 then
   if within (z0a (4 * p1)) p2.length then
   if within (z0a ((z0a (4 * p1)) + 1)) ((p2.set (z0a (4 * p1)).toNat (w_u8 (shr .u32 (rd 0 p0 p1) 24))).length) then
   if (p2.set (z0a (4 * p1)).toNat (w_u8 (shr .u32 (rd 0 p0 p1) 24))).length = 32 then
   if within (z0a ((z0a (4 * p1)) + 1)) ((p2.set (z0a (4 * p1)).toNat (w_u8 (shr .u32 (rd 0 p0 p1) 24))).length) then
   if within (z0a ((z0a (4 * p1)) + 2)) (((p2.set (z0a (4 * p1)).toNat (w_u8 (shr .u32 (rd 0 p0 p1) 24))).set (z0a ((z0a (4 * p1)) + 1)).toNat (w_u8 (shr .u32 (rd 0 p0 p1) 16))).length) then
   if ((p2.set (z0a (4 * p1)).toNat (w_u8 (shr .u32 (rd 0 p0 p1) 24))).set (z0a ((z0a (4 * p1)) + 1)).toNat (w_u8 (shr .u32 (rd 0 p0 p1) 16))).length = 32 then
   if within (z0a ((z0a (4 * p1)) + 2)) (((p2.set (z0a (4 * p1)).toNat (w_u8 (shr .u32 (rd 0 p0 p1) 24))).set (z0a ((z0a (4 * p1)) + 1)).toNat (w_u8 (shr .u32 (rd 0 p0 p1) 16))).length) then
   if within (z0a ((z0a (4 * p1)) + 3)) ((((p2.set (z0a (4 * p1)).toNat (w_u8 (shr .u32 (rd 0 p0 p1) 24))).set (z0a ((z0a (4 * p1)) + 1)).toNat (w_u8 (shr .u32 (rd 0 p0 p1) 16))).set (z0a ((z0a (4 * p1)) + 2)).toNat (w_u8 (shr .u32 (rd 0 p0 p1) 8))).length) then
   if (((p2.set (z0a (4 * p1)).toNat (w_u8 (shr .u32 (rd 0 p0 p1) 24))).set (z0a ((z0a (4 * p1)) + 1)).toNat (w_u8 (shr .u32 (rd 0 p0 p1) 16))).set (z0a ((z0a (4 * p1)) + 2)).toNat (w_u8 (shr .u32 (rd 0 p0 p1) 8))).length = 32 then
   if within (z0a ((z0a (4 * p1)) + 3)) ((((p2.set (z0a (4 * p1)).toNat (w_u8 (shr .u32 (rd 0 p0 p1) 24))).set (z0a ((z0a (4 * p1)) + 1)).toNat (w_u8 (shr .u32 (rd 0 p0 p1) 16))).set (z0a ((z0a (4 * p1)) + 2)).toNat (w_u8 (shr .u32 (rd 0 p0 p1) 8))).length) then z8R n p0 (z0a (p1 + 1)) ((((p2.set (z0a (4 * p1)).toNat (w_u8 (shr .u32 (rd 0 p0 p1) 24))).set (z0a ((z0a (4 * p1)) + 1)).toNat (w_u8 (shr .u32 (rd 0 p0 p1) 16))).set (z0a ((z0a (4 * p1)) + 2)).toNat (w_u8 (shr .u32 (rd 0 p0 p1) 8))).set (z0a ((z0a (4 * p1)) + 3)).toNat (w_u8 (rd 0 p0 p1)))
   else none
   else none
   else none
   else none
   else none
   else none
   else none
   else none
   else none
   else none
   else none
   else none
   else none
   else none
  else some p2
def zhs (n : Nat) (a0 : Str) : Option Str :=
  ze7 n >>= fun b2 =>
  z8w n >>= fun b4 =>
  if cLo (z0a ((z0a (Int.tdiv (a0.length : Int) 64)) * 64)) a0.length then
  if cLo (z0a ((z0a (Int.tdiv (a0.length : Int) 64)) * 64)) a0.length then
  zop (a0.drop (z0a ((z0a (Int.tdiv (a0.length : Int) 64)) * 64)).toNat) (a0.length : Int) >>= fun b8 =>
  z6B n [(a0.take (z0a ((z0a (Int.tdiv (a0.length : Int) 64)) * 64)).toNat),b8] 0 [1779033703,3144134277,1013904242,2773480762,1359893119,2600822924,528734635,1541459225] [1116352408,1899447441,3049323471,3921009573,961987163,1508970993,2453635748,2870763221,3624381080,310598401,607225278,1426881987,1925078388,2162078206,2614888103,3248222580,3835390401,4022224774,264347078,604807628,770255983,1249150122,1555081692,1996064986,2554220882,2821834349,2952996808,3210313671,3336571891,3584528711,113926993,338241895,666307205,773529912,1294757372,1396182291,1695183700,1986661051,2177026350,2456956037,2730485921,2820302411,3259730800,3345764771,3516065817,3600352804,4094571909,275423344,430227734,506948616,659060556,883997877,958139571,1322822218,1537002063,1747873779,1955562222,2024104815,2227730452,2361852424,2428436474,2756734187,3204031479,3329325298] >>= fun b18 =>
  if b18.length = 8 then
  z8R n b18 0 (List.replicate 32 (0 : Int)) >>= fun b36 =>
  if b36.length = 32 then some (strOf b36)
  else none
  else none
  else none
  else none
def z3c : Nat → Str → (List Int) → Option (List Int)
  | 0,_,_ => none
  | n + 1,p0,p1 =>
  if (!(p0 == [])) then
   if within 0 p0.length then
   if within 1 p0.length then
   if within 2 p0.length then
   if within (shr .i64 (ior .i64 (ior .i64 (shl .i64 (z0a (bt p0 0)) 16) (shl .i64 (z0a (bt p0 1)) 8)) (z0a (bt p0 2))) 18) 64 then
   if within (iand .i64 (shr .i64 (ior .i64 (ior .i64 (shl .i64 (z0a (bt p0 0)) 16) (shl .i64 (z0a (bt p0 1)) 8)) (z0a (bt p0 2))) 12) 63) 64 then
   if within (iand .i64 (shr .i64 (ior .i64 (ior .i64 (shl .i64 (z0a (bt p0 0)) 16) (shl .i64 (z0a (bt p0 1)) 8)) (z0a (bt p0 2))) 6) 63) 64 then
   if within (iand .i64 (ior .i64 (ior .i64 (shl .i64 (z0a (bt p0 0)) 16) (shl .i64 (z0a (bt p0 1)) 8)) (z0a (bt p0 2))) 63) 64 then
   if fits ((p1.length + ([(bt ([65,66,67,68,69,70,71,72,73,74,75,76,77,78,79,80,81,82,83,84,85,86,87,88,89,90,97,98,99,100,101,102,103,104,105,106,107,108,109,110,111,112,113,114,115,116,117,118,119,120,121,122,48,49,50,51,52,53,54,55,56,57,45,95] : Str) (shr .i64 (ior .i64 (ior .i64 (shl .i64 (z0a (bt p0 0)) 16) (shl .i64 (z0a (bt p0 1)) 8)) (z0a (bt p0 2))) 18)),(bt ([65,66,67,68,69,70,71,72,73,74,75,76,77,78,79,80,81,82,83,84,85,86,87,88,89,90,97,98,99,100,101,102,103,104,105,106,107,108,109,110,111,112,113,114,115,116,117,118,119,120,121,122,48,49,50,51,52,53,54,55,56,57,45,95] : Str) (iand .i64 (shr .i64 (ior .i64 (ior .i64 (shl .i64 (z0a (bt p0 0)) 16) (shl .i64 (z0a (bt p0 1)) 8)) (z0a (bt p0 2))) 12) 63)),(bt ([65,66,67,68,69,70,71,72,73,74,75,76,77,78,79,80,81,82,83,84,85,86,87,88,89,90,97,98,99,100,101,102,103,104,105,106,107,108,109,110,111,112,113,114,115,116,117,118,119,120,121,122,48,49,50,51,52,53,54,55,56,57,45,95] : Str) (iand .i64 (shr .i64 (ior .i64 (ior .i64 (shl .i64 (z0a (bt p0 0)) 16) (shl .i64 (z0a (bt p0 1)) 8)) (z0a (bt p0 2))) 6) 63)),(bt ([65,66,67,68,69,70,71,72,73,74,75,76,77,78,79,80,81,82,83,84,85,86,87,88,89,90,97,98,99,100,101,102,103,104,105,106,107,108,109,110,111,112,113,114,115,116,117,118,119,120,121,122,48,49,50,51,52,53,54,55,56,57,45,95] : Str) (iand .i64 (ior .i64 (ior .i64 (shl .i64 (z0a (bt p0 0)) 16) (shl .i64 (z0a (bt p0 1)) 8)) (z0a (bt p0 2))) 63))]).length) * 1) then
   if cLo 3 p0.length then z3c n (p0.drop 3) (p1 ++ [(bt ([65,66,67,68,69,70,71,72,73,74,75,76,77,78,79,80,81,82,83,84,85,86,87,88,89,90,97,98,99,100,101,102,103,104,105,106,107,108,109,110,111,112,113,114,115,116,117,118,119,120,121,122,48,49,50,51,52,53,54,55,56,57,45,95] : Str) (shr .i64 (ior .i64 (ior .i64 (shl .i64 (z0a (bt p0 0)) 16) (shl .i64 (z0a (bt p0 1)) 8)) (z0a (bt p0 2))) 18)),(bt ([65,66,67,68,69,70,71,72,73,74,75,76,77,78,79,80,81,82,83,84,85,86,87,88,89,90,97,98,99,100,101,102,103,104,105,106,107,108,109,110,111,112,113,114,115,116,117,118,119,120,121,122,48,49,50,51,52,53,54,55,56,57,45,95] : Str) (iand .i64 (shr .i64 (ior .i64 (ior .i64 (shl .i64 (z0a (bt p0 0)) 16) (shl .i64 (z0a (bt p0 1)) 8)) (z0a (bt p0 2))) 12) 63)),(bt ([65,66,67,68,69,70,71,72,73,74,75,76,77,78,79,80,81,82,83,84,85,86,87,88,89,90,97,98,99,100,101,102,103,104,105,106,107,108,109,110,111,112,113,114,115,116,117,118,119,120,121,122,48,49,50,51,52,53,54,55,56,57,45,95] : Str) (iand .i64 (shr .i64 (ior .i64 (ior .i64 (shl .i64 (z0a (bt p0 0)) 16) (shl .i64 (z0a (bt p0 1)) 8)) (z0a (bt p0 2))) 6) 63)),(bt ([65,66,67,68,69,70,71,72,73,74,75,76,77,78,79,80,81,82,83,84,85,86,87,88,89,90,97,98,99,100,101,102,103,104,105,106,107,108,109,110,111,112,113,114,115,116,117,118,119,120,121,122,48,49,50,51,52,53,54,55,56,57,45,95] : Str) (iand .i64 (ior .i64 (ior .i64 (shl .i64 (z0a (bt p0 0)) 16) (shl .i64 (z0a (bt p0 1)) 8)) (z0a (bt p0 2))) 63))])
   else none
   else none
   else none
   else none
   else none
   else none
   else none
   else none
   else none
  else some p1
def z6v (n : Nat) (a0 : Str) : Option (Str × Int) :=
  if (decide ((a0.length : Int) > 65536)) then some ([],3)
  else
   if ((Int.tmod (a0.length : Int) 3) != 0) then some ([],8)
   else
    if cMk 0 (z0a ((z0a (Int.tdiv (a0.length : Int) 3)) * 4)) 1 then
    z3c n a0 (List.replicate 0 (0 : Int)) >>= fun b15 => some ((strOf b15),0)
    else none
def z6U (n : Nat) (a0 : z0q) : Option (Str × Int) :=
  z4C n >>= fun b2 =>
  if (!(alk (fun y => a0.z4i == y) (ast (fun y => 8 == y) 8 (⟨([49,65,65,76] : Str),6⟩ : z02) (ast (fun y => 7 == y) 7 (⟨([83] : Str),626⟩ : z02) (ast (fun y => 6 == y) 6 (⟨([77] : Str),2⟩ : z02) (ast (fun y => 5 == y) 5 (⟨([48,65] : Str),16⟩ : z02) (ast (fun y => 4 == y) 4 (⟨([65] : Str),32⟩ : z02) (ast (fun y => 3 == y) 3 (⟨([66] : Str),32⟩ : z02) (ast (fun y => 2 == y) 2 (⟨([68] : Str),32⟩ : z02) (ast (fun y => 1 == y) 1 (⟨([69] : Str),32⟩ : z02) ([] : List (Int × z02))))))))))).isSome) then some ([],7)
  else
   if ((a0.zct.length : Int) != ((alk (fun y => a0.z4i == y) (ast (fun y => 8 == y) 8 (⟨([49,65,65,76] : Str),6⟩ : z02) (ast (fun y => 7 == y) 7 (⟨([83] : Str),626⟩ : z02) (ast (fun y => 6 == y) 6 (⟨([77] : Str),2⟩ : z02) (ast (fun y => 5 == y) 5 (⟨([48,65] : Str),16⟩ : z02) (ast (fun y => 4 == y) 4 (⟨([65] : Str),32⟩ : z02) (ast (fun y => 3 == y) 3 (⟨([66] : Str),32⟩ : z02) (ast (fun y => 2 == y) 2 (⟨([68] : Str),32⟩ : z02) (ast (fun y => 1 == y) 1 (⟨([69] : Str),32⟩ : z02) ([] : List (Int × z02))))))))))).getD z02.dft).zcT) then some ([],8)
   else
    z0L n ((alk (fun y => a0.z4i == y) (ast (fun y => 8 == y) 8 (⟨([49,65,65,76] : Str),6⟩ : z02) (ast (fun y => 7 == y) 7 (⟨([83] : Str),626⟩ : z02) (ast (fun y => 6 == y) 6 (⟨([77] : Str),2⟩ : z02) (ast (fun y => 5 == y) 5 (⟨([48,65] : Str),16⟩ : z02) (ast (fun y => 4 == y) 4 (⟨([65] : Str),32⟩ : z02) (ast (fun y => 3 == y) 3 (⟨([66] : Str),32⟩ : z02) (ast (fun y => 2 == y) 2 (⟨([68] : Str),32⟩ : z02) (ast (fun y => 1 == y) 1 (⟨([69] : Str),32⟩ : z02) ([] : List (Int × z02))))))))))).getD z02.dft) >>= fun b6 =>
    strings_Repeat ([0] : Str) b6 >>= fun b8 =>
    if fits (b8.length + a0.zct.length) then
    z6v n (b8 ++ a0.zct) >>= fun b11 =>
    z0L n ((alk (fun y => a0.z4i == y) (ast (fun y => 8 == y) 8 (⟨([49,65,65,76] : Str),6⟩ : z02) (ast (fun y => 7 == y) 7 (⟨([83] : Str),626⟩ : z02) (ast (fun y => 6 == y) 6 (⟨([77] : Str),2⟩ : z02) (ast (fun y => 5 == y) 5 (⟨([48,65] : Str),16⟩ : z02) (ast (fun y => 4 == y) 4 (⟨([65] : Str),32⟩ : z02) (ast (fun y => 3 == y) 3 (⟨([66] : Str),32⟩ : z02) (ast (fun y => 2 == y) 2 (⟨([68] : Str),32⟩ : z02) (ast (fun y => 1 == y) 1 (⟨([69] : Str),32⟩ : z02) ([] : List (Int × z02))))))))))).getD z02.dft) >>= fun b13 =>
    if cLo b13 b11.1.length then
    if fits ((((alk (fun y => a0.z4i == y) (ast (fun y => 8 == y) 8 (⟨([49,65,65,76] : Str),6⟩ : z02) (ast (fun y => 7 == y) 7 (⟨([83] : Str),626⟩ : z02) (ast (fun y => 6 == y) 6 (⟨([77] : Str),2⟩ : z02) (ast (fun y => 5 == y) 5 (⟨([48,65] : Str),16⟩ : z02) (ast (fun y => 4 == y) 4 (⟨([65] : Str),32⟩ : z02) (ast (fun y => 3 == y) 3 (⟨([66] : Str),32⟩ : z02) (ast (fun y => 2 == y) 2 (⟨([68] : Str),32⟩ : z02) (ast (fun y => 1 == y) 1 (⟨([69] : Str),32⟩ : z02) ([] : List (Int × z02))))))))))).getD z02.dft).z3q).length + (b11.1.drop (b13).toNat).length) then some ((((alk (fun y => a0.z4i == y) (ast (fun y => 8 == y) 8 (⟨([49,65,65,76] : Str),6⟩ : z02) (ast (fun y => 7 == y) 7 (⟨([83] : Str),626⟩ : z02) (ast (fun y => 6 == y) 6 (⟨([77] : Str),2⟩ : z02) (ast (fun y => 5 == y) 5 (⟨([48,65] : Str),16⟩ : z02) (ast (fun y => 4 == y) 4 (⟨([65] : Str),32⟩ : z02) (ast (fun y => 3 == y) 3 (⟨([66] : Str),32⟩ : z02) (ast (fun y => 2 == y) 2 (⟨([68] : Str),32⟩ : z02) (ast (fun y => 1 == y) 1 (⟨([69] : Str),32⟩ : z02) ([] : List (Int × z02))))))))))).getD z02.dft).z3q ++ (b11.1.drop (b13).toNat)),0)
    else none
    else none
    else none
def z7b (n : Nat) (a0 : Int) (a1 : Str) : Option Str :=
  z6U n (⟨a0,a1⟩ : z0q) >>= fun b2 => some b2.1
def zaa (n : Nat) (a0 : Str) : Option Str :=
  zhs n a0 >>= fun b2 =>
  z7b n 1 b2 >>= fun b4 => some b4
def zcd (n : Nat) (p0 : (List Str)) (p1 : Str) (p2 : Int) (p3 : z00) : Option (z00 × Str × Int) :=
  za4 n p3 p1 p2 >>= fun b11 =>
  if (b11.2.2 != 0) then some ((⟨0,false,0,[],[],[]⟩ : z00),[],b11.2.2)
  else
   zaa n b11.2.1 >>= fun b14 =>
   zf7 n b11.1 p0 b14 >>= fun b16 =>
   z6m n p2 b16 >>= fun b18 =>
   if (b18.2 != 0) then some ((⟨0,false,0,[],[],[]⟩ : z00),[],b18.2)
   else some (b16,b18.1,0)
def zhq (n : Nat) (a0 : z00) (a1 : (List Str)) (a2 : Str) (a3 : Int) : Option (z00 × Str × Int) :=
  if ((a1.length : Int) == 0) then some ((⟨0,false,0,[],[],[]⟩ : z00),[],2)
  else
   z1p n a1 ([118] : Str) >>= fun b3 =>
   if b3 then some ((⟨0,false,0,[],[],[]⟩ : z00),[],2)
   else
    if (a0.z08 == 5) then
     zdS n >>= fun b7 =>
     zf7 n a0 a1 b7 >>= fun b9 => zcd n a1 a2 a3 b9
    else zcd n a1 a2 a3 a0
def zhw (n : Nat) (a0 : z00) (a1 : Str) : Option (z00 × Bool) :=
  za0 n a0 a1 >>= fun b2 =>
  if (decide (b2 < 0)) then some ((⟨0,false,0,[],[],[]⟩ : z00),false)
  else
   if within b2 a0.z05.length then
   z5G n (rd z00.dft a0.z05 b2) >>= fun b6 => some (b6,true)
   else none
def z7x (n : Nat) (a0 : Str) (a1 : (List z03)) : Option (z0k × Str × Int) :=
  z96 n a0 a1 >>= fun b2 =>
  if (!b2) then some ((⟨[],[],[]⟩ : z0k),[],45)
  else
   z4q n a0 a1 a1 (a1.length : Int) 0 [] >>= fun b20 =>
   z4v n [] >>= fun b26 =>
   z4v n b20.1 >>= fun b28 =>
   zep n b20.2.2 >>= fun b30 =>
   zfe n ([([100] : Str),([116,105,116,108,101] : Str),([102,105,101,108,100,115] : Str)]) [b26,b28,b30] >>= fun b32 =>
   zhq n b32 ([([100] : Str)]) ([83,67,72,77] : Str) 1 >>= fun b34 =>
   if (b34.2.2 != 0) then some ((⟨[],[],[]⟩ : z0k),[],b34.2.2)
   else
    zhw n b34.1 ([100] : Str) >>= fun b37 =>
    z2S b20.2.1 >>= fun b39 => some ((⟨b37.1.z0b,b20.1,b39⟩ : z0k),b34.2.1,0)
def z3b (n : Nat) (a0 : Int) : Option z00 :=some (⟨2,false,a0,[],[],[]⟩ : z00)
def z6o (n : Nat) (a0 : Int) (a1 : Str) (a2 : Int) (a3 : Bool) (a4 : Int) (a5 : Int) : Option Bool :=some ((decide (a0 ≥ a4)) && (decide (a0 ≤ a5)))
def z4E : Nat → Int → (List Int) → Option (List Int)
  | 0,_,_ => none
  | n + 1,p0,p1 =>
  if (decide (p0 < 64)) then
   if within p0 64 then
   if within (bt ([65,66,67,68,69,70,71,72,73,74,75,76,77,78,79,80,81,82,83,84,85,86,87,88,89,90,97,98,99,100,101,102,103,104,105,106,107,108,109,110,111,112,113,114,115,116,117,118,119,120,121,122,48,49,50,51,52,53,54,55,56,57,45,95] : Str) p0) p1.length then
   if p1.length = 256 then
   if within (bt ([65,66,67,68,69,70,71,72,73,74,75,76,77,78,79,80,81,82,83,84,85,86,87,88,89,90,97,98,99,100,101,102,103,104,105,106,107,108,109,110,111,112,113,114,115,116,117,118,119,120,121,122,48,49,50,51,52,53,54,55,56,57,45,95] : Str) p0) p1.length then z4E n (z0a (p0 + 1)) (p1.set (bt ([65,66,67,68,69,70,71,72,73,74,75,76,77,78,79,80,81,82,83,84,85,86,87,88,89,90,97,98,99,100,101,102,103,104,105,106,107,108,109,110,111,112,113,114,115,116,117,118,119,120,121,122,48,49,50,51,52,53,54,55,56,57,45,95] : Str) p0).toNat (w_u8 (z0a (p0 + 1))))
   else none
   else none
   else none
   else none
  else some p1
def z8x (n : Nat) : Option (List Int) :=
  z4E n 0 (List.replicate 256 (0 : Int)) >>= fun b7 =>
  if b7.length = 256 then
  if b7.length = 256 then if b7.length = 256 then some b7 else none
  else none
  else none
def z9f (n : Nat) : Option (List Int) :=
  z8x n >>= fun b2 =>
  if b2.length = 256 then if b2.length = 256 then some b2 else none
  else none
def zd6 (n : Nat) (a0 : Int) : Option (Int × Bool) :=
  z9f n >>= fun b2 =>
  if within a0 b2.length then
  if b2.length = 256 then
  if ((rd 0 b2 a0) == 0) then some (0,false)
  else
   z9f n >>= fun b7 =>
   if within a0 b7.length then
   if b7.length = 256 then some ((z0a ((z0a (rd 0 b7 a0)) - 1)),true)
   else none
   else none
  else none
  else none
def z6K : Nat → Str → Int → Int → Int → Option (Sum Unit Int)
  | 0,_,_,_,_ => none
  | n + 1,p0,p1,p2,p3 =>
  if (decide (p3 < p2)) then
   if within p3 p0.length then
   zd6 n (bt p0 p3) >>= fun b4 =>
   if (!b4.2) then some (.inl ())
   else z6K n p0 (ior .i64 (shl .i64 p1 6) b4.1) p2 (z0a (p3 + 1))
   else none
  else some (.inr p1)
def zbL (n : Nat) (a0 : Str) : Option (Int × Bool) :=
  z6K n a0 0 (a0.length : Int) 0 >>= fun b6 =>
  match b6 with
  | .inl b7 => some (0,false)
  | .inr b8 => some (b8,true)
def z6J : Nat → Str → (List Int) → Option (Sum (List Int) Unit)
  | 0,_,_ => none
  | n + 1,p0,p1 =>
  if (!(p0 == [])) then
   if cLo 4 p0.length then
   zbL n (p0.take 4) >>= fun b7 =>
   if (!b7.2) then some (.inr ())
   else
    if fits ((p1.length + 3) * 1) then
    if cLo 4 p0.length then z6J n (p0.drop 4) (p1 ++ [(w_u8 (shr .i64 b7.1 16)),(w_u8 (shr .i64 b7.1 8)),(w_u8 b7.1)])
    else none
    else none
   else none
  else some (.inl p1)
def zbM (n : Nat) (a0 : Str) : Option (Str × Int) :=
  if (decide ((a0.length : Int) > 131072)) then some ([],3)
  else
   if ((Int.tmod (a0.length : Int) 4) != 0) then some ([],8)
   else
    if cMk 0 (z0a ((z0a (Int.tdiv (a0.length : Int) 4)) * 3)) 1 then
    z6J n a0 (List.replicate 0 (0 : Int)) >>= fun b11 =>
    match b11 with
    | .inl b12 => some ((strOf b12),0)
    | .inr b13 => some ([],4)
    else none
def z18 (n : Nat) (a0 : Str) (a1 : Str) : Option Bool :=
  if (decide ((a0.length : Int) ≥ (a1.length : Int))) then
   if cLo (a1.length : Int) a0.length then some ((a0.take (a1.length : Int).toNat) == a1)
   else none
  else some false
def z2f (n : Nat) (a0 : Str) (a1 : Str) : Option (Str × Bool) :=
  z18 n a0 a1 >>= fun b2 =>
  if (!b2) then some (a0,false)
  else
   if cLo (a1.length : Int) a0.length then some ((a0.drop (a1.length : Int).toNat),true)
   else none
def strings_CutPrefix (n : Nat) (a0 : Str) (a1 : Str) : Option (Str × Bool) :=
  z2f n a0 a1 >>= fun b2 => some (b2.1,b2.2)
def z8A (n : Nat) (a0 : Str) : Option (z0q × Int × Int) :=
  z1S a0 >>= fun b2 =>
  if (!b2.2.2) then some ((⟨0,[]⟩ : z0q),0,7)
  else
   z2r n b2.2.1 >>= fun b5 =>
   if (decide ((a0.length : Int) < b5)) then some ((⟨0,[]⟩ : z0q),0,8)
   else
    z0L n b2.2.1 >>= fun b8 =>
    strings_Repeat ([0] : Str) b8 >>= fun b10 =>
    z0L n b2.2.1 >>= fun b12 =>
    strings_Repeat ([65] : Str) b12 >>= fun b14 =>
    z2r n b2.2.1 >>= fun b16 =>
    if cLH (b2.2.1.z3q.length : Int) b16 a0.length then
    if fits (b14.length + ((a0.take (b16).toNat).drop (b2.2.1.z3q.length : Int).toNat).length) then
    zbM n (b14 ++ ((a0.take (b16).toNat).drop (b2.2.1.z3q.length : Int).toNat)) >>= fun b20 =>
    strings_CutPrefix n b20.1 b10 >>= fun b22 =>
    if ((b20.2 != 0) || (!b22.2)) then some ((⟨0,[]⟩ : z0q),0,4)
    else
     z2r n b2.2.1 >>= fun b25 => some ((⟨b2.1,b22.1⟩ : z0q),b25,0)
    else none
    else none
def zaq (n : Nat) (a0 : Int) (a1 : Str) : Option (Str × Int) :=
  z8A n a1 >>= fun b2 =>
  if (b2.2.2 != 0) then some ([],b2.2.2)
  else
   if (b2.1.z4i != a0) then some ([],7)
   else
    if (b2.2.1 != (a1.length : Int)) then some ([],8)
    else some (b2.1.zct,0)
def z7O (n : Nat) (a0 : z03) (a1 : z00) : Option Bool :=
  z92 n a1 >>= fun b2 =>
  if (!b2) then some false
  else
   if (a0.z08 == 1) then
    if (a1.z08 == 3) then
     z6o n (a1.z0b.length : Int) a0.z0l a0.z08 a0.z0p a0.z0G a0.z15 >>= fun b7 => some b7
    else some false
   else
    if (a0.z08 == 2) then
     if (a1.z08 == 2) then
      z6o n a1.z06 a0.z0l a0.z08 a0.z0p a0.z0G a0.z15 >>= fun b11 => some b11
     else some false
    else
     if (a0.z08 == 3) then
      zaq n 1 a1.z0b >>= fun b14 => some ((a1.z08 == 3) && (b14.2 == 0))
     else
      if (a0.z08 == 4) then some (a1.z08 == 1)
      else some false
def z1L (n : Nat) (a0 : Str) : Option z00 :=some (⟨3,false,0,a0,[],[]⟩ : z00)
def z8F (n : Nat) : Option Bool :=
  z7x n ([80,101,114,115,111,110] : Str) [] >>= fun b2 =>
  z3b n 30 >>= fun b4 =>
  z7O n (⟨([97,103,101] : Str),2,false,0,120⟩ : z03) b4 >>= fun b6 =>
  if b6 then
   z1L n ([51,48] : Str) >>= fun b9 =>
   z7O n (⟨([97,103,101] : Str),2,false,0,120⟩ : z03) b9 >>= fun b11 =>
   if (!b11) then
    z7F n ([97,95,49] : Str) >>= fun b14 =>
    if b14 then
     z7F n ([49,97] : Str) >>= fun b17 => some ((!b17) && (b2.2.2 == 45))
    else some false
   else some false
  else some false
def zku (n : Nat) (a0 : (List Int)) : Option (List Int) :=some a0
def z6r (n : Nat) (a0 : (List Str)) (a1 : (List Int)) (a2 : Int) : Option (Str × Int) :=
  z2q n (a0.length : Int) a1 a2 >>= fun b2 =>
  if within b2.1 a0.length then some ((rd [] a0 b2.1),b2.2)
  else none
def zcH (n : Nat) : Option Unit :=some ()
def z7T (n : Nat) : Option Unit :=some ()
def z6d : Nat → Str → (List Int) → Option (Str × (List Int))
  | 0,_,_ => none
  | n + 1,p0,p1 =>
  if ((Int.tmod (p1.length : Int) 64) != 56) then
   if fits ((p1.length + 1) * 1) then z6d n p0 (p1 ++ [0])
   else none
  else some (p0,p1)
def z4j : Nat → Str → Int → (List Int) → Option (List Int)
  | 0,_,_,_ => none
  | n + 1,p0,p1,p2 =>
  if (decide (p1 ≥ 0)) then
   if nn (z1b p1) then
   if fits ((p2.length + 1) * 1) then z4j n p0 (z0a (p1 - 8)) (p2 ++ [(w_u8 (shr .u64 (z1b ((z1b (p0.length : Int)) * 8)) (z1b p1)))])
   else none
   else none
  else some p2
def zeo (n : Nat) (a0 : Str) : Option Str :=
  if fits (((bytesOf a0).length + 1) * 1) then
  z6d n a0 ((bytesOf a0) ++ [128]) >>= fun b5 =>
  z4j n b5.1 56 b5.2 >>= fun b10 => some (strOf b10)
  else none
def zbP (n : Nat) (a0 : Str) : Option Int :=
  if within 0 a0.length then
  if within 1 a0.length then
  if within 2 a0.length then
  if within 3 a0.length then some (ior .u32 (ior .u32 (ior .u32 (shl .u32 (z0T (bt a0 0)) 24) (shl .u32 (z0T (bt a0 1)) 16)) (shl .u32 (z0T (bt a0 2)) 8)) (z0T (bt a0 3)))
  else none
  else none
  else none
  else none
def z4f : Nat → Str → Int → (List Int) → (List Int) → (List Int) → Option ((List Int) × (List Int) × (List Int))
  | 0,_,_,_,_,_ => none
  | n + 1,p0,p1,p2,p3,p4 =>
  if (decide (p1 < 16)) then
   if cLo (z0a (4 * p1)) p0.length then
   zbP n (p0.drop (z0a (4 * p1)).toNat) >>= fun b4 =>
   if within p1 p4.length then
   if p4.length = 64 then
   if within p1 p4.length then z4f n p0 (z0a (p1 + 1)) p2 p3 (p4.set (p1).toNat b4)
   else none
   else none
   else none
   else none
  else some (p2,p3,p4)
def z2N (n : Nat) (a0 : Int) (a1 : Int) : Option Int :=
  if nn (z1b a1) then
  if nn (z1b (z0a (32 - a1))) then some (ior .u32 (shr .u32 a0 (z1b a1)) (shl .u32 a0 (z1b (z0a (32 - a1)))))
  else none
  else none
def z4g : Nat → Int → (List Int) → (List Int) → (List Int) → Option ((List Int) × (List Int) × (List Int))
  | 0,_,_,_,_ => none
  | n + 1,p0,p1,p2,p3 =>
  if (decide (p0 < 64)) then
   if within (z0a (p0 - 15)) p3.length then
   if p3.length = 64 then
   if within (z0a (p0 - 15)) p3.length then
   if within (z0a (p0 - 2)) p3.length then
   if p3.length = 64 then
   if within (z0a (p0 - 2)) p3.length then
   z2N n (rd 0 p3 (z0a (p0 - 15))) 7 >>= fun b18 =>
   z2N n (rd 0 p3 (z0a (p0 - 15))) 18 >>= fun b20 =>
   z2N n (rd 0 p3 (z0a (p0 - 2))) 17 >>= fun b22 =>
   z2N n (rd 0 p3 (z0a (p0 - 2))) 19 >>= fun b24 =>
   if within (z0a (p0 - 7)) p3.length then
   if p3.length = 64 then
   if within (z0a (p0 - 7)) p3.length then
   if within (z0a (p0 - 16)) p3.length then
   if p3.length = 64 then
   if within (z0a (p0 - 16)) p3.length then
   if within p0 p3.length then
   if p3.length = 64 then
   if within p0 p3.length then z4g n (z0a (p0 + 1)) p1 p2 (p3.set (p0).toNat (z0T ((z0T ((z0T ((ixor .u32 (ixor .u32 b22 b24) (shr .u32 (rd 0 p3 (z0a (p0 - 2))) 10)) + (rd 0 p3 (z0a (p0 - 7))))) + (ixor .u32 (ixor .u32 b18 b20) (shr .u32 (rd 0 p3 (z0a (p0 - 15))) 3)))) + (rd 0 p3 (z0a (p0 - 16))))))
   else none
   else none
   else none
   else none
   else none
   else none
   else none
   else none
   else none
   else none
   else none
   else none
   else none
   else none
   else none
  else some (p1,p2,p3)
def z4e : Nat → Int → (List Int) → (List Int) → (List Int) → (List Int) → Option ((List Int) × (List Int))
  | 0,_,_,_,_,_ => none
  | n + 1,p0,p1,p2,p3,p4 =>
  if (decide (p0 < 64)) then
   if within 0 p4.length then
   if p4.length = 8 then
   if within 0 p4.length then
   if within 4 p4.length then
   if p4.length = 8 then
   if within 4 p4.length then
   if within 7 p4.length then
   if p4.length = 8 then
   if within 7 p4.length then
   z2N n (rd 0 p4 4) 6 >>= fun b49 =>
   z2N n (rd 0 p4 4) 11 >>= fun b51 =>
   z2N n (rd 0 p4 4) 25 >>= fun b53 =>
   if within 5 p4.length then
   if p4.length = 8 then
   if within 5 p4.length then
   if within 6 p4.length then
   if p4.length = 8 then
   if within 6 p4.length then
   if within p0 p2.length then
   if p2.length = 64 then
   if within p0 p2.length then
   if within p0 p3.length then
   if p3.length = 64 then
   if within p0 p3.length then
   z2N n (rd 0 p4 0) 2 >>= fun b67 =>
   z2N n (rd 0 p4 0) 13 >>= fun b69 =>
   z2N n (rd 0 p4 0) 22 >>= fun b71 =>
   if within 1 p4.length then
   if p4.length = 8 then
   if within 1 p4.length then
   if within 2 p4.length then
   if p4.length = 8 then
   if within 2 p4.length then
   if within 1 p4.length then
   if p4.length = 8 then
   if within 1 p4.length then
   if within 2 p4.length then
   if p4.length = 8 then
   if within 2 p4.length then
   if within 1 p4.length then
   if p4.length = 8 then
   if within 1 p4.length then
   if within 2 p4.length then
   if p4.length = 8 then
   if within 2 p4.length then
   if within 3 p4.length then
   if p4.length = 8 then
   if within 3 p4.length then
   if within 5 p4.length then
   if p4.length = 8 then
   if within 5 p4.length then
   if within 6 p4.length then
   if p4.length = 8 then
   if within 6 p4.length then
   if p4.length = 8 then z4e n (z0a (p0 + 1)) p1 p2 p3 [(z0T ((z0T ((z0T ((z0T ((z0T ((rd 0 p4 7) + (ixor .u32 (ixor .u32 b49 b51) b53))) + (ixor .u32 (iand .u32 (rd 0 p4 4) (rd 0 p4 5)) (iand .u32 (ixor .u32 4294967295 (rd 0 p4 4)) (rd 0 p4 6))))) + (rd 0 p2 p0))) + (rd 0 p3 p0))) + (z0T ((ixor .u32 (ixor .u32 b67 b69) b71) + (ixor .u32 (ixor .u32 (iand .u32 (rd 0 p4 0) (rd 0 p4 1)) (iand .u32 (rd 0 p4 0) (rd 0 p4 2))) (iand .u32 (rd 0 p4 1) (rd 0 p4 2))))))),(rd 0 p4 0),(rd 0 p4 1),(rd 0 p4 2),(z0T ((rd 0 p4 3) + (z0T ((z0T ((z0T ((z0T ((rd 0 p4 7) + (ixor .u32 (ixor .u32 b49 b51) b53))) + (ixor .u32 (iand .u32 (rd 0 p4 4) (rd 0 p4 5)) (iand .u32 (ixor .u32 4294967295 (rd 0 p4 4)) (rd 0 p4 6))))) + (rd 0 p2 p0))) + (rd 0 p3 p0))))),(rd 0 p4 4),(rd 0 p4 5),(rd 0 p4 6)]
   else none
   else none
   else none
   else none
   else none
   else none
   else none
   else none
   else none
   else none
   else none
   else none
   else none
   else none
   else none
   else none
   else none
   else none
   else none
   else none
   else none
   else none
   else none
   else none
   else none
   else none
   else none
   else none
   else none
   else none
   else none
   else none
   else none
   else none
   else none
   else none
   else none
   else none
   else none
   else none
   else none
   else none
   else none
   else none
   else none
   else none
   else none
   else none
   else none
  else some (p1,p4)
def z4d : Nat → Int → (List Int) → (List Int) → Option (List Int)
  | 0,_,_,_ => none
  | n + 1,p0,p1,p2 =>
  if (decide (p0 < 8)) then
   if within p0 p2.length then
   if p2.length = 8 then
   if within p0 p2.length then
   if within p0 p1.length then
   if p1.length = 8 then
   if within p0 p1.length then
   if within p0 p2.length then
   if p2.length = 8 then
   if within p0 p2.length then z4d n (z0a (p0 + 1)) p1 (p2.set (p0).toNat (z0T ((rd 0 p2 p0) + (rd 0 p1 p0))))
   else none
   else none
   else none
   else none
   else none
   else none
   else none
   else none
   else none
  else some p2
def zak (n : Nat) (a0 : (List Int)) (a1 : (List Int)) (a2 : Str) : Option (List Int) :=
  z4f n a2 0 a0 a1 (List.replicate 64 (0 : Int)) >>= fun b9 =>
  z4g n 16 b9.1 b9.2.1 b9.2.2 >>= fun b35 =>
  if b35.1.length = 8 then
  if b35.1.length = 8 then
  z4e n 0 b35.1 b35.2.1 b35.2.2 b35.1 >>= fun b101 =>
  z4d n 0 b101.1 b101.2 >>= fun b113 =>
  if b113.length = 8 then
  if b113.length = 8 then if b113.length = 8 then some b113 else none
  else none
  else none
  else none
  else none
def z6c : Nat → Str → Int → (List Int) → Option (List Int)
  | 0,_,_,_ => none
  | n + 1,p0,p1,p2 =>
  if (decide (p1 < (p0.length : Int))) then
   if p2.length = 8 then
   if cLH p1 (z0a (p1 + 64)) p0.length then
   zak n p2 [1116352408,1899447441,3049323471,3921009573,961987163,1508970993,2453635748,2870763221,3624381080,310598401,607225278,1426881987,1925078388,2162078206,2614888103,3248222580,3835390401,4022224774,264347078,604807628,770255983,1249150122,1555081692,1996064986,2554220882,2821834349,2952996808,3210313671,3336571891,3584528711,113926993,338241895,666307205,773529912,1294757372,1396182291,1695183700,1986661051,2177026350,2456956037,2730485921,2820302411,3259730800,3345764771,3516065817,3600352804,4094571909,275423344,430227734,506948616,659060556,883997877,958139571,1322822218,1537002063,1747873779,1955562222,2024104815,2227730452,2361852424,2428436474,2756734187,3204031479,3329325298] ((p0.take (z0a (p1 + 64)).toNat).drop (p1).toNat) >>= fun b11 =>
   if b11.length = 8 then
   if p2.length = 8 then z6c n p0 (z0a (p1 + 64)) b11
   else none
   else none
   else none
   else none
  else some p2
def z6a : Nat → (List Int) → Int → (List Int) → Option (List Int)
  | 0,_,_,_ => none
  | n + 1,p0,p1,p2 =>
  if (decide (p1 < 8)) then
   if within p1 p0.length then
   if p0.length = 8 then
   if fits ((p2.length + 4) * 1) then z6a n p0 (z0a (p1 + 1)) (p2 ++ [(w_u8 (shr .u32 (rd 0 p0 p1) 24)),(w_u8 (shr .u32 (rd 0 p0 p1) 16)),(w_u8 (shr .u32 (rd 0 p0 p1) 8)),(w_u8 (rd 0 p0 p1))])
   else none
   else none
   else none
  else some p2
def zcv (n : Nat) (a0 : Str) : Option Str :=
  zcH n >>= fun b2 =>
  z7T n >>= fun b4 =>
  zeo n a0 >>= fun b6 =>
  z6c n b6 0 [1779033703,3144134277,1013904242,2773480762,1359893119,2600822924,528734635,1541459225] >>= fun b15 =>
  if b15.length = 8 then
  z6a n b15 0 [] >>= fun b22 => some (strOf b22)
  else none
def zec (n : Nat) (a0 : Int) : Option (Str × Bool) :=
  if ((decide (a0 < 1)) || (decide (a0 > 8))) then some ([],false)
  else
   if within a0 (([[],([69] : Str),([68] : Str),([66] : Str),([65] : Str),([48,65] : Str),([77] : Str),([83] : Str),([49,65,65,76] : Str)]).length) then some ((rd [] ([[],([69] : Str),([68] : Str),([66] : Str),([65] : Str),([48,65] : Str),([77] : Str),([83] : Str),([49,65,65,76] : Str)]) a0),true)
   else none
def zeG (n : Nat) (a0 : Int) : Option Int :=
  if ((decide (a0 < 1)) || (decide (a0 > 8))) then some 0
  else
   if within a0 9 then some (rd 0 [0,32,32,32,32,16,2,626,6] a0)
   else none
def zbQ (n : Nat) (a0 : Int) : Option Int :=
  zeG n a0 >>= fun b2 => some (Int.tmod (z0a (3 - (Int.tmod b2 3))) 3)
def z2T : Nat → Str → Int → (List Int) → Option (List Int)
  | 0,_,_,_ => none
  | n + 1,p0,p1,p2 =>
  if (decide (p1 < (p0.length : Int))) then
   if within p1 p0.length then
   if within (z0a (p1 + 1)) p0.length then
   if within (z0a (p1 + 2)) p0.length then
   if within (shr .i64 (ior .i64 (ior .i64 (shl .i64 (z0a (bt p0 p1)) 16) (shl .i64 (z0a (bt p0 (z0a (p1 + 1)))) 8)) (z0a (bt p0 (z0a (p1 + 2))))) 18) 64 then
   if within (iand .i64 (shr .i64 (ior .i64 (ior .i64 (shl .i64 (z0a (bt p0 p1)) 16) (shl .i64 (z0a (bt p0 (z0a (p1 + 1)))) 8)) (z0a (bt p0 (z0a (p1 + 2))))) 12) 63) 64 then
   if within (iand .i64 (shr .i64 (ior .i64 (ior .i64 (shl .i64 (z0a (bt p0 p1)) 16) (shl .i64 (z0a (bt p0 (z0a (p1 + 1)))) 8)) (z0a (bt p0 (z0a (p1 + 2))))) 6) 63) 64 then
   if within (iand .i64 (ior .i64 (ior .i64 (shl .i64 (z0a (bt p0 p1)) 16) (shl .i64 (z0a (bt p0 (z0a (p1 + 1)))) 8)) (z0a (bt p0 (z0a (p1 + 2))))) 63) 64 then
   if fits ((p2.length + ([(bt ([65,66,67,68,69,70,71,72,73,74,75,76,77,78,79,80,81,82,83,84,85,86,87,88,89,90,97,98,99,100,101,102,103,104,105,106,107,108,109,110,111,112,113,114,115,116,117,118,119,120,121,122,48,49,50,51,52,53,54,55,56,57,45,95] : Str) (shr .i64 (ior .i64 (ior .i64 (shl .i64 (z0a (bt p0 p1)) 16) (shl .i64 (z0a (bt p0 (z0a (p1 + 1)))) 8)) (z0a (bt p0 (z0a (p1 + 2))))) 18)),(bt ([65,66,67,68,69,70,71,72,73,74,75,76,77,78,79,80,81,82,83,84,85,86,87,88,89,90,97,98,99,100,101,102,103,104,105,106,107,108,109,110,111,112,113,114,115,116,117,118,119,120,121,122,48,49,50,51,52,53,54,55,56,57,45,95] : Str) (iand .i64 (shr .i64 (ior .i64 (ior .i64 (shl .i64 (z0a (bt p0 p1)) 16) (shl .i64 (z0a (bt p0 (z0a (p1 + 1)))) 8)) (z0a (bt p0 (z0a (p1 + 2))))) 12) 63)),(bt ([65,66,67,68,69,70,71,72,73,74,75,76,77,78,79,80,81,82,83,84,85,86,87,88,89,90,97,98,99,100,101,102,103,104,105,106,107,108,109,110,111,112,113,114,115,116,117,118,119,120,121,122,48,49,50,51,52,53,54,55,56,57,45,95] : Str) (iand .i64 (shr .i64 (ior .i64 (ior .i64 (shl .i64 (z0a (bt p0 p1)) 16) (shl .i64 (z0a (bt p0 (z0a (p1 + 1)))) 8)) (z0a (bt p0 (z0a (p1 + 2))))) 6) 63)),(bt ([65,66,67,68,69,70,71,72,73,74,75,76,77,78,79,80,81,82,83,84,85,86,87,88,89,90,97,98,99,100,101,102,103,104,105,106,107,108,109,110,111,112,113,114,115,116,117,118,119,120,121,122,48,49,50,51,52,53,54,55,56,57,45,95] : Str) (iand .i64 (ior .i64 (ior .i64 (shl .i64 (z0a (bt p0 p1)) 16) (shl .i64 (z0a (bt p0 (z0a (p1 + 1)))) 8)) (z0a (bt p0 (z0a (p1 + 2))))) 63))]).length) * 1) then z2T n p0 (z0a (p1 + 3)) (p2 ++ [(bt ([65,66,67,68,69,70,71,72,73,74,75,76,77,78,79,80,81,82,83,84,85,86,87,88,89,90,97,98,99,100,101,102,103,104,105,106,107,108,109,110,111,112,113,114,115,116,117,118,119,120,121,122,48,49,50,51,52,53,54,55,56,57,45,95] : Str) (shr .i64 (ior .i64 (ior .i64 (shl .i64 (z0a (bt p0 p1)) 16) (shl .i64 (z0a (bt p0 (z0a (p1 + 1)))) 8)) (z0a (bt p0 (z0a (p1 + 2))))) 18)),(bt ([65,66,67,68,69,70,71,72,73,74,75,76,77,78,79,80,81,82,83,84,85,86,87,88,89,90,97,98,99,100,101,102,103,104,105,106,107,108,109,110,111,112,113,114,115,116,117,118,119,120,121,122,48,49,50,51,52,53,54,55,56,57,45,95] : Str) (iand .i64 (shr .i64 (ior .i64 (ior .i64 (shl .i64 (z0a (bt p0 p1)) 16) (shl .i64 (z0a (bt p0 (z0a (p1 + 1)))) 8)) (z0a (bt p0 (z0a (p1 + 2))))) 12) 63)),(bt ([65,66,67,68,69,70,71,72,73,74,75,76,77,78,79,80,81,82,83,84,85,86,87,88,89,90,97,98,99,100,101,102,103,104,105,106,107,108,109,110,111,112,113,114,115,116,117,118,119,120,121,122,48,49,50,51,52,53,54,55,56,57,45,95] : Str) (iand .i64 (shr .i64 (ior .i64 (ior .i64 (shl .i64 (z0a (bt p0 p1)) 16) (shl .i64 (z0a (bt p0 (z0a (p1 + 1)))) 8)) (z0a (bt p0 (z0a (p1 + 2))))) 6) 63)),(bt ([65,66,67,68,69,70,71,72,73,74,75,76,77,78,79,80,81,82,83,84,85,86,87,88,89,90,97,98,99,100,101,102,103,104,105,106,107,108,109,110,111,112,113,114,115,116,117,118,119,120,121,122,48,49,50,51,52,53,54,55,56,57,45,95] : Str) (iand .i64 (ior .i64 (ior .i64 (shl .i64 (z0a (bt p0 p1)) 16) (shl .i64 (z0a (bt p0 (z0a (p1 + 1)))) 8)) (z0a (bt p0 (z0a (p1 + 2))))) 63))])
   else none
   else none
   else none
   else none
   else none
   else none
   else none
   else none
  else some p2
def z8W (n : Nat) (a0 : Str) : Option (Str × Int) :=
  if (decide ((a0.length : Int) > 65536)) then some ([],3)
  else
   if ((Int.tmod (a0.length : Int) 3) != 0) then some ([],8)
   else
    z2T n a0 0 [] >>= fun b13 => some ((strOf b13),0)
def zaW (n : Nat) (a0 : z0q) : Option (Str × Int) :=
  zec n a0.z4i >>= fun b2 =>
  if (!b2.2) then some ([],7)
  else
   zeG n a0.z4i >>= fun b5 =>
   if ((a0.zct.length : Int) != b5) then some ([],8)
   else
    zbQ n a0.z4i >>= fun b8 =>
    if cLo b8 2 then
    if fits ((([0,0] : Str).take (b8).toNat).length + a0.zct.length) then
    z8W n ((([0,0] : Str).take (b8).toNat) ++ a0.zct) >>= fun b12 =>
    if cLo b8 b12.1.length then
    if fits (b2.1.length + (b12.1.drop (b8).toNat).length) then some ((b2.1 ++ (b12.1.drop (b8).toNat)),0)
    else none
    else none
    else none
    else none
def zbT (n : Nat) (a0 : Int) (a1 : Str) : Option Str :=
  zaW n (⟨a0,a1⟩ : z0q) >>= fun b2 => some b2.1
def z7z (n : Nat) (a0 : Str) : Option Str :=
  zcv n a0 >>= fun b2 =>
  zbT n 1 b2 >>= fun b4 => some b4
def z5U (n : Nat) (a0 : (List Int)) (a1 : Int) : Option (Str × Int) :=
  z6r n ([([97] : Str),([98] : Str),([99] : Str),([100] : Str),([101] : Str),([102] : Str),([103] : Str),([104] : Str)]) a0 a1 >>= fun b2 =>
  z7z n b2.1 >>= fun b4 => some (b4,b2.2)
def zbX (n : Nat) (a0 : (List Int)) (a1 : Int) : Option (z00 × Int) :=
  z2q n 4 a0 a1 >>= fun b2 =>
  if (b2.1 == 0) then
   z6r n ([([77,105,108,108] : Str),([70,111,114,100] : Str),[],([66,114,105,100,103,101,32,97,116,32,116,104,101,32,109,105,108,108] : Str)]) a0 b2.2 >>= fun b5 =>
   z1L n b5.1 >>= fun b7 => some (b7,b5.2)
  else
   if (b2.1 == 1) then
    z2q n 2 a0 b2.2 >>= fun b10 => some ((⟨1,(b10.1 == 1),0,[],[],[]⟩ : z00),b10.2)
   else
    if (b2.1 == 2) then
     z5U n a0 b2.2 >>= fun b13 =>
     z1L n b13.1 >>= fun b15 => some (b15,b13.2)
    else
     z2q n 120 a0 b2.2 >>= fun b17 =>
     z3b n (z0a (b17.1 - 5)) >>= fun b19 => some (b19,b17.2)
def zej (n : Nat) (a0 : (List Int)) (a1 : Int) : Option (Str × Int) :=
  z2q n 20 a0 a1 >>= fun b2 =>
  if fits (4 + (strOf [(w_u8 b2.1)]).length) then
  zcv n (([115,97,108,116] : Str) ++ (strOf [(w_u8 b2.1)])) >>= fun b5 =>
  if cLo 16 b5.length then some ((b5.take 16),b2.2)
  else none
  else none
def z1K : Nat → Int → (List Int) → Int → (List z04) → Option ((List Int) × Int × (List z04))
  | 0,_,_,_,_ => none
  | n + 1,p0,p1,p2,p3 =>
  if (decide (p0 < (([([97,103,101] : Str),([110,97,109,101] : Str),([97,100,117,108,116] : Str),([105,100] : Str),([114,97,110,107] : Str)]).length : Int))) then
   if within p0 (([([97,103,101] : Str),([110,97,109,101] : Str),([97,100,117,108,116] : Str),([105,100] : Str),([114,97,110,107] : Str)]).length) then
   z2q n 3 p1 p2 >>= fun b4 =>
   if (decide (b4.1 > 0)) then
    zbX n p1 b4.2 >>= fun b7 =>
    zej n p1 b7.2 >>= fun b9 =>
    if fits ((p3.length + ([(⟨(rd [] ([([97,103,101] : Str),([110,97,109,101] : Str),([97,100,117,108,116] : Str),([105,100] : Str),([114,97,110,107] : Str)]) p0),⟨b7.1.z08,b7.1.z0c,b7.1.z06,b7.1.z0b,b7.1.z07,b7.1.z05⟩,b9.1⟩ : z04)]).length) * 120) then z1K n (z0a (p0 + 1)) p1 b9.2 (p3 ++ [(⟨(rd [] ([([97,103,101] : Str),([110,97,109,101] : Str),([97,100,117,108,116] : Str),([105,100] : Str),([114,97,110,107] : Str)]) p0),⟨b7.1.z08,b7.1.z0c,b7.1.z06,b7.1.z0b,b7.1.z07,b7.1.z05⟩,b9.1⟩ : z04)])
    else none
   else z1K n (z0a (p0 + 1)) p1 b4.2 p3
   else none
  else some (p1,p2,p3)
def z5J (n : Nat) (a0 : (List Int)) (a1 : Int) : Option ((List z04) × (List Int) × Int) :=
  z1K n 0 a0 a1 [] >>= fun b12 => some (b12.2.2,b12.1,b12.2.1)
def z4h : Nat → (List z04) → Int → Int → (List z03) → Option (List z03)
  | 0,_,_,_,_ => none
  | n + 1,p0,p1,p2,p3 =>
  if (decide (p2 < p1)) then
   if within p2 p0.length then
   if ((rd z04.dft p0 p2).z0F.z08 == 2) then
    if fits ((p3.length + 1) * 48) then z4h n p0 p1 (z0a (p2 + 1)) (p3 ++ [(⟨(rd z04.dft p0 p2).z0l,2,false,(-1000),1000⟩ : z03)])
    else none
   else
    if ((rd z04.dft p0 p2).z0F.z08 == 1) then
     if fits ((p3.length + 1) * 48) then z4h n p0 p1 (z0a (p2 + 1)) (p3 ++ [(⟨(rd z04.dft p0 p2).z0l,4,false,0,0⟩ : z03)])
     else none
    else
     if fits ((p3.length + 1) * 48) then z4h n p0 p1 (z0a (p2 + 1)) (p3 ++ [(⟨(rd z04.dft p0 p2).z0l,1,false,0,100⟩ : z03)])
     else none
   else none
  else some p3
def z9x : Nat → Str → Int → Option (Sum Unit Unit)
  | 0,_,_ => none
  | n + 1,p0,p1 =>
  if (decide (p1 < (p0.length : Int))) then
   if within p1 p0.length then
   if (!((((decide ((bt p0 p1) ≥ 97)) && (decide ((bt p0 p1) ≤ 122))) || ((decide ((bt p0 p1) ≥ 48)) && (decide ((bt p0 p1) ≤ 57)))) || ((bt p0 p1) == 95))) then some (.inr ())
   else z9x n p0 (z0a (p1 + 1))
   else none
  else some (.inl ())
def zbY (n : Nat) (a0 : Str) : Option Bool :=
  if ((decide ((a0.length : Int) < 1)) || (decide ((a0.length : Int) > 32))) then some false
  else
   if within 0 a0.length then
   if (decide ((bt a0 0) < 97)) then some false
   else
    if within 0 a0.length then
    if (decide ((bt a0 0) > 122)) then some false
    else
     z9x n a0 0 >>= fun b9 =>
     match b9 with
     | .inl b10 => some true
     | .inr b11 => some false
    else none
   else none
def z4Q : Nat → (List z03) → (List z03) → Int → Int → Int → Int → z03 → Option (Sum Unit ((List z03) × (List z03) × Int × Int × z03))
  | 0,_,_,_,_,_,_,_ => none
  | n + 1,p0,p1,p2,p3,p4,p5,p6 =>
  if (decide (p5 < p4)) then
   if within p5 p0.length then
   if ((rd z03.dft p0 p5).z0l == p6.z0l) then some (.inl ())
   else z4Q n p0 p1 p2 p3 p4 (z0a (p5 + 1)) p6
   else none
  else some (.inr (p0,p1,p2,p3,p6))
def z2K : Nat → (List z03) → (List z03) → Int → Int → Option (Sum Unit Unit)
  | 0,_,_,_,_ => none
  | n + 1,p0,p1,p2,p3 =>
  if (decide (p3 < p2)) then
   if within p3 p1.length then
   zbY n ((rd z03.dft p1 p3).z0l) >>= fun b7 =>
   if (!b7) then some (.inl ())
   else
    z4Q n p0 p1 p2 p3 p3 0 (rd z03.dft p1 p3) >>= fun b12 =>
    match b12 with
    | .inl b13 => some (.inl ())
    | .inr b14 =>
     if (b14.2.2.2.2.z08 == 1) then
      if (((decide (b14.2.2.2.2.z0G < 0)) || (decide (b14.2.2.2.2.z0G > b14.2.2.2.2.z15))) || (decide (b14.2.2.2.2.z15 > 65536))) then some (.inl ())
      else z2K n b14.1 b14.2.1 b14.2.2.1 (z0a (b14.2.2.2.1 + 1))
     else
      if (b14.2.2.2.2.z08 == 2) then
       if (((decide (b14.2.2.2.2.z0G < (-1099511627776))) || (decide (b14.2.2.2.2.z0G > b14.2.2.2.2.z15))) || (decide (b14.2.2.2.2.z15 > 1099511627776))) then some (.inl ())
       else z2K n b14.1 b14.2.1 b14.2.2.1 (z0a (b14.2.2.2.1 + 1))
      else
       if (b14.2.2.2.2.z08 == 3) then
        if ((b14.2.2.2.2.z0G != 0) || (b14.2.2.2.2.z15 != 0)) then some (.inl ())
        else z2K n b14.1 b14.2.1 b14.2.2.1 (z0a (b14.2.2.2.1 + 1))
       else
        if (b14.2.2.2.2.z08 == 4) then
         if ((b14.2.2.2.2.z0G != 0) || (b14.2.2.2.2.z15 != 0)) then some (.inl ())
         else z2K n b14.1 b14.2.1 b14.2.2.1 (z0a (b14.2.2.2.1 + 1))
        else some (.inl ())
   else none
  else some (.inr ())
def zbU (n : Nat) (a0 : Str) (a1 : (List z03)) : Option Bool :=
  zbY n a0 >>= fun b2 =>
  if ((!b2) || (decide ((a1.length : Int) > 32))) then some false
  else
   z2K n a1 a1 (a1.length : Int) 0 >>= fun b23 =>
   match b23 with
   | .inl b24 => some false
   | .inr b25 => some true
def zcp (n : Nat) (a0 : Bool) : Option z00 :=some (⟨1,a0,0,[],[],[]⟩ : z00)
mutual
def z4V : Nat → (List z00) → Int → Int → Int → Bool → Int → Str → (List Str) → (List z00) → Option (Int × Bool × Int × Str × (List Str) × (List z00))
  | 0,_,_,_,_,_,_,_,_,_ => none
  | n + 1,p0,p1,p2,p3,p4,p5,p6,p7,p8 =>
  if (decide (p2 < p1)) then
   if within p2 p0.length then
   z2V n (rd z00.dft p0 p2) >>= fun b5 =>
   if fits ((p8.length + 1) * 88) then z4V n p0 p1 (z0a (p2 + 1)) p3 p4 p5 p6 p7 (p8 ++ [b5])
   else none
   else none
  else some (p3,p4,p5,p6,p7,p8)
def z2V : Nat → z00 → Option z00
  | 0,_ => none
  | n + 1,a0 =>
  if fits (a0.z07.length * 16) then
  z4V n a0.z05 (a0.z05.length : Int) 0 a0.z08 a0.z0c a0.z06 a0.z0b a0.z07 [] >>= fun b8 => some (⟨b8.1,b8.2.1,b8.2.2.1,b8.2.2.2.1,b8.2.2.2.2.1,b8.2.2.2.2.2⟩ : z00)
  else none
end
def zcO (n : Nat) (a0 : (List Str)) (a1 : (List z00)) : Option z00 :=
  z2V n (⟨5,false,0,[],a0,a1⟩ : z00) >>= fun b2 => some b2
def z3D : Nat → Int → Int → (List z03) → Str → Str → (List z00) → Option ((List z03) × Str × Str × (List z00))
  | 0,_,_,_,_,_,_ => none
  | n + 1,p0,p1,p2,p3,p4,p5 =>
  if (decide (p1 < p0)) then
   if within p1 p2.length then
   if within p1 p2.length then
   z1L n ((rd z03.dft p2 p1).z0l) >>= fun b5 =>
   z3b n ((rd z03.dft p2 p1).z08) >>= fun b7 =>
   zcp n ((rd z03.dft p2 p1).z0p) >>= fun b9 =>
   z3b n ((rd z03.dft p2 p1).z0G) >>= fun b11 =>
   z3b n ((rd z03.dft p2 p1).z15) >>= fun b13 =>
   zcO n ([([110,97,109,101] : Str),([107,105,110,100] : Str),([114,101,113,117,105,114,101,100] : Str),([108,101,97,115,116] : Str),([109,111,115,116] : Str)]) [b5,b7,b9,b11,b13] >>= fun b15 =>
   if fits ((p5.length + 1) * 88) then z3D n p0 (z0a (p1 + 1)) p2 p3 p4 (p5 ++ [b15])
   else none
   else none
   else none
  else some (p2,p3,p4,p5)
def zbV (n : Nat) (a0 : (List z00)) : Option z00 :=
  z2V n (⟨4,false,0,[],[],a0⟩ : z00) >>= fun b2 => some b2
def zaH (n : Nat) (a0 : Str) (a1 : Str) (a2 : (List z03)) : Option (z00 × (List z03)) :=
  z3D n (a2.length : Int) 0 a2 a0 a1 [] >>= fun b18 =>
  z1L n b18.2.1 >>= fun b24 =>
  z1L n b18.2.2.1 >>= fun b26 =>
  zbV n b18.2.2.2 >>= fun b28 =>
  zcO n ([([100] : Str),([116,105,116,108,101] : Str),([102,105,101,108,100,115] : Str)]) [b24,b26,b28] >>= fun b30 => some (b30,b18.1)
def z6e : Nat → (List Str) → Str → Int → (List Str) → Int → Int → z00 → Option (Sum Unit ((List Str) × Str × Int × z00))
  | 0,_,_,_,_,_,_,_ => none
  | n + 1,p0,p1,p2,p3,p4,p5,p6 =>
  if (decide (p5 < p4)) then
   if within p5 p3.length then
   if ((rd [] p3 p5) == ([118] : Str)) then some (.inl ())
   else z6e n p0 p1 p2 p3 p4 (z0a (p5 + 1)) p6
   else none
  else some (.inr (p0,p1,p2,p6))
def z5i : Nat → Int → z0g → Option (Sum Unit z0g)
  | 0,_,_ => none
  | n + 1,p0,p1 =>
  if (decide (p0 < 4)) then
   if within p0 p1.z0z.length then
   if (decide ((bt p1.z0z p0) < 65)) then some (.inl ())
   else
    if within p0 p1.z0z.length then
    if (decide ((bt p1.z0z p0) > 90)) then some (.inl ())
    else z5i n (z0a (p0 + 1)) p1
    else none
   else none
  else some (.inr p1)
def z8H (n : Nat) (a0 : z0g) : Option Bool :=
  if ((a0.z0z.length : Int) != 4) then some false
  else
   z5i n 0 a0 >>= fun b7 =>
   match b7 with
   | .inl b8 => some false
   | .inr b9 => some ((((((((decide (b9.z2s ≥ 0)) && (decide (b9.z2s ≤ 15))) && (decide (b9.z2t ≥ 0))) && (decide (b9.z2t ≤ 15))) && (decide (b9.z3G ≥ 1))) && (decide (b9.z3G ≤ 3))) && (decide (b9.z5W ≥ 0))) && (decide (b9.z5W < 16777216)))
def zc6 (n : Nat) : Option Str :=
  strings_Repeat ([35] : Str) 44 >>= fun b2 => some b2
def za7 (n : Nat) (a0 : Str) : Option Bool :=
  if (decide ((a0.length : Int) ≤ 65536)) then
   z1i n a0 >>= fun b3 => some b3
  else some false
def z4n : Nat → Int → (List Str) → Int → Int → z00 → (List (Str × Bool)) → Option (Sum Unit (Int × z00))
  | 0,_,_,_,_,_,_ => none
  | n + 1,p0,p1,p2,p3,p4,p5 =>
  if (decide (p3 < p2)) then
   if within p3 p1.length then
   za7 n (rd [] p1 p3) >>= fun b8 =>
   if (!b8) then some (.inl ())
   else
    if ((alk (fun y => (rd [] p1 p3) == y) p5).getD false) then some (.inl ())
    else z4n n p0 p1 p2 (z0a (p3 + 1)) p4 (ast (fun y => (rd [] p1 p3) == y) (rd [] p1 p3) true p5)
   else none
  else some (.inr (p0,p4))
mutual
def z4m : Nat → Int → (List z00) → Int → Int → Option (Sum Unit Unit)
  | 0,_,_,_,_ => none
  | n + 1,p0,p1,p2,p3 =>
  if (decide (p3 < p2)) then
   if within p3 p1.length then
   z6D n (rd z00.dft p1 p3) (z0a (p0 - 1)) >>= fun b17 =>
   if (!b17) then some (.inl ())
   else z4m n p0 p1 p2 (z0a (p3 + 1))
   else none
  else some (.inr ())
def z6D : Nat → z00 → Int → Option Bool
  | 0,_,_ => none
  | n + 1,a0,a1 =>
  if ((((((((decide (a1 < 1)) || (decide (a0.z08 < 0))) || (decide (a0.z08 > 5))) || (a0.z0c && (a0.z08 != 1))) || ((a0.z06 != 0) && (a0.z08 != 2))) || ((!(a0.z0b == [])) && (a0.z08 != 3))) || ((decide ((a0.z05.length : Int) > 0)) && (decide (a0.z08 < 4)))) || ((decide ((a0.z07.length : Int) > 0)) && (a0.z08 != 5))) then some false
  else
   za7 n a0.z0b >>= fun b3 =>
   if (((!b3) || (decide ((a0.z05.length : Int) > 256))) || ((a0.z08 == 5) && ((a0.z07.length : Int) != (a0.z05.length : Int)))) then some false
   else
    z4n n a1 a0.z07 (a0.z07.length : Int) 0 a0 ([] : List (Str × Bool)) >>= fun b11 =>
    match b11 with
    | .inl b12 => some false
    | .inr b13 =>
     z4m n b13.1 b13.2.z05 (b13.2.z05.length : Int) 0 >>= fun b19 =>
     match b19 with
     | .inl b20 => some false
     | .inr b21 => some true
end
def z3Q (n : Nat) (a0 : z00) : Option Bool :=
  z6D n a0 8 >>= fun b2 => some b2
def z4P : Nat → Str → Bool → Int → Int → z00 → Int → Bool → Int → Str → (List Str) → (List z00) → Option (Str × Bool × z00 × Int × Bool × Int × Str × (List Str) × (List z00))
  | 0,_,_,_,_,_,_,_,_,_,_,_ => none
  | n + 1,p0,p1,p2,p3,p4,p5,p6,p7,p8,p9,p10 =>
  if (decide (p3 < p2)) then
   if within p3 p9.length then
   if within p3 p9.length then
   if ((rd [] p9 p3) == p0) then
    z2V n p4 >>= fun b11 =>
    if within p3 p10.length then
    if within p3 p10.length then z4P n p0 true p2 (z0a (p3 + 1)) p4 p5 p6 p7 p8 p9 (p10.set (p3).toNat b11)
    else none
    else none
   else z4P n p0 p1 p2 (z0a (p3 + 1)) p4 p5 p6 p7 p8 p9 p10
   else none
   else none
  else some (p0,p1,p4,p5,p6,p7,p8,p9,p10)
def z7E (n : Nat) (a0 : z00) (a1 : Str) (a2 : z00) : Option (z00 × Int) :=
  z3Q n a0 >>= fun b2 =>
  if ((!b2) || (a0.z08 != 5)) then some ((⟨0,false,0,[],[],[]⟩ : z00),1)
  else
   z2V n a0 >>= fun b5 =>
   z4P n a1 false (b5.z07.length : Int) 0 a2 b5.z08 b5.z0c b5.z06 b5.z0b b5.z07 b5.z05 >>= fun b15 =>
   if (!b15.2.1) then
    if fits ((b15.2.2.2.2.2.2.2.1.length + 1) * 16) then
    z2V n b15.2.2.1 >>= fun b19 =>
    if fits ((b15.2.2.2.2.2.2.2.2.length + 1) * 88) then
    z3Q n (⟨b15.2.2.2.1,b15.2.2.2.2.1,b15.2.2.2.2.2.1,b15.2.2.2.2.2.2.1,(b15.2.2.2.2.2.2.2.1 ++ [b15.1]),(b15.2.2.2.2.2.2.2.2 ++ [b19])⟩ : z00) >>= fun b22 =>
    if (!b22) then some ((⟨0,false,0,[],[],[]⟩ : z00),1)
    else some ((⟨b15.2.2.2.1,b15.2.2.2.2.1,b15.2.2.2.2.2.1,b15.2.2.2.2.2.2.1,(b15.2.2.2.2.2.2.2.1 ++ [b15.1]),(b15.2.2.2.2.2.2.2.2 ++ [b19])⟩ : z00),0)
    else none
    else none
   else
    z3Q n (⟨b15.2.2.2.1,b15.2.2.2.2.1,b15.2.2.2.2.2.1,b15.2.2.2.2.2.2.1,b15.2.2.2.2.2.2.2.1,b15.2.2.2.2.2.2.2.2⟩ : z00) >>= fun b25 =>
    if (!b25) then some ((⟨0,false,0,[],[],[]⟩ : z00),1)
    else some ((⟨b15.2.2.2.1,b15.2.2.2.2.1,b15.2.2.2.2.2.1,b15.2.2.2.2.2.2.1,b15.2.2.2.2.2.2.2.1,b15.2.2.2.2.2.2.2.2⟩ : z00),0)
def z5b : Nat → Str → (List Str) → Int → Int → z00 → Option (Sum Int z00)
  | 0,_,_,_,_,_ => none
  | n + 1,p0,p1,p2,p3,p4 =>
  if (decide (p3 < p2)) then
   if within p3 p1.length then
   z1L n p0 >>= fun b4 =>
   z7E n p4 (rd [] p1 p3) b4 >>= fun b6 =>
   if (b6.2 != 0) then some (.inl b6.2)
   else z5b n p0 p1 p2 (z0a (p3 + 1)) b6.1
   else none
  else some (.inr p4)
def zcI (n : Nat) (a0 : z00) (a1 : (List Str)) (a2 : Str) : Option (z00 × Int) :=
  z5b n a2 a1 (a1.length : Int) 0 a0 >>= fun b8 =>
  match b8 with
  | .inl b9 => some ((⟨0,false,0,[],[],[]⟩ : z00),b9)
  | .inr b10 => some (b10,0)
def z4p : Nat → Int → Int → (List Int) → Option (List Int)
  | 0,_,_,_ => none
  | n + 1,p0,p1,p2 =>
  if (decide (p1 ≥ 0)) then
   if nn (z1b (z0a (4 * p1))) then
   if within (iand .i64 (shr .i64 p0 (z1b (z0a (4 * p1)))) 15) 16 then
   if fits ((p2.length + ([(bt ([48,49,50,51,52,53,54,55,56,57,97,98,99,100,101,102] : Str) (iand .i64 (shr .i64 p0 (z1b (z0a (4 * p1)))) 15))]).length) * 1) then z4p n p0 (z0a (p1 - 1)) (p2 ++ [(bt ([48,49,50,51,52,53,54,55,56,57,97,98,99,100,101,102] : Str) (iand .i64 (shr .i64 p0 (z1b (z0a (4 * p1)))) 15))])
   else none
   else none
   else none
  else some p2
def z8l (n : Nat) (a0 : Int) (a1 : Int) : Option Str :=
  z4p n a0 (z0a (a1 - 1)) [] >>= fun b6 => some (strOf b6)
def z94 (n : Nat) (a0 : z0g) : Option (Str × Int) :=
  z8H n a0 >>= fun b2 =>
  if (!b2) then some ([],2)
  else
   z8l n a0.z2s 1 >>= fun b5 =>
   if fits (a0.z0z.length + b5.length) then
   z8l n a0.z2t 1 >>= fun b8 =>
   if fits ((a0.z0z ++ b5).length + b8.length) then
   if within a0.z3G (([[],([74,83,79,78] : Str),([67,66,79,82] : Str),([77,71,80,75] : Str)]).length) then
   if fits (((a0.z0z ++ b5) ++ b8).length + (rd [] ([[],([74,83,79,78] : Str),([67,66,79,82] : Str),([77,71,80,75] : Str)]) a0.z3G).length) then
   z8l n a0.z5W 6 >>= fun b13 =>
   if fits ((((a0.z0z ++ b5) ++ b8) ++ (rd [] ([[],([74,83,79,78] : Str),([67,66,79,82] : Str),([77,71,80,75] : Str)]) a0.z3G)).length + b13.length) then
   if fits (((((a0.z0z ++ b5) ++ b8) ++ (rd [] ([[],([74,83,79,78] : Str),([67,66,79,82] : Str),([77,71,80,75] : Str)]) a0.z3G)) ++ b13).length + 1) then some ((((((a0.z0z ++ b5) ++ b8) ++ (rd [] ([[],([74,83,79,78] : Str),([67,66,79,82] : Str),([77,71,80,75] : Str)]) a0.z3G)) ++ b13) ++ ([95] : Str)),0)
   else none
   else none
   else none
   else none
   else none
   else none
def z3E : Nat → Int → (List Str) → Int → Int → z00 → z0g → (List Str) → (List z00) → Option (Int × z00 × z0g × (List Str) × (List z00))
  | 0,_,_,_,_,_,_,_,_ => none
  | n + 1,p0,p1,p2,p3,p4,p5,p6,p7 =>
  if (decide (p3 < p2)) then
   if within p3 p1.length then
   if (!((rd [] p1 p3) == ([118] : Str))) then
    if fits ((p6.length + ([(rd [] p1 p3)]).length) * 16) then
    if within p3 p4.z05.length then
    z2V n (rd z00.dft p4.z05 p3) >>= fun b15 =>
    if fits ((p7.length + 1) * 88) then z3E n p0 p1 p2 (z0a (p3 + 1)) p4 p5 (p6 ++ [(rd [] p1 p3)]) (p7 ++ [b15])
    else none
    else none
    else none
   else z3E n p0 p1 p2 (z0a (p3 + 1)) p4 p5 p6 p7
   else none
  else some (p0,p4,p5,p6,p7)
def internal_strconv_FormatBool (n : Nat) (a0 : Bool) : Option Str :=
  if a0 then some ([116,114,117,101] : Str)
  else some ([102,97,108,115,101] : Str)
def strconv_FormatBool (n : Nat) (a0 : Bool) : Option Str :=
  internal_strconv_FormatBool n a0 >>= fun b2 => some b2
def strconv_Itoa (n : Nat) (a0 : Int) : Option Str :=
  internal_strconv_Itoa a0 >>= fun b2 => some b2
def z2i : Nat → Str → Int → Int → (List Int) → Option (List Int)
  | 0,_,_,_,_ => none
  | n + 1,p0,p1,p2,p3 =>
  if (decide (p2 < p1)) then
   if within p2 p0.length then
   if (((bt p0 p2) == 34) || ((bt p0 p2) == 92)) then
    if fits ((p3.length + 2) * 1) then z2i n p0 p1 (z0a (p2 + 1)) (p3 ++ [92,(bt p0 p2)])
    else none
   else
    if ((((((bt p0 p2) == 8) || ((bt p0 p2) == 9)) || ((bt p0 p2) == 10)) || ((bt p0 p2) == 12)) || ((bt p0 p2) == 13)) then
     if within (w_u8 ((bt p0 p2) - 8)) 6 then
     if fits ((p3.length + ([92,(bt ([98,116,110,63,102,114] : Str) (w_u8 ((bt p0 p2) - 8)))]).length) * 1) then z2i n p0 p1 (z0a (p2 + 1)) (p3 ++ [92,(bt ([98,116,110,63,102,114] : Str) (w_u8 ((bt p0 p2) - 8)))])
     else none
     else none
    else
     if (decide ((bt p0 p2) < 32)) then
      if within (w_u8 (Int.tdiv (bt p0 p2) 16)) 2 then
      if within (Int.tmod (bt p0 p2) 16) 16 then
      if fits ((p3.length + ([92,117,48,48,(bt ([48,49] : Str) (w_u8 (Int.tdiv (bt p0 p2) 16))),(bt ([48,49,50,51,52,53,54,55,56,57,97,98,99,100,101,102] : Str) (Int.tmod (bt p0 p2) 16))]).length) * 1) then z2i n p0 p1 (z0a (p2 + 1)) (p3 ++ [92,117,48,48,(bt ([48,49] : Str) (w_u8 (Int.tdiv (bt p0 p2) 16))),(bt ([48,49,50,51,52,53,54,55,56,57,97,98,99,100,101,102] : Str) (Int.tmod (bt p0 p2) 16))])
      else none
      else none
      else none
     else
      if fits ((p3.length + 1) * 1) then z2i n p0 p1 (z0a (p2 + 1)) (p3 ++ [(bt p0 p2)])
      else none
   else none
  else some p3
def z8L (n : Nat) (a0 : Str) : Option Str :=
  z2i n a0 (a0.length : Int) 0 [34] >>= fun b14 =>
  if fits ((b14.length + 1) * 1) then some (strOf (b14 ++ [34]))
  else none
mutual
def z2G : Nat → Str → (List z00) → Int → Int → z00 → Option (Str × z00)
  | 0,_,_,_,_,_ => none
  | n + 1,p0,p1,p2,p3,p4 =>
  if (decide (p3 < p2)) then
   if within p3 p1.length then
   if (decide (p3 > 0)) then
    if fits (p0.length + 1) then z5o n (p0 ++ ([44] : Str)) p3 p1 p2 p3 p4 (rd z00.dft p1 p3)
    else none
   else z5o n p0 p3 p1 p2 p3 p4 (rd z00.dft p1 p3)
   else none
  else some (p0,p4)
def z5o : Nat → Str → Int → (List z00) → Int → Int → z00 → z00 → Option (Str × z00)
  | 0,_,_,_,_,_,_,_ => none
  | n + 1,p0,p1,p2,p3,p4,p5,p6 =>
  if (p5.z08 == 5) then
   if within p1 p5.z07.length then
   z8L n (rd [] p5.z07 p1) >>= fun b18 =>
   if fits (b18.length + 1) then
   if fits (p0.length + (b18 ++ ([58] : Str)).length) then
   z5s n p6 >>= fun b22 =>
   if fits ((p0 ++ (b18 ++ ([58] : Str))).length + b22.length) then z2G n ((p0 ++ (b18 ++ ([58] : Str))) ++ b22) p2 p3 (z0a (p4 + 1)) p5
   else none
   else none
   else none
   else none
  else
   z5s n p6 >>= fun b25 =>
   if fits (p0.length + b25.length) then z2G n (p0 ++ b25) p2 p3 (z0a (p4 + 1)) p5
   else none
def z5s : Nat → z00 → Option Str
  | 0,_ => none
  | n + 1,a0 =>
  if (a0.z08 == 1) then
   strconv_FormatBool n a0.z0c >>= fun b3 => some b3
  else
   if (a0.z08 == 2) then
    strconv_Itoa n a0.z06 >>= fun b6 => some b6
   else
    if (a0.z08 == 3) then
     z8L n a0.z0b >>= fun b9 => some b9
    else
     if (a0.z08 == 4) then
      z2G n [] a0.z05 (a0.z05.length : Int) 0 a0 >>= fun b28 =>
      if (b28.2.z08 == 5) then
       if fits (1 + b28.1.length) then
       if fits ((([123] : Str) ++ b28.1).length + 1) then some ((([123] : Str) ++ b28.1) ++ ([125] : Str))
       else none
       else none
      else
       if fits (1 + b28.1.length) then
       if fits ((([91] : Str) ++ b28.1).length + 1) then some ((([91] : Str) ++ b28.1) ++ ([93] : Str))
       else none
       else none
     else
      if (a0.z08 == 5) then
       z2G n [] a0.z05 (a0.z05.length : Int) 0 a0 >>= fun b36 =>
       if (b36.2.z08 == 5) then
        if fits (1 + b36.1.length) then
        if fits ((([123] : Str) ++ b36.1).length + 1) then some ((([123] : Str) ++ b36.1) ++ ([125] : Str))
        else none
        else none
       else
        if fits (1 + b36.1.length) then
        if fits ((([91] : Str) ++ b36.1).length + 1) then some ((([91] : Str) ++ b36.1) ++ ([93] : Str))
        else none
        else none
      else some ([110,117,108,108] : Str)
end
def z90 (n : Nat) (a0 : z00) : Option (Str × Int) :=
  z3Q n a0 >>= fun b2 =>
  if (!b2) then some ([],1)
  else
   z5s n a0 >>= fun b5 =>
   if (decide ((b5.length : Int) > 65536)) then some ([],3)
   else some (b5,0)
def z3r (n : Nat) (a0 : Int) (a1 : z00) : Option (Str × Int) :=
  if (a0 == 1) then
   z90 n a1 >>= fun b3 => some (b3.1,b3.2)
  else
   if (a0 == 2) then
    zm9 a1 >>= fun b6 => some (b6.1,b6.2)
   else
    if (a0 == 3) then
     zmq a1 >>= fun b9 => some (b9.1,b9.2)
    else some ([],2)
def z9N (n : Nat) (a0 : z00) (a1 : Str) (a2 : Int) : Option (z00 × Str × Int) :=
  z94 n (⟨a1,1,0,a2,0⟩ : z0g) >>= fun b2 =>
  if (b2.2 != 0) then some ((⟨0,false,0,[],[],[]⟩ : z00),[],b2.2)
  else
   z3Q n a0 >>= fun b5 =>
   if ((!b5) || (a0.z08 != 5)) then some ((⟨0,false,0,[],[],[]⟩ : z00),[],1)
   else
    z1L n b2.1 >>= fun b8 =>
    z3E n a2 a0.z07 (a0.z07.length : Int) 0 a0 (⟨a1,1,0,a2,0⟩ : z0g) ([([118] : Str)]) [b8] >>= fun b18 =>
    z3Q n (⟨5,false,0,[],b18.2.2.2.1,b18.2.2.2.2⟩ : z00) >>= fun b20 =>
    if (!b20) then some ((⟨0,false,0,[],[],[]⟩ : z00),[],1)
    else
     z3r n b18.1 (⟨5,false,0,[],b18.2.2.2.1,b18.2.2.2.2⟩ : z00) >>= fun b23 =>
     if (b23.2 != 0) then some ((⟨0,false,0,[],[],[]⟩ : z00),[],b23.2)
     else
      z94 n (⟨b18.2.2.1.z0z,b18.2.2.1.z2s,b18.2.2.1.z2t,b18.2.2.1.z3G,(b23.1.length : Int)⟩ : z0g) >>= fun b26 =>
      z1L n b26.1 >>= fun b28 =>
      z7E n (⟨5,false,0,[],b18.2.2.2.1,b18.2.2.2.2⟩ : z00) ([118] : Str) b28 >>= fun b30 =>
      z3r n b18.1 b30.1 >>= fun b32 => some (b30.1,b32.1,0)
def zeu (n : Nat) (a0 : z00) (a1 : (List Str)) (a2 : Str) (a3 : Int) : Option (z00 × Str × Int) :=
  z6e n a1 a2 a3 a1 (a1.length : Int) 0 a0 >>= fun b4 =>
  match b4 with
  | .inl b5 => some ((⟨0,false,0,[],[],[]⟩ : z00),[],2)
  | .inr b6 =>
   if ((b6.1.length : Int) == 0) then some ((⟨0,false,0,[],[],[]⟩ : z00),[],2)
   else
    z8H n (⟨b6.2.1,0,0,b6.2.2.1,0⟩ : z0g) >>= fun b9 =>
    if (!b9) then some ((⟨0,false,0,[],[],[]⟩ : z00),[],2)
    else
     zc6 n >>= fun b12 =>
     zcI n b6.2.2.2 b6.1 b12 >>= fun b14 =>
     if (b14.2 != 0) then some ((⟨0,false,0,[],[],[]⟩ : z00),[],b14.2)
     else
      z9N n b14.1 b6.2.1 b6.2.2.1 >>= fun b17 =>
      if (b17.2.2 != 0) then some ((⟨0,false,0,[],[],[]⟩ : z00),[],b17.2.2)
      else
       z7z n b17.2.1 >>= fun b20 =>
       zcI n b17.1 b6.1 b20 >>= fun b22 =>
       z9N n b22.1 b6.2.1 b6.2.2.1 >>= fun b24 => some (b24.1,b24.2.1,b24.2.2)
def z5Z : Nat → Str → (List Str) → Int → Int → z00 → Option (Sum z00 Unit)
  | 0,_,_,_,_,_ => none
  | n + 1,p0,p1,p2,p3,p4 =>
  if (decide (p3 < p2)) then
   if within p3 p1.length then
   if (((p4.z08 == 5) && ((rd [] p1 p3) == p0)) && (decide (p3 < (p4.z05.length : Int)))) then
    if within p3 p4.z05.length then
    z2V n (rd z00.dft p4.z05 p3) >>= fun b6 => some (.inl b6)
    else none
   else z5Z n p0 p1 p2 (z0a (p3 + 1)) p4
   else none
  else some (.inr ())
def zel (n : Nat) (a0 : z00) (a1 : Str) : Option (z00 × Bool) :=
  z5Z n a1 a0.z07 (a0.z07.length : Int) 0 a0 >>= fun b7 =>
  match b7 with
  | .inl b8 => some (b8,true)
  | .inr b9 => some ((⟨0,false,0,[],[],[]⟩ : z00),false)
def zbR (n : Nat) (a0 : Str) (a1 : (List z03)) : Option (z0k × Str × Int) :=
  zbU n a0 a1 >>= fun b2 =>
  if (!b2) then some ((⟨[],[],[]⟩ : z0k),[],45)
  else
   if fits (a1.length * 48) then
   zaH n [] a0 a1 >>= fun b6 =>
   zeu n b6.1 ([([100] : Str)]) ([83,67,72,77] : Str) 1 >>= fun b8 =>
   if (b8.2.2 != 0) then some ((⟨[],[],[]⟩ : z0k),[],b8.2.2)
   else
    zel n b8.1 ([100] : Str) >>= fun b11 => some ((⟨b11.1.z0b,a0,b6.2⟩ : z0k),b8.2.1,0)
   else none
def zcq (n : Nat) (a0 : (List z04)) : Option z0k :=
  z4h n a0 (a0.length : Int) 0 [] >>= fun b9 =>
  zbR n ([119,105,100,101] : Str) b9 >>= fun b11 => some b11.1
def z95 (n : Nat) (a0 : z0k) : Option Bool :=
  z7x n a0.z1V a0.z0C >>= fun b2 => some ((b2.2.2 == 0) && (b2.1.z3M == a0.z3M))
def z4k : Nat → (List z04) → Int → Int → (List (Str × z0h)) → (List (Int × Bool)) → Option (Sum Int Unit)
  | 0,_,_,_,_,_ => none
  | n + 1,p0,p1,p2,p3,p4 =>
  if (decide (p2 < p1)) then
   if within p2 p0.length then
   if (!(alk (fun y => (rd z04.dft p0 p2).z0l == y) p3).isSome) then some (.inl p2)
   else
    if ((alk (fun y => ((alk (fun y => (rd z04.dft p0 p2).z0l == y) p3).getD z0h.dft).zff == y) p4).getD false) then some (.inl p2)
    else
     z7O n (⟨((alk (fun y => (rd z04.dft p0 p2).z0l == y) p3).getD z0h.dft).z3S.z0l,((alk (fun y => (rd z04.dft p0 p2).z0l == y) p3).getD z0h.dft).z3S.z08,((alk (fun y => (rd z04.dft p0 p2).z0l == y) p3).getD z0h.dft).z3S.z0p,((alk (fun y => (rd z04.dft p0 p2).z0l == y) p3).getD z0h.dft).z3S.z0G,((alk (fun y => (rd z04.dft p0 p2).z0l == y) p3).getD z0h.dft).z3S.z15⟩ : z03) (⟨(rd z04.dft p0 p2).z0F.z08,(rd z04.dft p0 p2).z0F.z0c,(rd z04.dft p0 p2).z0F.z06,(rd z04.dft p0 p2).z0F.z0b,(rd z04.dft p0 p2).z0F.z07,(rd z04.dft p0 p2).z0F.z05⟩ : z00) >>= fun b11 =>
     if (!b11) then some (.inl p2)
     else z4k n p0 p1 (z0a (p2 + 1)) p3 (ast (fun y => ((alk (fun y => (rd z04.dft p0 p2).z0l == y) p3).getD z0h.dft).zff == y) (((alk (fun y => (rd z04.dft p0 p2).z0l == y) p3).getD z0h.dft).zff) true p4)
   else none
  else some (.inr ())
def z8M (n : Nat) (a0 : z0k) (a1 : (List z04)) : Option (Int × Int) :=
  z95 n a0 >>= fun b2 =>
  if (!b2) then some (0,45)
  else
   z7I n a0.z0C >>= fun b5 =>
   z4k n a1 (a1.length : Int) 0 b5 ([] : List (Int × Bool)) >>= fun b13 =>
   match b13 with
   | .inl b14 => some (b14,47)
   | .inr b15 => some (0,0)
def z6W (n : Nat) (a0 : z04) (a1 : Str) (a2 : Int) (a3 : Bool) (a4 : Int) (a5 : Int) : Option Bool :=some (a0.z0l == a1)
def z0i : Nat → (List z04) → Int → Int → Str → Int → Bool → Int → Int → Option (Sum (Int × Str × Int × Bool × Int × Int) (Str × Int × Bool × Int × Int))
  | 0,_,_,_,_,_,_,_,_ => none
  | n + 1,p0,p1,p2,p3,p4,p5,p6,p7 =>
  if (decide (p2 < p1)) then
   if within p2 p0.length then
   z6W n (rd z04.dft p0 p2) p3 p4 p5 p6 p7 >>= fun b4 =>
   if b4 then some (.inl (p2,p3,p4,p5,p6,p7))
   else z0i n p0 p1 (z0a (p2 + 1)) p3 p4 p5 p6 p7
   else none
  else some (.inr (p3,p4,p5,p6,p7))
def z0H (n : Nat) (a0 : (List z04)) (a1 : Str) (a2 : Int) (a3 : Bool) (a4 : Int) (a5 : Int) : Option (Int × Str × Int × Bool × Int × Int) :=
  z0i n a0 (a0.length : Int) 0 a1 a2 a3 a4 a5 >>= fun b6 =>
  match b6 with
  | .inl b7 => some (b7.1,b7.2.1,b7.2.2.1,b7.2.2.2.1,b7.2.2.2.2.1,b7.2.2.2.2.2)
  | .inr b8 => some ((-1),b8.1,b8.2.1,b8.2.2.1,b8.2.2.2.1,b8.2.2.2.2)
def z0v (n : Nat) (a0 : (List z04)) (a1 : Str) (a2 : Int) (a3 : Bool) (a4 : Int) (a5 : Int) : Option (Bool × Str × Int × Bool × Int × Int) :=
  z0H n a0 a1 a2 a3 a4 a5 >>= fun b2 => some ((decide (b2.1 ≥ 0)),b2.2.1,b2.2.2.1,b2.2.2.2.1,b2.2.2.2.2.1,b2.2.2.2.2.2)
def z2R : Nat → (List z04) → (List z03) → Int → Int → Option (Sum Int Unit)
  | 0,_,_,_,_ => none
  | n + 1,p0,p1,p2,p3 =>
  if (decide (p3 < p2)) then
   if within p3 p1.length then
   if (rd z03.dft p1 p3).z0p then
    z0v n p0 ((rd z03.dft p1 p3).z0l) ((rd z03.dft p1 p3).z08) ((rd z03.dft p1 p3).z0p) ((rd z03.dft p1 p3).z0G) ((rd z03.dft p1 p3).z15) >>= fun b8 =>
    if (!b8.1) then some (.inl (p0.length : Int))
    else z2R n p0 p1 p2 (z0a (p3 + 1))
   else z2R n p0 p1 p2 (z0a (p3 + 1))
   else none
  else some (.inr ())
def z7C (n : Nat) (a0 : z0k) (a1 : (List z04)) : Option (Int × Int) :=
  z8M n a0 a1 >>= fun b2 =>
  if (b2.2 != 0) then some (b2.1,b2.2)
  else
   z2R n a1 a0.z0C (a0.z0C.length : Int) 0 >>= fun b10 =>
   match b10 with
   | .inl b11 => some (b11,47)
   | .inr b12 => some (0,0)
def z5R (n : Nat) (a0 : (List Int)) (a1 : Int) : Option Bool :=
  zgm n a0 >>= fun b2 =>
  if (!b2) then
   z8F n >>= fun b5 => some b5
  else
   zku n a0 >>= fun b7 =>
   z5J n b7 0 >>= fun b9 =>
   zcq n b9.1 >>= fun b11 =>
   z1F n a1 b9.1 (b11.z0C.length : Int) 0 b9.2.1 b9.2.2 b11.z3M b11.z1V b11.z0C >>= fun b18 =>
   z7x n ([112,101,114,115,111,110] : Str) b18.2.2.2.2 >>= fun b20 =>
   z7C n b20.1 b18.2.1 >>= fun b22 =>
   if (((b20.2.2 != 0) || (b22.2 != 0)) || ((b20.1.z0C.length : Int) != (b18.2.1.length : Int))) then some false
   else
    z19 n b18.1 false b18.2.1 (b18.2.1.length : Int) 0 b20.1 [] >>= fun b32 =>
    z8M n b32.2.1 b32.2.2 >>= fun b34 =>
    z7C n b32.2.1 b32.2.2 >>= fun b36 =>
    if (((b34.2 == 0) && ((b36.2 == 47) == b32.1)) && ((!b32.1) || (b36.1 == (b32.2.2.length : Int)))) then
     z8F n >>= fun b39 => some b39
    else some false
def z7j (n : Nat) (p0 : Int) (p1 : Int) : Option Int :=
  if (decide (p0 ≥ 256)) then
   if within (w_u8 (shr .u64 p0 8)) 256 then some (z0a ((z0a (p1 + 8)) + (z0a (bt ([0,1,2,2,3,3,3,3,4,4,4,4,4,4,4,4,5,5,5,5,5,5,5,5,5,5,5,5,5,5,5,5,6,6,6,6,6,6,6,6,6,6,6,6,6,6,6,6,6,6,6,6,6,6,6,6,6,6,6,6,6,6,6,6,7,7,7,7,7,7,7,7,7,7,7,7,7,7,7,7,7,7,7,7,7,7,7,7,7,7,7,7,7,7,7,7,7,7,7,7,7,7,7,7,7,7,7,7,7,7,7,7,7,7,7,7,7,7,7,7,7,7,7,7,7,7,7,7,8,8,8,8,8,8,8,8,8,8,8,8,8,8,8,8,8,8,8,8,8,8,8,8,8,8,8,8,8,8,8,8,8,8,8,8,8,8,8,8,8,8,8,8,8,8,8,8,8,8,8,8,8,8,8,8,8,8,8,8,8,8,8,8,8,8,8,8,8,8,8,8,8,8,8,8,8,8,8,8,8,8,8,8,8,8,8,8,8,8,8,8,8,8,8,8,8,8,8,8,8,8,8,8,8,8,8,8,8,8,8,8,8,8,8,8,8,8,8,8,8,8,8,8,8,8,8,8] : Str) (w_u8 (shr .u64 p0 8))))))
   else none
  else
   if within (w_u8 p0) 256 then some (z0a (p1 + (z0a (bt ([0,1,2,2,3,3,3,3,4,4,4,4,4,4,4,4,5,5,5,5,5,5,5,5,5,5,5,5,5,5,5,5,6,6,6,6,6,6,6,6,6,6,6,6,6,6,6,6,6,6,6,6,6,6,6,6,6,6,6,6,6,6,6,6,7,7,7,7,7,7,7,7,7,7,7,7,7,7,7,7,7,7,7,7,7,7,7,7,7,7,7,7,7,7,7,7,7,7,7,7,7,7,7,7,7,7,7,7,7,7,7,7,7,7,7,7,7,7,7,7,7,7,7,7,7,7,7,7,8,8,8,8,8,8,8,8,8,8,8,8,8,8,8,8,8,8,8,8,8,8,8,8,8,8,8,8,8,8,8,8,8,8,8,8,8,8,8,8,8,8,8,8,8,8,8,8,8,8,8,8,8,8,8,8,8,8,8,8,8,8,8,8,8,8,8,8,8,8,8,8,8,8,8,8,8,8,8,8,8,8,8,8,8,8,8,8,8,8,8,8,8,8,8,8,8,8,8,8,8,8,8,8,8,8,8,8,8,8,8,8,8,8,8,8,8,8,8,8,8,8,8,8,8,8,8,8] : Str) (w_u8 p0)))))
   else none
def z7r (n : Nat) (p0 : Int) (p1 : Int) : Option Int :=
  if (decide (p0 ≥ 65536)) then z7j n (shr .u64 p0 16) (z0a (p1 + 16))
  else z7j n p0 p1
def zcj (n : Nat) (a0 : Int) : Option Int :=
  if (decide (a0 ≥ 4294967296)) then z7r n (shr .u64 a0 32) 32
  else z7r n a0 0
def internal_strconv_log10Pow2 (n : Nat) (a0 : Int) : Option Int :=some (shr .i64 (z0a (a0 * 78913)) 18)
def strings_HasPrefix (n : Nat) (a0 : Str) (a1 : Str) : Option Bool :=
  z18 n a0 a1 >>= fun b2 => some b2
end
end Go.Proofs.YtifmnhcmmoacfaaGreatDoorQ
