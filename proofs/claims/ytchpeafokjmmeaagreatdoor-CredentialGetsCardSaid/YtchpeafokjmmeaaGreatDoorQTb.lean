/- A part of the proof. -/
import Derived.Test.YtchpeafokjmmeaaGreatDoorQTa
import Derived.Lib.Repeat
import Derived.Lib.ItoaNum
set_option linter.unusedVariables false
set_option maxRecDepth 100000
set_option maxHeartbeats 1000000
namespace Go.Proofs.YtchpeafokjmmeaaGreatDoorQ
open Go Go.PE
noncomputable section
def z1B : List (Int × z04) := [(1,⟨([69] : Str),32⟩),(2,⟨([68] : Str),32⟩),(3,⟨([66] : Str),32⟩),(4,⟨([65] : Str),32⟩),(5,⟨([48,65] : Str),16⟩),(6,⟨([77] : Str),2⟩),(7,⟨([83] : Str),626⟩),(8,⟨([49,65,65,76] : Str),6⟩)]
def z2r (a0 : Str) : Option (Int × z04 × Bool) :=
  match z1B.find? (fun p => p.2.z3L.isPrefixOf a0) with
  | some p => some (p.1,p.2,true)
  | none => some (0,⟨([] : Str),0⟩,false)
def strings_Repeat (a0 : Str) (a1 : Int) : Option Str := if 0 ≤ a1 ∧ a0.length * a1.toNat ≤ 140737488355328 ∧ a1 ≤ 9223372036854775807 then some (Lib.repeatL a0 a1.toNat) else none
def z8r (_ : z03) : Option Bool := none
def zaR (_ : z03) : Option Bool := none
def zei (_ : z03) : Option (z00 × Str × Int) := none
def z19 (a0 : (List Str)) : Option (List Str) := if fits (a0.length * 16) then some a0 else none
def z1x (a0 : (List z00)) : Option (List z00) := if fits (a0.length * 88) then some a0 else none
def z7Q (a0 : (List Int)) : Option (List Int) := if fits (a0.length * 8) then some a0 else none
def z1Y (a0 : (List z02)) : Option (List z02) := if fits (a0.length * 120) then some a0 else none
def z3H (a0 : (List z06)) : Option (List z06) := if fits (a0.length * 56) then some a0 else none
def z18 (a0 : Int) (a1 : Int) (a2 : (List Int)) : Option (List Int) := if a1 = 10 ∧ 0 ≤ a0 ∧ a0 < 18446744073709551616 ∧ a2.length + 20 ≤ 140737488355328 then some (a2 ++ bytesOf (Lib.decDigits a0.toNat)) else none
def z3X (_ : Int) (_ : Int) : Option (List Int) := none
def zqS (a0 : Str) (a1 : Int) : Option Str := if a0.length ≤ 1000000000 then some (zc5 a0 a1) else none
def internal_strconv_Itoa (a0 : Int) : Option Str := if -9223372036854775808 ≤ a0 ∧ a0 ≤ 9223372036854775807 then some (Lib.itoa a0) else none
def zoa (_ : z00) : Option (Str × Int) := none
def zoe (_ : z00) : Option (Str × Int) := none
def z1w : Nat → Str → (List z02) → Int → Int → Option (Sum z00 Unit)
  | 0,_,_,_,_ => none
  | n + 1,p0,p1,p2,p3 =>
  if (decide (p3 < p2)) then
   if within p3 p1.length then
   if ((rd z02.dft p1 p3).z0L == p0) then some (.inl (⟨(rd z02.dft p1 p3).z0j.z0i,(rd z02.dft p1 p3).z0j.z0K,(rd z02.dft p1 p3).z0j.z0n,(rd z02.dft p1 p3).z0j.z0D,(rd z02.dft p1 p3).z0j.z0d,(rd z02.dft p1 p3).z0j.z09⟩ : z00))
   else z1w n p0 p1 p2 (z07 (p3 + 1))
   else none
  else some (.inr ())
def z3d (n : Nat) (a0 : z03) (a1 : Str) : Option (z00 × Bool) :=
  z1w n a1 a0.z0e (a0.z0e.length : Int) 0 >>= fun b4 =>
  match b4 with
  | .inl b5 => some (b5,true)
  | .inr b6 => some ((⟨0,false,0,[],[],[]⟩ : z00),false)
def z6d (n : Nat) (a0 : z03) : Option z03 :=
  z19 a0.z0k >>= fun b2 =>
  z7Q a0.z0H >>= fun b4 =>
  z1Y a0.z0e >>= fun b6 =>
  z3H a0.z0z >>= fun b8 => some (⟨a0.z3u,a0.z0I,a0.z0u,a0.z0N,a0.z0s,b2,b4,b6,a0.z1z,b8⟩ : z03)
def z3j (n : Nat) (a0 : z03) : Option z03 :=
  z6d n (⟨a0.z3u,a0.z0I,a0.z0u,a0.z0N,a0.z0s,a0.z0k,[],[],a0.z1z,a0.z0z⟩ : z03) >>= fun b2 => some b2
mutual
def z5Q : Nat → Str → Int → Int → Option (Sum Unit Unit)
  | 0,_,_,_ => none
  | n + 1,p0,p1,p2 =>
  if (decide (p2 < p1)) then
   if within p2 p0.length then
   if (decide ((bt p0 p2) ≥ 97)) then
    if within p2 p0.length then z8K n p0 p2 (decide ((bt p0 p2) ≤ 122)) p1 p2
    else none
   else z8K n p0 p2 false p1 p2
   else none
  else some (.inr ())
def z8K : Nat → Str → Int → Bool → Int → Int → Option (Sum Unit Unit)
  | 0,_,_,_,_,_ => none
  | n + 1,p0,p1,p2,p3,p4 =>
  if (!p2) then
   if (p1 == 0) then some (.inl ())
   else
    if within p1 p0.length then
    if ((bt p0 p1) != 95) then
     if within p1 p0.length then
     if (decide ((bt p0 p1) < 48)) then some (.inl ())
     else
      if within p1 p0.length then
      if (decide ((bt p0 p1) > 57)) then some (.inl ())
      else z5Q n p0 p3 (z07 (p4 + 1))
      else none
     else none
    else z5Q n p0 p3 (z07 (p4 + 1))
    else none
  else z5Q n p0 p3 (z07 (p4 + 1))
end
def zcP (n : Nat) (a0 : Str) : Option Bool :=
  if (((a0.length : Int) == 0) || (decide ((a0.length : Int) > 32))) then some false
  else
   z5Q n a0 (a0.length : Int) 0 >>= fun b14 =>
   match b14 with
   | .inl b15 => some false
   | .inr b16 => some true
def zaT (n : Nat) (a0 : z00) : Option Bool :=some ((((((a0.z0i == 1) || (!a0.z0K)) && ((a0.z0i == 2) || (a0.z0n == 0))) && ((a0.z0i == 3) || (a0.z0D == []))) && (((a0.z0i == 4) || (a0.z0i == 5)) || ((a0.z09.length : Int) == 0))) && ((a0.z0i == 5) || ((a0.z0d.length : Int) == 0)))
def z0J (n : Nat) (a0 : Str) : Option Int :=
  if within 0 a0.length then
  if within 1 a0.length then
  if within 2 a0.length then
  if within 3 a0.length then
  if within 4 a0.length then
  if within 5 a0.length then
  if within 6 a0.length then
  if within 7 a0.length then some (ior .u64 (ior .u64 (ior .u64 (ior .u64 (ior .u64 (ior .u64 (ior .u64 (z3S (bt a0 0)) (shl .u64 (z3S (bt a0 1)) 8)) (shl .u64 (z3S (bt a0 2)) 16)) (shl .u64 (z3S (bt a0 3)) 24)) (shl .u64 (z3S (bt a0 4)) 32)) (shl .u64 (z3S (bt a0 5)) 40)) (shl .u64 (z3S (bt a0 6)) 48)) (shl .u64 (z3S (bt a0 7)) 56))
  else none
  else none
  else none
  else none
  else none
  else none
  else none
  else none
def z0X : Nat → Str → Str → Int → Int → Bool → Str → Int → Str → Str → Int → Int → Int → Bool → Option (Str × Str × Int × Int × Bool × Str × Int × Str × Str × Int × Int × Int × Bool)
  | 0,_,_,_,_,_,_,_,_,_,_,_,_,_ => none
  | n + 1,p0,p1,p2,p3,p4,p5,p6,p7,p8,p9,p10,p11,p12 =>
  if (decide ((p0.length : Int) > 32)) then
   z0J n p0 >>= fun b20 =>
   if cLo 8 p0.length then
   z0J n (p0.drop 8) >>= fun b23 =>
   if cLo 16 p0.length then
   z0J n (p0.drop 16) >>= fun b26 =>
   if cLo 24 p0.length then
   z0J n (p0.drop 24) >>= fun b29 =>
   if ((iand .u64 (ior .u64 (ior .u64 b20 b23) (ior .u64 b26 b29)) 9259542123273814144) == 0) then
    if cLo 32 p0.length then z0X n (p0.drop 32) p1 p2 p3 p4 p5 p6 p7 p8 p9 p10 p11 p12
    else none
   else some (p0,p1,p2,p3,p4,p5,p6,p7,p8,p9,p10,p11,p12)
   else none
   else none
   else none
  else some (p0,p1,p2,p3,p4,p5,p6,p7,p8,p9,p10,p11,p12)
def z0E : Nat → Str → Option Unit
  | 0,_ => none
  | n + 1,p0 =>
  if (decide ((p0.length : Int) > 0)) then
   if within 0 p0.length then
   if (decide ((bt p0 0) < 128)) then
    if cLo 1 p0.length then
    if (decide (((p0.drop 1).length : Int) > 8)) then
     z0J n (p0.drop 1) >>= fun b7 =>
     if ((iand .u64 b7 9259542123273814144) == 0) then
      if cLo 8 ((p0.drop 1).length) then
      if (decide ((((p0.drop 1).drop 8).length : Int) > 16)) then
       z0J n ((p0.drop 1).drop 8) >>= fun b12 =>
       if cLo 8 (((p0.drop 1).drop 8).length) then
       z0J n (((p0.drop 1).drop 8).drop 8) >>= fun b15 =>
       if ((iand .u64 (ior .u64 b12 b15) 9259542123273814144) == 0) then
        if cLo 16 (((p0.drop 1).drop 8).length) then
        z0X n (((p0.drop 1).drop 8).drop 16) (p0.drop 1) b7 (iand .u64 b7 9259542123273814144) ((iand .u64 b7 9259542123273814144) == 0) ((p0.drop 1).drop 8) b12 ((p0.drop 1).drop 8) (((p0.drop 1).drop 8).drop 8) b15 (ior .u64 b12 b15) (iand .u64 (ior .u64 b12 b15) 9259542123273814144) ((iand .u64 (ior .u64 b12 b15) 9259542123273814144) == 0) >>= fun b33 => z0E n b33.1
        else none
       else z0E n ((p0.drop 1).drop 8)
       else none
      else z0E n ((p0.drop 1).drop 8)
      else none
     else z0E n (p0.drop 1)
    else z0E n (p0.drop 1)
    else none
   else none
   else none
  else some ()
def z1y (n : Nat) (a0 : Str) : Option Bool :=
  z0E n a0 >>= fun b35 => some true
def zdg (n : Nat) (a0 : Str) : Option Bool :=
  if (decide ((a0.length : Int) ≤ 65536)) then
   z1y n a0 >>= fun b3 => some b3
  else some false
def z5q : Nat → (List Str) → Int → Int → z00 → (List (Str × Bool)) → Option (Sum Unit z00)
  | 0,_,_,_,_,_ => none
  | n + 1,p0,p1,p2,p3,p4 =>
  if (decide (p2 < p1)) then
   if within p2 p0.length then
   if ((alk (fun y => (rd [] p0 p2) == y) p4).getD false) then some (.inl ())
   else
    zdg n (rd [] p0 p2) >>= fun b5 =>
    if (!b5) then some (.inl ())
    else z5q n p0 p1 (z07 (p2 + 1)) p3 (ast (fun y => (rd [] p0 p2) == y) (rd [] p0 p2) true p4)
   else none
  else some (.inr p3)
def zcH (n : Nat) (a0 : z00) : Option Bool :=
  z5q n a0.z0d (a0.z0d.length : Int) 0 a0 ([] : List (Str × Bool)) >>= fun b7 =>
  match b7 with
  | .inl b8 => some false
  | .inr b9 => some ((b9.z0d.length : Int) == (b9.z09.length : Int))
mutual
def z8c : Nat → z00 → Int → Option Bool
  | 0,_,_ => none
  | n + 1,a0,a1 =>
  if (((decide (a1 < 1)) || (decide (a0.z0i < 0))) || (decide (a0.z0i > 5))) then some false
  else
   zaT n a0 >>= fun b3 =>
   if (!b3) then some false
   else
    zdg n a0.z0D >>= fun b6 =>
    if ((!b6) || (decide ((a0.z09.length : Int) > 256))) then some false
    else
     if (a0.z0i == 5) then
      zcH n a0 >>= fun b10 =>
      if (!b10) then some false
      else
       z0C n a0.z09 a1 >>= fun b13 => some (!b13.1)
     else
      z0C n a0.z09 a1 >>= fun b15 => some (!b15.1)
def z0C : Nat → (List z00) → Int → Option (Bool × Int)
  | 0,_,_ => none
  | n + 1,a0,a1 =>
  z0U n a0 a1 >>= fun b2 => some ((decide (b2.1 ≥ 0)),b2.2)
def z0B : Nat → (List z00) → Int → Int → Int → Option (Sum (Int × Int) Int)
  | 0,_,_,_,_ => none
  | n + 1,p0,p1,p2,p3 =>
  if (decide (p2 < p1)) then
   if within p2 p0.length then
   z9q n (rd z00.dft p0 p2) p3 >>= fun b4 =>
   if b4 then some (.inl (p2,p3))
   else z0B n p0 p1 (z07 (p2 + 1)) p3
   else none
  else some (.inr p3)
def z0U : Nat → (List z00) → Int → Option (Int × Int)
  | 0,_,_ => none
  | n + 1,a0,a1 =>
  z0B n a0 (a0.length : Int) 0 a1 >>= fun b6 =>
  match b6 with
  | .inl b7 => some (b7.1,b7.2)
  | .inr b8 => some ((-1),b8)
def z9q : Nat → z00 → Int → Option Bool
  | 0,_,_ => none
  | n + 1,a0,a1 =>
  z8c n a0 (z07 (a1 - 1)) >>= fun b2 => some (!b2)
end
def zaY (n : Nat) (a0 : z00) : Option Bool :=
  z8c n a0 8 >>= fun b2 => some b2
def z5a (n : Nat) : Option Unit :=some ()
def z9G (n : Nat) (a0 : Int) : Option Int :=
  z5a n >>= fun b2 => some (((alk (fun y => a0 == y) (ast (fun y => 8 == y) 8 (⟨([49,65,65,76] : Str),6⟩ : z04) (ast (fun y => 7 == y) 7 (⟨([83] : Str),626⟩ : z04) (ast (fun y => 6 == y) 6 (⟨([77] : Str),2⟩ : z04) (ast (fun y => 5 == y) 5 (⟨([48,65] : Str),16⟩ : z04) (ast (fun y => 4 == y) 4 (⟨([65] : Str),32⟩ : z04) (ast (fun y => 3 == y) 3 (⟨([66] : Str),32⟩ : z04) (ast (fun y => 2 == y) 2 (⟨([68] : Str),32⟩ : z04) (ast (fun y => 1 == y) 1 (⟨([69] : Str),32⟩ : z04) ([] : List (Int × z04))))))))))).getD z04.dft).zdI)
def z5h (n : Nat) (a0 : z02) : Option Bool :=
  zcP n a0.z0L >>= fun b2 =>
  if b2 then
   zaY n a0.z0j >>= fun b5 =>
   if (b5 && (((a0.z0j.z0i == 3) || (a0.z0j.z0i == 2)) || (a0.z0j.z0i == 1))) then
    z9G n 5 >>= fun b8 => some ((a0.z5W.length : Int) == b8)
   else some false
  else some false
mutual
def z7S : Nat → Int → Int → Int → Bool → Int → Str → (List z00) → (List Str) → Option (Int × Bool × Int × Str × (List Str) × (List z00))
  | 0,_,_,_,_,_,_,_,_ => none
  | n + 1,p0,p1,p2,p3,p4,p5,p6,p7 =>
  if (decide (p1 < p0)) then
   if within p1 p6.length then
   if within p1 p6.length then
   z9O n (rd z00.dft p6 p1) >>= fun b9 =>
   if within p1 p6.length then
   if within p1 p6.length then z7S n p0 (z07 (p1 + 1)) p2 p3 p4 p5 (p6.set (p1).toNat b9) p7
   else none
   else none
   else none
   else none
  else some (p2,p3,p4,p5,p7,p6)
def z9O : Nat → z00 → Option z00
  | 0,_ => none
  | n + 1,a0 =>
  z19 a0.z0d >>= fun b2 =>
  z1x a0.z09 >>= fun b4 =>
  z7S n (b4.length : Int) 0 a0.z0i a0.z0K a0.z0n a0.z0D b4 b2 >>= fun b13 => some (⟨b13.1,b13.2.1,b13.2.2.1,b13.2.2.2.1,b13.2.2.2.2.1,b13.2.2.2.2.2⟩ : z00)
end
def zgc (n : Nat) (a0 : (List Str)) (a1 : (List z00)) : Option z00 :=
  z9O n (⟨5,false,0,[],a0,a1⟩ : z00) >>= fun b2 => some b2
def zfd (n : Nat) (a0 : Str) : Option z00 :=some (⟨3,false,0,a0,[],[]⟩ : z00)
def z1W (n : Nat) (a0 : z08) (a1 : Str) (a2 : z00) : Option z08 :=
  z19 a0.g_n.z0d >>= fun b2 =>
  if fits ((b2.length + 1) * 16) then
  z1x a0.g_n.z09 >>= fun b5 =>
  if fits ((b5.length + 1) * 88) then
  zgc n (b2 ++ [a1]) (b5 ++ [a2]) >>= fun b8 => some (⟨⟨b8.z0i,b8.z0K,b8.z0n,b8.z0D,b8.z0d,b8.z09⟩⟩ : z08)
  else none
  else none
def z1F (n : Nat) (a0 : z08) (a1 : Str) (a2 : Str) : Option z08 :=
  zfd n a2 >>= fun b2 =>
  z1W n a0 a1 b2 >>= fun b4 => some b4
def z0T (n : Nat) (a0 : z04) : Option Int :=some (Int.tmod (z07 (3 - (Int.tmod a0.zdI 3))) 3)
def z3w : Nat → Str → (List Int) → Option (List Int)
  | 0,_,_ => none
  | n + 1,p0,p1 =>
  if (!(p0 == [])) then
   if within 0 p0.length then
   if within 1 p0.length then
   if within 2 p0.length then
   if within (shr .i64 (ior .i64 (ior .i64 (shl .i64 (z07 (bt p0 0)) 16) (shl .i64 (z07 (bt p0 1)) 8)) (z07 (bt p0 2))) 18) 64 then
   if within (iand .i64 (shr .i64 (ior .i64 (ior .i64 (shl .i64 (z07 (bt p0 0)) 16) (shl .i64 (z07 (bt p0 1)) 8)) (z07 (bt p0 2))) 12) 63) 64 then
   if within (iand .i64 (shr .i64 (ior .i64 (ior .i64 (shl .i64 (z07 (bt p0 0)) 16) (shl .i64 (z07 (bt p0 1)) 8)) (z07 (bt p0 2))) 6) 63) 64 then
   if within (iand .i64 (ior .i64 (ior .i64 (shl .i64 (z07 (bt p0 0)) 16) (shl .i64 (z07 (bt p0 1)) 8)) (z07 (bt p0 2))) 63) 64 then
   if fits ((p1.length + ([(bt ([65,66,67,68,69,70,71,72,73,74,75,76,77,78,79,80,81,82,83,84,85,86,87,88,89,90,97,98,99,100,101,102,103,104,105,106,107,108,109,110,111,112,113,114,115,116,117,118,119,120,121,122,48,49,50,51,52,53,54,55,56,57,45,95] : Str) (shr .i64 (ior .i64 (ior .i64 (shl .i64 (z07 (bt p0 0)) 16) (shl .i64 (z07 (bt p0 1)) 8)) (z07 (bt p0 2))) 18)),(bt ([65,66,67,68,69,70,71,72,73,74,75,76,77,78,79,80,81,82,83,84,85,86,87,88,89,90,97,98,99,100,101,102,103,104,105,106,107,108,109,110,111,112,113,114,115,116,117,118,119,120,121,122,48,49,50,51,52,53,54,55,56,57,45,95] : Str) (iand .i64 (shr .i64 (ior .i64 (ior .i64 (shl .i64 (z07 (bt p0 0)) 16) (shl .i64 (z07 (bt p0 1)) 8)) (z07 (bt p0 2))) 12) 63)),(bt ([65,66,67,68,69,70,71,72,73,74,75,76,77,78,79,80,81,82,83,84,85,86,87,88,89,90,97,98,99,100,101,102,103,104,105,106,107,108,109,110,111,112,113,114,115,116,117,118,119,120,121,122,48,49,50,51,52,53,54,55,56,57,45,95] : Str) (iand .i64 (shr .i64 (ior .i64 (ior .i64 (shl .i64 (z07 (bt p0 0)) 16) (shl .i64 (z07 (bt p0 1)) 8)) (z07 (bt p0 2))) 6) 63)),(bt ([65,66,67,68,69,70,71,72,73,74,75,76,77,78,79,80,81,82,83,84,85,86,87,88,89,90,97,98,99,100,101,102,103,104,105,106,107,108,109,110,111,112,113,114,115,116,117,118,119,120,121,122,48,49,50,51,52,53,54,55,56,57,45,95] : Str) (iand .i64 (ior .i64 (ior .i64 (shl .i64 (z07 (bt p0 0)) 16) (shl .i64 (z07 (bt p0 1)) 8)) (z07 (bt p0 2))) 63))]).length) * 1) then
   if cLo 3 p0.length then z3w n (p0.drop 3) (p1 ++ [(bt ([65,66,67,68,69,70,71,72,73,74,75,76,77,78,79,80,81,82,83,84,85,86,87,88,89,90,97,98,99,100,101,102,103,104,105,106,107,108,109,110,111,112,113,114,115,116,117,118,119,120,121,122,48,49,50,51,52,53,54,55,56,57,45,95] : Str) (shr .i64 (ior .i64 (ior .i64 (shl .i64 (z07 (bt p0 0)) 16) (shl .i64 (z07 (bt p0 1)) 8)) (z07 (bt p0 2))) 18)),(bt ([65,66,67,68,69,70,71,72,73,74,75,76,77,78,79,80,81,82,83,84,85,86,87,88,89,90,97,98,99,100,101,102,103,104,105,106,107,108,109,110,111,112,113,114,115,116,117,118,119,120,121,122,48,49,50,51,52,53,54,55,56,57,45,95] : Str) (iand .i64 (shr .i64 (ior .i64 (ior .i64 (shl .i64 (z07 (bt p0 0)) 16) (shl .i64 (z07 (bt p0 1)) 8)) (z07 (bt p0 2))) 12) 63)),(bt ([65,66,67,68,69,70,71,72,73,74,75,76,77,78,79,80,81,82,83,84,85,86,87,88,89,90,97,98,99,100,101,102,103,104,105,106,107,108,109,110,111,112,113,114,115,116,117,118,119,120,121,122,48,49,50,51,52,53,54,55,56,57,45,95] : Str) (iand .i64 (shr .i64 (ior .i64 (ior .i64 (shl .i64 (z07 (bt p0 0)) 16) (shl .i64 (z07 (bt p0 1)) 8)) (z07 (bt p0 2))) 6) 63)),(bt ([65,66,67,68,69,70,71,72,73,74,75,76,77,78,79,80,81,82,83,84,85,86,87,88,89,90,97,98,99,100,101,102,103,104,105,106,107,108,109,110,111,112,113,114,115,116,117,118,119,120,121,122,48,49,50,51,52,53,54,55,56,57,45,95] : Str) (iand .i64 (ior .i64 (ior .i64 (shl .i64 (z07 (bt p0 0)) 16) (shl .i64 (z07 (bt p0 1)) 8)) (z07 (bt p0 2))) 63))])
   else none
   else none
   else none
   else none
   else none
   else none
   else none
   else none
   else none
  else some p1
def z6T (n : Nat) (a0 : Str) : Option (Str × Int) :=
  if (decide ((a0.length : Int) > 65536)) then some ([],3)
  else
   if ((Int.tmod (a0.length : Int) 3) != 0) then some ([],8)
   else
    if cMk 0 (z07 ((z07 (Int.tdiv (a0.length : Int) 3)) * 4)) 1 then
    z3w n a0 (List.replicate 0 (0 : Int)) >>= fun b15 => some ((strOf b15),0)
    else none
def z7a (n : Nat) (a0 : z0f) : Option (Str × Int) :=
  z5a n >>= fun b2 =>
  if (!(alk (fun y => a0.z2M == y) (ast (fun y => 8 == y) 8 (⟨([49,65,65,76] : Str),6⟩ : z04) (ast (fun y => 7 == y) 7 (⟨([83] : Str),626⟩ : z04) (ast (fun y => 6 == y) 6 (⟨([77] : Str),2⟩ : z04) (ast (fun y => 5 == y) 5 (⟨([48,65] : Str),16⟩ : z04) (ast (fun y => 4 == y) 4 (⟨([65] : Str),32⟩ : z04) (ast (fun y => 3 == y) 3 (⟨([66] : Str),32⟩ : z04) (ast (fun y => 2 == y) 2 (⟨([68] : Str),32⟩ : z04) (ast (fun y => 1 == y) 1 (⟨([69] : Str),32⟩ : z04) ([] : List (Int × z04))))))))))).isSome) then some ([],7)
  else
   if ((a0.z8u.length : Int) != ((alk (fun y => a0.z2M == y) (ast (fun y => 8 == y) 8 (⟨([49,65,65,76] : Str),6⟩ : z04) (ast (fun y => 7 == y) 7 (⟨([83] : Str),626⟩ : z04) (ast (fun y => 6 == y) 6 (⟨([77] : Str),2⟩ : z04) (ast (fun y => 5 == y) 5 (⟨([48,65] : Str),16⟩ : z04) (ast (fun y => 4 == y) 4 (⟨([65] : Str),32⟩ : z04) (ast (fun y => 3 == y) 3 (⟨([66] : Str),32⟩ : z04) (ast (fun y => 2 == y) 2 (⟨([68] : Str),32⟩ : z04) (ast (fun y => 1 == y) 1 (⟨([69] : Str),32⟩ : z04) ([] : List (Int × z04))))))))))).getD z04.dft).zdI) then some ([],8)
   else
    z0T n ((alk (fun y => a0.z2M == y) (ast (fun y => 8 == y) 8 (⟨([49,65,65,76] : Str),6⟩ : z04) (ast (fun y => 7 == y) 7 (⟨([83] : Str),626⟩ : z04) (ast (fun y => 6 == y) 6 (⟨([77] : Str),2⟩ : z04) (ast (fun y => 5 == y) 5 (⟨([48,65] : Str),16⟩ : z04) (ast (fun y => 4 == y) 4 (⟨([65] : Str),32⟩ : z04) (ast (fun y => 3 == y) 3 (⟨([66] : Str),32⟩ : z04) (ast (fun y => 2 == y) 2 (⟨([68] : Str),32⟩ : z04) (ast (fun y => 1 == y) 1 (⟨([69] : Str),32⟩ : z04) ([] : List (Int × z04))))))))))).getD z04.dft) >>= fun b6 =>
    strings_Repeat ([0] : Str) b6 >>= fun b8 =>
    if fits (b8.length + a0.z8u.length) then
    z6T n (b8 ++ a0.z8u) >>= fun b11 =>
    z0T n ((alk (fun y => a0.z2M == y) (ast (fun y => 8 == y) 8 (⟨([49,65,65,76] : Str),6⟩ : z04) (ast (fun y => 7 == y) 7 (⟨([83] : Str),626⟩ : z04) (ast (fun y => 6 == y) 6 (⟨([77] : Str),2⟩ : z04) (ast (fun y => 5 == y) 5 (⟨([48,65] : Str),16⟩ : z04) (ast (fun y => 4 == y) 4 (⟨([65] : Str),32⟩ : z04) (ast (fun y => 3 == y) 3 (⟨([66] : Str),32⟩ : z04) (ast (fun y => 2 == y) 2 (⟨([68] : Str),32⟩ : z04) (ast (fun y => 1 == y) 1 (⟨([69] : Str),32⟩ : z04) ([] : List (Int × z04))))))))))).getD z04.dft) >>= fun b13 =>
    if cLo b13 b11.1.length then
    if fits ((((alk (fun y => a0.z2M == y) (ast (fun y => 8 == y) 8 (⟨([49,65,65,76] : Str),6⟩ : z04) (ast (fun y => 7 == y) 7 (⟨([83] : Str),626⟩ : z04) (ast (fun y => 6 == y) 6 (⟨([77] : Str),2⟩ : z04) (ast (fun y => 5 == y) 5 (⟨([48,65] : Str),16⟩ : z04) (ast (fun y => 4 == y) 4 (⟨([65] : Str),32⟩ : z04) (ast (fun y => 3 == y) 3 (⟨([66] : Str),32⟩ : z04) (ast (fun y => 2 == y) 2 (⟨([68] : Str),32⟩ : z04) (ast (fun y => 1 == y) 1 (⟨([69] : Str),32⟩ : z04) ([] : List (Int × z04))))))))))).getD z04.dft).z3L).length + (b11.1.drop (b13).toNat).length) then some ((((alk (fun y => a0.z2M == y) (ast (fun y => 8 == y) 8 (⟨([49,65,65,76] : Str),6⟩ : z04) (ast (fun y => 7 == y) 7 (⟨([83] : Str),626⟩ : z04) (ast (fun y => 6 == y) 6 (⟨([77] : Str),2⟩ : z04) (ast (fun y => 5 == y) 5 (⟨([48,65] : Str),16⟩ : z04) (ast (fun y => 4 == y) 4 (⟨([65] : Str),32⟩ : z04) (ast (fun y => 3 == y) 3 (⟨([66] : Str),32⟩ : z04) (ast (fun y => 2 == y) 2 (⟨([68] : Str),32⟩ : z04) (ast (fun y => 1 == y) 1 (⟨([69] : Str),32⟩ : z04) ([] : List (Int × z04))))))))))).getD z04.dft).z3L ++ (b11.1.drop (b13).toNat)),0)
    else none
    else none
    else none
def z4y (n : Nat) (a0 : Int) (a1 : Str) : Option Str :=
  z7a n (⟨a0,a1⟩ : z0f) >>= fun b2 => some b2.1
def z1q (n : Nat) (a0 : z08) (a1 : z02) : Option z08 :=
  z1F n a0 ([110] : Str) a1.z0L >>= fun b2 =>
  z1W n b2 ([118] : Str) a1.z0j >>= fun b4 =>
  z4y n 5 a1.z5W >>= fun b6 =>
  z1F n b4 ([117] : Str) b6 >>= fun b8 => some b8
def z2l (n : Nat) (a0 : Bool) : Option (List Int) :=
  if a0 then some (bytesOf ([116,114,117,101] : Str))
  else some (bytesOf ([102,97,108,115,101] : Str))
def z5v (n : Nat) (a0 : Bool) : Option (List Int) :=
  z2l n a0 >>= fun b2 => some b2
def z2A (n : Nat) (a0 : Int) (a1 : Int) : Option (List Int) :=
  if (decide (a0 < 0)) then
   z18 (z3S (0 - (z3S a0))) a1 [45] >>= fun b3 => some b3
  else
   z3X (z3S a0) a1 >>= fun b5 => some b5
def z6f (n : Nat) (a0 : Int) (a1 : Int) : Option (List Int) :=
  z2A n a0 a1 >>= fun b2 => some b2
def z9f (n : Nat) : Option Unit :=some ()
def z5U : Nat → Str → Int → Int → (List Int) → Option (List Int)
  | 0,_,_,_,_ => none
  | n + 1,p0,p1,p2,p3 =>
  if (decide (p2 < p1)) then
   if within p2 p0.length then
   if (alk (fun y => (bt p0 p2) == y) (ast (fun y => 13 == y) 13 114 (ast (fun y => 12 == y) 12 102 (ast (fun y => 10 == y) 10 110 (ast (fun y => 9 == y) 9 116 (ast (fun y => 8 == y) 8 98 (ast (fun y => 92 == y) 92 92 (ast (fun y => 34 == y) 34 34 ([] : List (Int × Int)))))))))).isSome then
    if fits ((p3.length + ([92,((alk (fun y => (bt p0 p2) == y) (ast (fun y => 13 == y) 13 114 (ast (fun y => 12 == y) 12 102 (ast (fun y => 10 == y) 10 110 (ast (fun y => 9 == y) 9 116 (ast (fun y => 8 == y) 8 98 (ast (fun y => 92 == y) 92 92 (ast (fun y => 34 == y) 34 34 ([] : List (Int × Int)))))))))).getD 0)]).length) * 1) then z5U n p0 p1 (z07 (p2 + 1)) (p3 ++ [92,((alk (fun y => (bt p0 p2) == y) (ast (fun y => 13 == y) 13 114 (ast (fun y => 12 == y) 12 102 (ast (fun y => 10 == y) 10 110 (ast (fun y => 9 == y) 9 116 (ast (fun y => 8 == y) 8 98 (ast (fun y => 92 == y) 92 92 (ast (fun y => 34 == y) 34 34 ([] : List (Int × Int)))))))))).getD 0)])
    else none
   else
    if (decide ((bt p0 p2) < 32)) then
     if within (shr .u8 (bt p0 p2) 4) 16 then
     if within (iand .u8 (bt p0 p2) 15) 16 then
     if fits ((p3.length + ([92,117,48,48,(bt ([48,49,50,51,52,53,54,55,56,57,97,98,99,100,101,102] : Str) (shr .u8 (bt p0 p2) 4)),(bt ([48,49,50,51,52,53,54,55,56,57,97,98,99,100,101,102] : Str) (iand .u8 (bt p0 p2) 15))]).length) * 1) then z5U n p0 p1 (z07 (p2 + 1)) (p3 ++ [92,117,48,48,(bt ([48,49,50,51,52,53,54,55,56,57,97,98,99,100,101,102] : Str) (shr .u8 (bt p0 p2) 4)),(bt ([48,49,50,51,52,53,54,55,56,57,97,98,99,100,101,102] : Str) (iand .u8 (bt p0 p2) 15))])
     else none
     else none
     else none
    else
     if fits ((p3.length + 1) * 1) then z5U n p0 p1 (z07 (p2 + 1)) (p3 ++ [(bt p0 p2)])
     else none
   else none
  else some p3
def zde (n : Nat) (a0 : Str) : Option (List Int) :=
  z9f n >>= fun b2 =>
  z5U n a0 (a0.length : Int) 0 [34] >>= fun b13 =>
  if fits ((b13.length + 1) * 1) then some (b13 ++ [34])
  else none
def z1T : Nat → Str → Int → Int → (List Int) → Option (List Int)
  | 0,_,_,_,_ => none
  | n + 1,p0,p1,p2,p3 =>
  if (decide (p2 < p1)) then
   if within p2 p0.length then
   if (alk (fun y => (bt p0 p2) == y) (ast (fun y => 13 == y) 13 114 (ast (fun y => 12 == y) 12 102 (ast (fun y => 10 == y) 10 110 (ast (fun y => 9 == y) 9 116 (ast (fun y => 8 == y) 8 98 (ast (fun y => 92 == y) 92 92 (ast (fun y => 34 == y) 34 34 ([] : List (Int × Int)))))))))).isSome then
    if fits ((p3.length + ([92,((alk (fun y => (bt p0 p2) == y) (ast (fun y => 13 == y) 13 114 (ast (fun y => 12 == y) 12 102 (ast (fun y => 10 == y) 10 110 (ast (fun y => 9 == y) 9 116 (ast (fun y => 8 == y) 8 98 (ast (fun y => 92 == y) 92 92 (ast (fun y => 34 == y) 34 34 ([] : List (Int × Int)))))))))).getD 0)]).length) * 1) then z1T n p0 p1 (z07 (p2 + 1)) (p3 ++ [92,((alk (fun y => (bt p0 p2) == y) (ast (fun y => 13 == y) 13 114 (ast (fun y => 12 == y) 12 102 (ast (fun y => 10 == y) 10 110 (ast (fun y => 9 == y) 9 116 (ast (fun y => 8 == y) 8 98 (ast (fun y => 92 == y) 92 92 (ast (fun y => 34 == y) 34 34 ([] : List (Int × Int)))))))))).getD 0)])
    else none
   else
    if (decide ((bt p0 p2) < 32)) then
     if within (shr .u8 (bt p0 p2) 4) 16 then
     if within (iand .u8 (bt p0 p2) 15) 16 then
     if fits ((p3.length + ([92,117,48,48,(bt ([48,49,50,51,52,53,54,55,56,57,97,98,99,100,101,102] : Str) (shr .u8 (bt p0 p2) 4)),(bt ([48,49,50,51,52,53,54,55,56,57,97,98,99,100,101,102] : Str) (iand .u8 (bt p0 p2) 15))]).length) * 1) then z1T n p0 p1 (z07 (p2 + 1)) (p3 ++ [92,117,48,48,(bt ([48,49,50,51,52,53,54,55,56,57,97,98,99,100,101,102] : Str) (shr .u8 (bt p0 p2) 4)),(bt ([48,49,50,51,52,53,54,55,56,57,97,98,99,100,101,102] : Str) (iand .u8 (bt p0 p2) 15))])
     else none
     else none
     else none
    else
     if fits ((p3.length + 1) * 1) then z1T n p0 p1 (z07 (p2 + 1)) (p3 ++ [(bt p0 p2)])
     else none
   else none
  else some p3
def z3R (n : Nat) (a0 : Str) (a1 : (List Int)) : Option (List Int) :=
  z9f n >>= fun b2 =>
  if fits ((a1.length + 1) * 1) then
  z1T n a0 (a0.length : Int) 0 (a1 ++ [34]) >>= fun b14 =>
  if fits ((b14.length + 1) * 1) then some (b14 ++ [34])
  else none
  else none
def z1a (n : Nat) (a0 : Bool) (a1 : (List Int)) : Option (List Int) :=
  if a0 then
   if fits ((a1.length + (bytesOf ([116,114,117,101] : Str)).length) * 1) then some (a1 ++ (bytesOf ([116,114,117,101] : Str)))
   else none
  else
   if fits ((a1.length + (bytesOf ([102,97,108,115,101] : Str)).length) * 1) then some (a1 ++ (bytesOf ([102,97,108,115,101] : Str)))
   else none
def z2Z (n : Nat) (a0 : Bool) (a1 : (List Int)) : Option (List Int) :=
  z1a n a0 a1 >>= fun b2 => some b2
def z1i (n : Nat) (a0 : Int) (a1 : Int) (a2 : (List Int)) : Option (List Int) :=
  if (decide (a0 < 0)) then
   if fits ((a2.length + 1) * 1) then
   z18 (z3S (0 - (z3S a0))) a1 (a2 ++ [45]) >>= fun b4 => some b4
   else none
  else
   z18 (z3S a0) a1 a2 >>= fun b6 => some b6
def z2C (n : Nat) (a0 : Int) (a1 : Int) (a2 : (List Int)) : Option (List Int) :=
  z1i n a0 a1 a2 >>= fun b2 => some b2
mutual
def z5T : Nat → Str → (List Int) → z00 → Option (List Int)
  | 0,_,_,_ => none
  | n + 1,p0,p1,p2 =>
  if within 0 p0.length then
  if fits ((p1.length + 1) * 1) then
  z3N n p0 p2.z09 (p2.z09.length : Int) 0 (p1 ++ [(bt p0 0)]) p2 >>= fun b29 =>
  if within 1 b29.1.length then
  if fits ((b29.2.length + 1) * 1) then some (b29.2 ++ [(bt b29.1 1)])
  else none
  else none
  else none
  else none
def z3N : Nat → Str → (List z00) → Int → Int → (List Int) → z00 → Option (Str × (List Int))
  | 0,_,_,_,_,_,_ => none
  | n + 1,p0,p1,p2,p3,p4,p5 =>
  if (decide (p3 < p2)) then
   if within p3 p1.length then
   if (decide (p3 > 0)) then
    if fits ((p4.length + 1) * 1) then z5N n p0 p3 p1 p2 p3 (p4 ++ [44]) p5 (rd z00.dft p1 p3)
    else none
   else z5N n p0 p3 p1 p2 p3 p4 p5 (rd z00.dft p1 p3)
   else none
  else some (p0,p4)
def z5N : Nat → Str → Int → (List z00) → Int → Int → (List Int) → z00 → z00 → Option (Str × (List Int))
  | 0,_,_,_,_,_,_,_,_ => none
  | n + 1,p0,p1,p2,p3,p4,p5,p6,p7 =>
  if (p6.z0i == 5) then
   if within p1 p6.z0d.length then
   z3R n (rd [] p6.z0d p1) p5 >>= fun b22 =>
   if fits ((b22.length + 1) * 1) then
   z3G n p7 (b22 ++ [58]) >>= fun b25 => z3N n p0 p2 p3 (z07 (p4 + 1)) b25 p6
   else none
   else none
  else
   z3G n p7 p5 >>= fun b27 => z3N n p0 p2 p3 (z07 (p4 + 1)) b27 p6
def z3G : Nat → z00 → (List Int) → Option (List Int)
  | 0,_,_ => none
  | n + 1,a0,a1 =>
  if (a0.z0i == 0) then
   if fits ((a1.length + (bytesOf ([110,117,108,108] : Str)).length) * 1) then some (a1 ++ (bytesOf ([110,117,108,108] : Str)))
   else none
  else
   if (a0.z0i == 1) then
    z2Z n a0.z0K a1 >>= fun b5 => some b5
   else
    if (a0.z0i == 2) then
     z2C n a0.z0n 10 a1 >>= fun b8 => some b8
    else
     if (a0.z0i == 3) then
      z3R n a0.z0D a1 >>= fun b11 => some b11
     else
      if (a0.z0i == 5) then z5T n ([123,125] : Str) a1 a0
      else z5T n ([91,93] : Str) a1 a0
end
mutual
def z6Q : Nat → Str → (List z00) → Int → Int → (List Int) → z00 → Option (Str × (List Int))
  | 0,_,_,_,_,_,_ => none
  | n + 1,p0,p1,p2,p3,p4,p5 =>
  if (decide (p3 < p2)) then
   if within p3 p1.length then
   if (decide (p3 > 0)) then
    if fits ((p4.length + 1) * 1) then z9b n p0 p3 p1 p2 p3 (p4 ++ [44]) p5 (rd z00.dft p1 p3)
    else none
   else z9b n p0 p3 p1 p2 p3 p4 p5 (rd z00.dft p1 p3)
   else none
  else some (p0,p4)
def z9b : Nat → Str → Int → (List z00) → Int → Int → (List Int) → z00 → z00 → Option (Str × (List Int))
  | 0,_,_,_,_,_,_,_,_ => none
  | n + 1,p0,p1,p2,p3,p4,p5,p6,p7 =>
  if (p6.z0i == 5) then
   if within p1 p6.z0d.length then
   z3R n (rd [] p6.z0d p1) p5 >>= fun b20 =>
   if fits ((b20.length + 1) * 1) then
   z3G n p7 (b20 ++ [58]) >>= fun b23 => z6Q n p0 p2 p3 (z07 (p4 + 1)) b23 p6
   else none
   else none
  else
   z3G n p7 p5 >>= fun b25 => z6Q n p0 p2 p3 (z07 (p4 + 1)) b25 p6
end
def zb2 (n : Nat) (p0 : Str) (p1 : z00) : Option (List Int) :=
  if within 0 p0.length then
  z6Q n p0 p1.z09 (p1.z09.length : Int) 0 [(bt p0 0)] p1 >>= fun b27 =>
  if within 1 b27.1.length then
  if fits ((b27.2.length + 1) * 1) then some (b27.2 ++ [(bt b27.1 1)])
  else none
  else none
  else none
def zdY (n : Nat) (a0 : z00) : Option (List Int) :=
  if (a0.z0i == 0) then some (bytesOf ([110,117,108,108] : Str))
  else
   if (a0.z0i == 1) then
    z5v n a0.z0K >>= fun b4 => some b4
   else
    if (a0.z0i == 2) then
     z6f n a0.z0n 10 >>= fun b7 => some b7
    else
     if (a0.z0i == 3) then
      zde n a0.z0D >>= fun b10 => some b10
     else
      if (a0.z0i == 5) then zb2 n ([123,125] : Str) a0
      else zb2 n ([91,93] : Str) a0
def z9V (n : Nat) (a0 : z00) : Option (Str × Int) :=
  zaY n a0 >>= fun b2 =>
  if (!b2) then some ([],1)
  else
   zdY n a0 >>= fun b5 =>
   if (decide ((b5.length : Int) > 65536)) then some ([],3)
   else some ((strOf b5),0)
def zaV (n : Nat) (a0 : z00) : Option (Str × Int) :=
  z9V n a0 >>= fun b2 => some (b2.1,b2.2)
def zeY (n : Nat) : Option Unit :=some ()
def z8J (n : Nat) : Option Unit :=some ()
def z2W : Nat → Str → Int → (List Int) → (List Int) → (List Int) → Option ((List Int) × (List Int) × (List Int))
  | 0,_,_,_,_,_ => none
  | n + 1,p0,p1,p2,p3,p4 =>
  if (decide (p1 < 16)) then
   if within (z07 (4 * p1)) p0.length then
   if within (z07 ((z07 (4 * p1)) + 1)) p0.length then
   if within (z07 ((z07 (4 * p1)) + 2)) p0.length then
   if within (z07 ((z07 (4 * p1)) + 3)) p0.length then
   if within p1 p4.length then
   if p4.length = 64 then
   if within p1 p4.length then z2W n p0 (z07 (p1 + 1)) p2 p3 (p4.set (p1).toNat (ior .u32 (ior .u32 (ior .u32 (shl .u32 (z0Z (bt p0 (z07 (4 * p1)))) 24) (shl .u32 (z0Z (bt p0 (z07 ((z07 (4 * p1)) + 1)))) 16)) (shl .u32 (z0Z (bt p0 (z07 ((z07 (4 * p1)) + 2)))) 8)) (z0Z (bt p0 (z07 ((z07 (4 * p1)) + 3))))))
   else none
   else none
   else none
   else none
   else none
   else none
   else none
  else some (p2,p3,p4)
def z5c (n : Nat) (a0 : Int) (a1 : Int) : Option Int :=
  if nn (iand .u64 (z3S a1) 31) then
  if nn (z3S (32 - (iand .u64 (z3S a1) 31))) then some (ior .u32 (shl .u32 a0 (iand .u64 (z3S a1) 31)) (shr .u32 a0 (z3S (32 - (iand .u64 (z3S a1) 31)))))
  else none
  else none
def z4c (n : Nat) (a0 : Int) (a1 : Int) : Option Int :=
  z5c n a0 (z07 (0 - a1)) >>= fun b2 => some b2
def z2T : Nat → Int → (List Int) → (List Int) → (List Int) → Option ((List Int) × (List Int) × (List Int))
  | 0,_,_,_,_ => none
  | n + 1,p0,p1,p2,p3 =>
  if (decide (p0 < 64)) then
   if within (z07 (p0 - 15)) p3.length then
   if p3.length = 64 then
   if within (z07 (p0 - 15)) p3.length then
   if within (z07 (p0 - 2)) p3.length then
   if p3.length = 64 then
   if within (z07 (p0 - 2)) p3.length then
   z4c n (rd 0 p3 (z07 (p0 - 15))) 7 >>= fun b19 =>
   z4c n (rd 0 p3 (z07 (p0 - 15))) 18 >>= fun b21 =>
   z4c n (rd 0 p3 (z07 (p0 - 2))) 17 >>= fun b23 =>
   z4c n (rd 0 p3 (z07 (p0 - 2))) 19 >>= fun b25 =>
   if within (z07 (p0 - 7)) p3.length then
   if p3.length = 64 then
   if within (z07 (p0 - 7)) p3.length then
   if within (z07 (p0 - 16)) p3.length then
   if p3.length = 64 then
   if within (z07 (p0 - 16)) p3.length then
   if within p0 p3.length then
   if p3.length = 64 then
   if within p0 p3.length then z2T n (z07 (p0 + 1)) p1 p2 (p3.set (p0).toNat (z0Z ((z0Z ((z0Z ((ixor .u32 (ixor .u32 b23 b25) (shr .u32 (rd 0 p3 (z07 (p0 - 2))) 10)) + (rd 0 p3 (z07 (p0 - 7))))) + (ixor .u32 (ixor .u32 b19 b21) (shr .u32 (rd 0 p3 (z07 (p0 - 15))) 3)))) + (rd 0 p3 (z07 (p0 - 16))))))
   else none
   else none
   else none
   else none
   else none
   else none
   else none
   else none
   else none
   else none
   else none
   else none
   else none
   else none
   else none
  else some (p1,p2,p3)
def z3a : Nat → Int → (List Int) → (List Int) → (List Int) → (List Int) → Option ((List Int) × (List Int) × (List Int))
  | 0,_,_,_,_,_ => none
  | n + 1,p0,p1,p2,p3,p4 =>
  if (decide (p0 < 64)) then
   if within 0 p4.length then
   if p4.length = 8 then
   if within 0 p4.length then
   if within 4 p4.length then
   if p4.length = 8 then
   if within 4 p4.length then
   if within 7 p4.length then
   if p4.length = 8 then
   if within 7 p4.length then
   z4c n (rd 0 p4 4) 6 >>= fun b50 =>
   z4c n (rd 0 p4 4) 11 >>= fun b52 =>
   z4c n (rd 0 p4 4) 25 >>= fun b54 =>
   if within 5 p4.length then
   if p4.length = 8 then
   if within 5 p4.length then
   if within 6 p4.length then
   if p4.length = 8 then
   if within 6 p4.length then
   if within p0 p2.length then
   if p2.length = 64 then
   if within p0 p2.length then
   if within p0 p3.length then
   if p3.length = 64 then
   if within p0 p3.length then
   z4c n (rd 0 p4 0) 2 >>= fun b68 =>
   z4c n (rd 0 p4 0) 13 >>= fun b70 =>
   z4c n (rd 0 p4 0) 22 >>= fun b72 =>
   if within 1 p4.length then
   if p4.length = 8 then
   if within 1 p4.length then
   if within 2 p4.length then
   if p4.length = 8 then
   if within 2 p4.length then
   if within 1 p4.length then
   if p4.length = 8 then
   if within 1 p4.length then
   if within 2 p4.length then
   if p4.length = 8 then
   if within 2 p4.length then
   if within 0 p4.length then
   if p4.length = 8 then
   if within 0 p4.length then
   if within 1 p4.length then
   if p4.length = 8 then
   if within 1 p4.length then
   if within 2 p4.length then
   if p4.length = 8 then
   if within 2 p4.length then
   if within 3 p4.length then
   if p4.length = 8 then
   if within 3 p4.length then
   if within 4 p4.length then
   if p4.length = 8 then
   if within 4 p4.length then
   if within 5 p4.length then
   if p4.length = 8 then
   if within 5 p4.length then
   if within 6 p4.length then
   if p4.length = 8 then
   if within 6 p4.length then
   if p4.length = 8 then z3a n (z07 (p0 + 1)) p1 p2 p3 [(z0Z ((z0Z ((z0Z ((z0Z ((z0Z ((rd 0 p4 7) + (ixor .u32 (ixor .u32 b50 b52) b54))) + (ixor .u32 (iand .u32 (rd 0 p4 4) (rd 0 p4 5)) (iand .u32 (ixor .u32 4294967295 (rd 0 p4 4)) (rd 0 p4 6))))) + (rd 0 p2 p0))) + (rd 0 p3 p0))) + (z0Z ((ixor .u32 (ixor .u32 b68 b70) b72) + (ixor .u32 (ixor .u32 (iand .u32 (rd 0 p4 0) (rd 0 p4 1)) (iand .u32 (rd 0 p4 0) (rd 0 p4 2))) (iand .u32 (rd 0 p4 1) (rd 0 p4 2))))))),(rd 0 p4 0),(rd 0 p4 1),(rd 0 p4 2),(z0Z ((rd 0 p4 3) + (z0Z ((z0Z ((z0Z ((z0Z ((rd 0 p4 7) + (ixor .u32 (ixor .u32 b50 b52) b54))) + (ixor .u32 (iand .u32 (rd 0 p4 4) (rd 0 p4 5)) (iand .u32 (ixor .u32 4294967295 (rd 0 p4 4)) (rd 0 p4 6))))) + (rd 0 p2 p0))) + (rd 0 p3 p0))))),(rd 0 p4 4),(rd 0 p4 5),(rd 0 p4 6)]
   else none
   else none
   else none
   else none
   else none
   else none
   else none
   else none
   else none
   else none
   else none
   else none
   else none
   else none
   else none
   else none
   else none
   else none
   else none
   else none
   else none
   else none
   else none
   else none
   else none
   else none
   else none
   else none
   else none
   else none
   else none
   else none
   else none
   else none
   else none
   else none
   else none
   else none
   else none
   else none
   else none
   else none
   else none
   else none
   else none
   else none
   else none
   else none
   else none
   else none
   else none
   else none
   else none
   else none
   else none
  else some (p1,p2,p4)
def z2O : Nat → (List Int) → Int → (List Int) → (List Int) → Option ((List Int) × (List Int))
  | 0,_,_,_,_ => none
  | n + 1,p0,p1,p2,p3 =>
  if (decide (p1 < 8)) then
   if within p1 p0.length then
   if p0.length = 8 then
   if within p1 p2.length then
   if p2.length = 8 then
   if within p1 p2.length then
   if within p1 p2.length then
   if p2.length = 8 then
   if within p1 p2.length then z2O n p0 (z07 (p1 + 1)) (p2.set (p1).toNat (z0Z ((rd 0 p2 p1) + (rd 0 p0 p1)))) p3
   else none
   else none
   else none
   else none
   else none
   else none
   else none
   else none
  else some (p2,p3)
def z7m (n : Nat) (a0 : Str) (a1 : (List Int)) (a2 : (List Int)) : Option ((List Int) × (List Int)) :=
  z2W n a0 0 a1 a2 (List.replicate 64 (0 : Int)) >>= fun b10 =>
  z2T n 16 b10.1 b10.2.1 b10.2.2 >>= fun b36 =>
  if b36.1.length = 8 then
  if b36.1.length = 8 then
  z3a n 0 b36.1 b36.2.1 b36.2.2 b36.1 >>= fun b108 =>
  if b108.2.2.length = 8 then
  z2O n b108.2.2 0 b108.1 b108.2.1 >>= fun b120 => some (b120.1,b120.2)
  else none
  else none
  else none
def z7F : Nat → Str → (List Str) → Int → (List Int) → (List Int) → Option ((List Str) × Int × (List Int) × (List Int))
  | 0,_,_,_,_,_ => none
  | n + 1,p0,p1,p2,p3,p4 =>
  if (!(p0 == [])) then
   z7m n p0 p3 p4 >>= fun b13 =>
   if cLo 64 p0.length then z7F n (p0.drop 64) p1 p2 b13.1 b13.2
   else none
  else some (p1,p2,p3,p4)
def z6P : Nat → (List Str) → Int → (List Int) → (List Int) → Option (List Int)
  | 0,_,_,_,_ => none
  | n + 1,p0,p1,p2,p3 =>
  if (decide (p1 < 2)) then
   if within p1 p0.length then
   z7F n (rd [] p0 p1) p0 p1 p2 p3 >>= fun b16 => z6P n b16.1 (z07 (b16.2.1 + 1)) b16.2.2.1 b16.2.2.2
   else none
  else some p2
def z95 : Nat → (List Int) → Int → (List Int) → Option (List Int)
  | 0,_,_,_ => none
  | n + 1,p0,p1,p2 =>
  if (decide (p1 < 8)) then
   if within p1 p0.length then
   if p0.length = 8 then
   if within (z07 (4 * p1)) p2.length then
   if p2.length = 32 then
   if within (z07 (4 * p1)) p2.length then
   if within (z07 ((z07 (4 * p1)) + 1)) ((p2.set (z07 (4 * p1)).toNat (w_u8 (shr .u32 (rd 0 p0 p1) 24))).length) then
   if (p2.set (z07 (4 * p1)).toNat (w_u8 (shr .u32 (rd 0 p0 p1) 24))).length = 32 then
   if within (z07 ((z07 (4 * p1)) + 1)) ((p2.set (z07 (4 * p1)).toNat (w_u8 (shr .u32 (rd 0 p0 p1) 24))).length) then
   if within (z07 ((z07 (4 * p1)) + 2)) (((p2.set (z07 (4 * p1)).toNat (w_u8 (shr .u32 (rd 0 p0 p1) 24))).set (z07 ((z07 (4 * p1)) + 1)).toNat (w_u8 (shr .u32 (rd 0 p0 p1) 16))).length) then
   if ((p2.set (z07 (4 * p1)).toNat (w_u8 (shr .u32 (rd 0 p0 p1) 24))).set (z07 ((z07 (4 * p1)) + 1)).toNat (w_u8 (shr .u32 (rd 0 p0 p1) 16))).length = 32 then
   if within (z07 ((z07 (4 * p1)) + 2)) (((p2.set (z07 (4 * p1)).toNat (w_u8 (shr .u32 (rd 0 p0 p1) 24))).set (z07 ((z07 (4 * p1)) + 1)).toNat (w_u8 (shr .u32 (rd 0 p0 p1) 16))).length) then
   if within (z07 ((z07 (4 * p1)) + 3)) ((((p2.set (z07 (4 * p1)).toNat (w_u8 (shr .u32 (rd 0 p0 p1) 24))).set (z07 ((z07 (4 * p1)) + 1)).toNat (w_u8 (shr .u32 (rd 0 p0 p1) 16))).set (z07 ((z07 (4 * p1)) + 2)).toNat (w_u8 (shr .u32 (rd 0 p0 p1) 8))).length) then
   if (((p2.set (z07 (4 * p1)).toNat (w_u8 (shr .u32 (rd 0 p0 p1) 24))).set (z07 ((z07 (4 * p1)) + 1)).toNat (w_u8 (shr .u32 (rd 0 p0 p1) 16))).set (z07 ((z07 (4 * p1)) + 2)).toNat (w_u8 (shr .u32 (rd 0 p0 p1) 8))).length = 32 then
   if within (z07 ((z07 (4 * p1)) + 3)) ((((p2.set (z07 (4 * p1)).toNat (w_u8 (shr .u32 (rd 0 p0 p1) 24))).set (z07 ((z07 (4 * p1)) + 1)).toNat (w_u8 (shr .u32 (rd 0 p0 p1) 16))).set (z07 ((z07 (4 * p1)) + 2)).toNat (w_u8 (shr .u32 (rd 0 p0 p1) 8))).length) then z95 n p0 (z07 (p1 + 1)) ((((p2.set (z07 (4 * p1)).toNat (w_u8 (shr .u32 (rd 0 p0 p1) 24))).set (z07 ((z07 (4 * p1)) + 1)).toNat (w_u8 (shr .u32 (rd 0 p0 p1) 16))).set (z07 ((z07 (4 * p1)) + 2)).toNat (w_u8 (shr .u32 (rd 0 p0 p1) 8))).set (z07 ((z07 (4 * p1)) + 3)).toNat (w_u8 (rd 0 p0 p1)))
   else none
   else none
   else none
   else none
   else none
   else none
   else none
   else none
   else none
   else none
   else none
   else none
   else none
   else none
  else some p2
def ziV (n : Nat) (a0 : Str) : Option Str :=
  zeY n >>= fun b2 =>
  z8J n >>= fun b4 =>
  if cLo (z07 ((z07 (Int.tdiv (a0.length : Int) 64)) * 64)) a0.length then
  if cLo (z07 ((z07 (Int.tdiv (a0.length : Int) 64)) * 64)) a0.length then
  zqS (a0.drop (z07 ((z07 (Int.tdiv (a0.length : Int) 64)) * 64)).toNat) (a0.length : Int) >>= fun b8 =>
  z6P n [(a0.take (z07 ((z07 (Int.tdiv (a0.length : Int) 64)) * 64)).toNat),b8] 0 [1779033703,3144134277,1013904242,2773480762,1359893119,2600822924,528734635,1541459225] [1116352408,1899447441,3049323471,3921009573,961987163,1508970993,2453635748,2870763221,3624381080,310598401,607225278,1426881987,1925078388,2162078206,2614888103,3248222580,3835390401,4022224774,264347078,604807628,770255983,1249150122,1555081692,1996064986,2554220882,2821834349,2952996808,3210313671,3336571891,3584528711,113926993,338241895,666307205,773529912,1294757372,1396182291,1695183700,1986661051,2177026350,2456956037,2730485921,2820302411,3259730800,3345764771,3516065817,3600352804,4094571909,275423344,430227734,506948616,659060556,883997877,958139571,1322822218,1537002063,1747873779,1955562222,2024104815,2227730452,2361852424,2428436474,2756734187,3204031479,3329325298] >>= fun b18 =>
  if b18.length = 8 then
  z95 n b18 0 (List.replicate 32 (0 : Int)) >>= fun b36 =>
  if b36.length = 32 then some (strOf b36)
  else none
  else none
  else none
  else none
def zay (n : Nat) (a0 : Str) : Option Str :=
  ziV n a0 >>= fun b2 =>
  z4y n 1 b2 >>= fun b4 => some b4
def z3E (n : Nat) (a0 : z02) : Option (Str × Int) :=
  z5h n a0 >>= fun b2 =>
  if (!b2) then some ([],47)
  else
   zgc n [] [] >>= fun b5 =>
   z1q n (⟨⟨b5.z0i,b5.z0K,b5.z0n,b5.z0D,b5.z0d,b5.z09⟩⟩ : z08) a0 >>= fun b7 =>
   zaV n b7.g_n >>= fun b9 =>
   if (b9.2 != 0) then some ([],b9.2)
   else
    zay n b9.1 >>= fun b12 => some (b12,0)
def z8b : Nat → (List Str) → Int → Int → z00 → z00 → Option (Sum Unit (z00 × z00))
  | 0,_,_,_,_,_ => none
  | n + 1,p0,p1,p2,p3,p4 =>
  if (decide (p2 < p1)) then
   if within p2 p0.length then
   if within p2 p4.z0d.length then
   if (!((rd [] p4.z0d p2) == (rd [] p0 p2))) then some (.inl ())
   else z8b n p0 p1 (z07 (p2 + 1)) p3 p4
   else none
   else none
  else some (.inr (p3,p4))
mutual
def z7Y : Nat → (List z00) → Int → Int → z00 → Option (Sum Unit Unit)
  | 0,_,_,_,_ => none
  | n + 1,p0,p1,p2,p3 =>
  if (decide (p2 < p1)) then
   if within p2 p0.length then
   if within p2 p3.z09.length then
   z8a n (rd z00.dft p0 p2) (rd z00.dft p3.z09 p2) >>= fun b13 =>
   if (!b13) then some (.inl ())
   else z7Y n p0 p1 (z07 (p2 + 1)) p3
   else none
   else none
  else some (.inr ())
def z8a : Nat → z00 → z00 → Option Bool
  | 0,_,_ => none
  | n + 1,a0,a1 =>
  if ((((((a0.z0i != a1.z0i) || (!(a0.z0K == a1.z0K))) || (a0.z0n != a1.z0n)) || (!(a0.z0D == a1.z0D))) || ((a0.z0d.length : Int) != (a1.z0d.length : Int))) || ((a0.z09.length : Int) != (a1.z09.length : Int))) then some false
  else
   z8b n a0.z0d (a0.z0d.length : Int) 0 a0 a1 >>= fun b6 =>
   match b6 with
   | .inl b7 => some false
   | .inr b8 =>
    z7Y n b8.1.z09 (b8.1.z09.length : Int) 0 b8.2 >>= fun b15 =>
    match b15 with
    | .inl b16 => some false
    | .inr b17 => some true
end
def z1l : Nat → (List z02) → Int → Int → z03 → Option (Sum Unit z03)
  | 0,_,_,_,_ => none
  | n + 1,p0,p1,p2,p3 =>
  if (decide (p2 < p1)) then
   if within p2 p0.length then
   z3d n p3 ((rd z02.dft p0 p2).z0L) >>= fun b13 =>
   z3j n p3 >>= fun b15 =>
   z3d n b15 ((rd z02.dft p0 p2).z0L) >>= fun b17 =>
   z3E n (rd z02.dft p0 p2) >>= fun b19 =>
   if ((!b13.2) || b17.2) then some (.inl ())
   else
    z8a n b13.1 (⟨(rd z02.dft p0 p2).z0j.z0i,(rd z02.dft p0 p2).z0j.z0K,(rd z02.dft p0 p2).z0j.z0n,(rd z02.dft p0 p2).z0j.z0D,(rd z02.dft p0 p2).z0j.z0d,(rd z02.dft p0 p2).z0j.z09⟩ : z00) >>= fun b22 =>
    if ((!b22) || (b19.2 != 0)) then some (.inl ())
    else
     if within p2 p3.z0k.length then
     if (!(b19.1 == (rd [] p3.z0k p2))) then some (.inl ())
     else z1l n p0 p1 (z07 (p2 + 1)) p3
     else none
   else none
  else some (.inr p3)
def zib (n : Nat) (a0 : (List Int)) : Option Bool :=some (decide ((a0.length : Int) ≤ 500))
def z3D (n : Nat) (a0 : z04) : Option Int :=
  z0T n a0 >>= fun b2 =>
  z0T n a0 >>= fun b4 => some (z07 ((z07 ((a0.z3L.length : Int) + (z07 ((z07 (Int.tdiv (z07 (a0.zdI + b2)) 3)) * 4)))) - b4))
def z4V : Nat → Int → (List Int) → Option (List Int)
  | 0,_,_ => none
  | n + 1,p0,p1 =>
  if (decide (p0 < 64)) then
   if within p0 64 then
   if within (bt ([65,66,67,68,69,70,71,72,73,74,75,76,77,78,79,80,81,82,83,84,85,86,87,88,89,90,97,98,99,100,101,102,103,104,105,106,107,108,109,110,111,112,113,114,115,116,117,118,119,120,121,122,48,49,50,51,52,53,54,55,56,57,45,95] : Str) p0) p1.length then
   if p1.length = 256 then
   if within (bt ([65,66,67,68,69,70,71,72,73,74,75,76,77,78,79,80,81,82,83,84,85,86,87,88,89,90,97,98,99,100,101,102,103,104,105,106,107,108,109,110,111,112,113,114,115,116,117,118,119,120,121,122,48,49,50,51,52,53,54,55,56,57,45,95] : Str) p0) p1.length then z4V n (z07 (p0 + 1)) (p1.set (bt ([65,66,67,68,69,70,71,72,73,74,75,76,77,78,79,80,81,82,83,84,85,86,87,88,89,90,97,98,99,100,101,102,103,104,105,106,107,108,109,110,111,112,113,114,115,116,117,118,119,120,121,122,48,49,50,51,52,53,54,55,56,57,45,95] : Str) p0).toNat (w_u8 (z07 (p0 + 1))))
   else none
   else none
   else none
   else none
  else some p1
def z8M (n : Nat) : Option (List Int) :=
  z4V n 0 (List.replicate 256 (0 : Int)) >>= fun b7 =>
  if b7.length = 256 then
  if b7.length = 256 then if b7.length = 256 then some b7 else none
  else none
  else none
def z9N (n : Nat) : Option (List Int) :=
  z8M n >>= fun b2 =>
  if b2.length = 256 then if b2.length = 256 then some b2 else none
  else none
def ze7 (n : Nat) (a0 : Int) : Option (Int × Bool) :=
  z9N n >>= fun b2 =>
  if within a0 b2.length then
  if b2.length = 256 then
  if ((rd 0 b2 a0) == 0) then some (0,false)
  else
   z9N n >>= fun b7 =>
   if within a0 b7.length then
   if b7.length = 256 then some ((z07 ((z07 (rd 0 b7 a0)) - 1)),true)
   else none
   else none
  else none
  else none
def z7e : Nat → Str → Int → Int → Int → Option (Sum Unit Int)
  | 0,_,_,_,_ => none
  | n + 1,p0,p1,p2,p3 =>
  if (decide (p3 < p2)) then
   if within p3 p0.length then
   ze7 n (bt p0 p3) >>= fun b4 =>
   if (!b4.2) then some (.inl ())
   else z7e n p0 (ior .i64 (shl .i64 p1 6) b4.1) p2 (z07 (p3 + 1))
   else none
  else some (.inr p1)
def zct (n : Nat) (a0 : Str) : Option (Int × Bool) :=
  z7e n a0 0 (a0.length : Int) 0 >>= fun b6 =>
  match b6 with
  | .inl b7 => some (0,false)
  | .inr b8 => some (b8,true)
def z6V : Nat → Str → (List Int) → Option (Sum (List Int) Unit)
  | 0,_,_ => none
  | n + 1,p0,p1 =>
  if (!(p0 == [])) then
   if cLo 4 p0.length then
   zct n (p0.take 4) >>= fun b7 =>
   if (!b7.2) then some (.inr ())
   else
    if fits ((p1.length + 3) * 1) then
    if cLo 4 p0.length then z6V n (p0.drop 4) (p1 ++ [(w_u8 (shr .i64 b7.1 16)),(w_u8 (shr .i64 b7.1 8)),(w_u8 b7.1)])
    else none
    else none
   else none
  else some (.inl p1)
def zcz (n : Nat) (a0 : Str) : Option (Str × Int) :=
  if (decide ((a0.length : Int) > 131072)) then some ([],3)
  else
   if ((Int.tmod (a0.length : Int) 4) != 0) then some ([],8)
   else
    if cMk 0 (z07 ((z07 (Int.tdiv (a0.length : Int) 4)) * 3)) 1 then
    z6V n a0 (List.replicate 0 (0 : Int)) >>= fun b11 =>
    match b11 with
    | .inl b12 => some ((strOf b12),0)
    | .inr b13 => some ([],4)
    else none
def z1b (n : Nat) (a0 : Str) (a1 : Str) : Option Bool :=
  if (decide ((a0.length : Int) ≥ (a1.length : Int))) then
   if cLo (a1.length : Int) a0.length then some ((a0.take (a1.length : Int).toNat) == a1)
   else none
  else some false
def z2D (n : Nat) (a0 : Str) (a1 : Str) : Option (Str × Bool) :=
  z1b n a0 a1 >>= fun b2 =>
  if (!b2) then some (a0,false)
  else
   if cLo (a1.length : Int) a0.length then some ((a0.drop (a1.length : Int).toNat),true)
   else none
def strings_CutPrefix (n : Nat) (a0 : Str) (a1 : Str) : Option (Str × Bool) :=
  z2D n a0 a1 >>= fun b2 => some (b2.1,b2.2)
def z8R (n : Nat) (a0 : Str) : Option (z0f × Int × Int) :=
  z2r a0 >>= fun b2 =>
  if (!b2.2.2) then some ((⟨0,[]⟩ : z0f),0,7)
  else
   z3D n b2.2.1 >>= fun b5 =>
   if (decide ((a0.length : Int) < b5)) then some ((⟨0,[]⟩ : z0f),0,8)
   else
    z0T n b2.2.1 >>= fun b8 =>
    strings_Repeat ([0] : Str) b8 >>= fun b10 =>
    z0T n b2.2.1 >>= fun b12 =>
    strings_Repeat ([65] : Str) b12 >>= fun b14 =>
    z3D n b2.2.1 >>= fun b16 =>
    if cLH (b2.2.1.z3L.length : Int) b16 a0.length then
    if fits (b14.length + ((a0.take (b16).toNat).drop (b2.2.1.z3L.length : Int).toNat).length) then
    zcz n (b14 ++ ((a0.take (b16).toNat).drop (b2.2.1.z3L.length : Int).toNat)) >>= fun b20 =>
    strings_CutPrefix n b20.1 b10 >>= fun b22 =>
    if ((b20.2 != 0) || (!b22.2)) then some ((⟨0,[]⟩ : z0f),0,4)
    else
     z3D n b2.2.1 >>= fun b25 => some ((⟨b2.1,b22.1⟩ : z0f),b25,0)
    else none
    else none
def zb8 (n : Nat) (a0 : Int) (a1 : Str) : Option (Str × Int) :=
  z8R n a1 >>= fun b2 =>
  if (b2.2.2 != 0) then some ([],b2.2.2)
  else
   if (b2.1.z2M != a0) then some ([],7)
   else
    if (b2.2.1 != (a1.length : Int)) then some ([],8)
    else some (b2.1.z8u,0)
def z2Q (n : Nat) (a0 : Str) : Option Bool :=
  zb8 n 1 a0 >>= fun b2 => some (b2.2 == 0)
def z7x (n : Nat) (a0 : Str) : Option Bool :=
  z2Q n a0 >>= fun b2 => some (!b2)
def z1f : Nat → (List Str) → Int → Int → Option (Sum Int Unit)
  | 0,_,_,_ => none
  | n + 1,p0,p1,p2 =>
  if (decide (p2 < p1)) then
   if within p2 p0.length then
   z7x n (rd [] p0 p2) >>= fun b4 =>
   if b4 then some (.inl p2)
   else z1f n p0 p1 (z07 (p2 + 1))
   else none
  else some (.inr ())
def z2s (n : Nat) (a0 : (List Str)) : Option Int :=
  z1f n a0 (a0.length : Int) 0 >>= fun b6 =>
  match b6 with
  | .inl b7 => some b7
  | .inr b8 => some (-1)
def z1g (n : Nat) (a0 : (List Str)) : Option Bool :=
  z2s n a0 >>= fun b2 => some (decide (b2 ≥ 0))
def z8P (n : Nat) (a0 : z03) : Option Bool :=
  z2Q n a0.z0I >>= fun b2 =>
  if (!b2) then some false
  else
   z2Q n a0.z0u >>= fun b5 =>
   if (!b5) then some false
   else
    z2Q n a0.z0s >>= fun b8 =>
    if (!b8) then some false
    else
     if (!(a0.z0N == [])) then
      z2Q n a0.z0N >>= fun b12 =>
      if ((!b12) || (decide ((a0.z0k.length : Int) > 32))) then some false
      else
       z1g n a0.z0k >>= fun b16 =>
       if b16 then some false
       else
        z8r a0 >>= fun b19 =>
        if b19 then
         zaR a0 >>= fun b22 => some b22
        else some false
     else
      if (decide ((a0.z0k.length : Int) > 32)) then some false
      else
       z1g n a0.z0k >>= fun b24 =>
       if b24 then some false
       else
        z8r a0 >>= fun b27 =>
        if b27 then
         zaR a0 >>= fun b30 => some b30
        else some false
def z1A : Nat → (List Str) → Str → Int → Int → Option (Sum Int Unit)
  | 0,_,_,_,_ => none
  | n + 1,p0,p1,p2,p3 =>
  if (decide (p3 < p2)) then
   if within p3 p0.length then
   if (p1 == (rd [] p0 p3)) then some (.inl p3)
   else z1A n p0 p1 p2 (z07 (p3 + 1))
   else none
  else some (.inr ())
def z3l (n : Nat) (a0 : (List Str)) (a1 : Str) : Option Int :=
  z1A n a0 a1 (a0.length : Int) 0 >>= fun b4 =>
  match b4 with
  | .inl b5 => some b5
  | .inr b6 => some (-1)
def ziM (n : Nat) (a0 : z00) (a1 : Str) : Option Int :=
  if (a0.z0i != 5) then some (-1)
  else
   if cLo (if (a0.z09.length : Int) < (a0.z0d.length : Int) then (a0.z09.length : Int) else (a0.z0d.length : Int)) a0.z0d.length then
   z3l n (a0.z0d.take (if (a0.z09.length : Int) < (a0.z0d.length : Int) then (a0.z09.length : Int) else (a0.z0d.length : Int)).toNat) a1 >>= fun b4 => some b4
   else none
def zp8 (n : Nat) (a0 : z00) (a1 : Str) : Option (z00 × Bool) :=
  ziM n a0 a1 >>= fun b2 =>
  if (decide (b2 < 0)) then some ((⟨0,false,0,[],[],[]⟩ : z00),false)
  else
   if within b2 a0.z09.length then
   z9O n (rd z00.dft a0.z09 b2) >>= fun b6 => some (b6,true)
   else none
def z7V (n : Nat) (a0 : z03) : Option (z03 × Int) :=
  z8P n a0 >>= fun b2 =>
  if (!b2) then some ((⟨[],[],[],[],[],[],[],[],0,[]⟩ : z03),46)
  else
   zei a0 >>= fun b5 =>
   if (b5.2.2 != 0) then some ((⟨[],[],[],[],[],[],[],[],0,[]⟩ : z03),b5.2.2)
   else
    zp8 n b5.1 ([100] : Str) >>= fun b8 =>
    z6d n a0 >>= fun b10 => some ((⟨b8.1.z0D,b10.z0I,b10.z0u,b10.z0N,b10.z0s,b10.z0k,b10.z0H,b10.z0e,b10.z1z,b10.z0z⟩ : z03),0)
def za8 : Nat → Int → Int → z03 → z03 → Option (Sum Unit (z03 × z03))
  | 0,_,_,_,_ => none
  | n + 1,p0,p1,p2,p3 =>
  if (decide (p1 < p0)) then
   if within p1 p2.z0z.length then
   if within p1 p3.z0z.length then
   if (!(((rd z06.dft p2.z0z p1).z0L == (rd z06.dft p3.z0z p1).z0L) && (((rd z06.dft p2.z0z p1).zaB == (rd z06.dft p3.z0z p1).zaB) && (((rd z06.dft p2.z0z p1).z0s == (rd z06.dft p3.z0z p1).z0s) && (((rd z06.dft p2.z0z p1).z2h == (rd z06.dft p3.z0z p1).z2h) && true))))) then some (.inl ())
   else za8 n p0 (z07 (p1 + 1)) p2 p3
   else none
   else none
  else some (.inr (p2,p3))
def z5K : Nat → (List Str) → (List Str) → Int → Int → Option (Sum Unit Unit)
  | 0,_,_,_,_ => none
  | n + 1,p0,p1,p2,p3 =>
  if (decide (p3 < p2)) then
   if within p3 p0.length then
   if within p3 p1.length then
   if (!((rd [] p0 p3) == (rd [] p1 p3))) then some (.inl ())
   else z5K n p0 p1 p2 (z07 (p3 + 1))
   else none
   else none
  else some (.inr ())
def z9X (n : Nat) (a0 : (List Str)) (a1 : (List Str)) : Option Bool :=
  if ((a0.length : Int) != (a1.length : Int)) then some false
  else
   z5K n a0 a1 (a0.length : Int) 0 >>= fun b6 =>
   match b6 with
   | .inl b7 => some false
   | .inr b8 => some true
def z6j : Nat → (List Int) → (List Int) → Int → Int → Option (Sum Unit Unit)
  | 0,_,_,_,_ => none
  | n + 1,p0,p1,p2,p3 =>
  if (decide (p3 < p2)) then
   if within p3 p0.length then
   if within p3 p1.length then
   if ((rd 0 p0 p3) != (rd 0 p1 p3)) then some (.inl ())
   else z6j n p0 p1 p2 (z07 (p3 + 1))
   else none
   else none
  else some (.inr ())
def zbc (n : Nat) (a0 : (List Int)) (a1 : (List Int)) : Option Bool :=
  if ((a0.length : Int) != (a1.length : Int)) then some false
  else
   z6j n a0 a1 (a0.length : Int) 0 >>= fun b6 =>
   match b6 with
   | .inl b7 => some false
   | .inr b8 => some true
def z3h : Nat → (List z02) → (List z02) → Int → Int → Option (Sum Unit Unit)
  | 0,_,_,_,_ => none
  | n + 1,p0,p1,p2,p3 =>
  if (decide (p3 < p2)) then
   if within p3 p0.length then
   if within p3 p1.length then
   if (!((rd z02.dft p0 p3).z0L == (rd z02.dft p1 p3).z0L)) then some (.inl ())
   else
    if within p3 p0.length then
    if within p3 p1.length then
    if (!((rd z02.dft p0 p3).z5W == (rd z02.dft p1 p3).z5W)) then some (.inl ())
    else
     if within p3 p0.length then
     if within p3 p1.length then
     z8a n (⟨(rd z02.dft p0 p3).z0j.z0i,(rd z02.dft p0 p3).z0j.z0K,(rd z02.dft p0 p3).z0j.z0n,(rd z02.dft p0 p3).z0j.z0D,(rd z02.dft p0 p3).z0j.z0d,(rd z02.dft p0 p3).z0j.z09⟩ : z00) (⟨(rd z02.dft p1 p3).z0j.z0i,(rd z02.dft p1 p3).z0j.z0K,(rd z02.dft p1 p3).z0j.z0n,(rd z02.dft p1 p3).z0j.z0D,(rd z02.dft p1 p3).z0j.z0d,(rd z02.dft p1 p3).z0j.z09⟩ : z00) >>= fun b12 =>
     if (!b12) then some (.inl ())
     else z3h n p0 p1 p2 (z07 (p3 + 1))
     else none
     else none
    else none
    else none
   else none
   else none
  else some (.inr ())
def z6b (n : Nat) (a0 : (List z02)) (a1 : (List z02)) : Option Bool :=
  if ((a0.length : Int) != (a1.length : Int)) then some false
  else
   z3h n a0 a1 (a0.length : Int) 0 >>= fun b14 =>
   match b14 with
   | .inl b15 => some false
   | .inr b16 => some true
def ziO (n : Nat) (a0 : z03) (a1 : z03) : Option Bool :=
  if ((a0.z0z.length : Int) != (a1.z0z.length : Int)) then some false
  else
   za8 n (a0.z0z.length : Int) 0 a0 a1 >>= fun b6 =>
   match b6 with
   | .inl b7 => some false
   | .inr b8 =>
    if ((((((b8.1.z3u == b8.2.z3u) && (b8.1.z0I == b8.2.z0I)) && (b8.1.z0u == b8.2.z0u)) && (b8.1.z0N == b8.2.z0N)) && (b8.1.z0s == b8.2.z0s)) && (b8.1.z1z == b8.2.z1z)) then
     z9X n b8.1.z0k b8.2.z0k >>= fun b11 =>
     if b11 then
      zbc n b8.1.z0H b8.2.z0H >>= fun b14 =>
      if b14 then
       z6b n b8.1.z0e b8.2.z0e >>= fun b17 => some b17
      else some false
     else some false
    else some false
def z8O (n : Nat) (a0 : z03) : Option Bool :=
  z7V n a0 >>= fun b2 => some ((b2.2 == 0) && (b2.1.z3u == a0.z3u))
def z6e (n : Nat) (a0 : z03) : Option (List Str) :=
  if ([a0.z3u,a0.z0I,a0.z0u,a0.z0N,a0.z0s,[]]).length = 6 then if ([a0.z3u,a0.z0I,a0.z0u,a0.z0N,a0.z0s,[]]).length = 6 then some ([a0.z3u,a0.z0I,a0.z0u,a0.z0N,a0.z0s,[]]) else none
  else none
def z1C : Nat → (List Str) → (List Str) → Int → Int → Option (Sum Unit Unit)
  | 0,_,_,_,_ => none
  | n + 1,p0,p1,p2,p3 =>
  if (decide (p3 < p2)) then
   if within p3 p0.length then
   if within p3 p1.length then
   if (!((rd [] p0 p3) == (rd [] p1 p3))) then some (.inl ())
   else z1C n p0 p1 p2 (z07 (p3 + 1))
   else none
   else none
  else some (.inr ())
def z2k (n : Nat) (a0 : (List Str)) (a1 : (List Str)) : Option Bool :=
  if ((a0.length : Int) != (a1.length : Int)) then some false
  else
   z1C n a0 a1 (a0.length : Int) 0 >>= fun b6 =>
   match b6 with
   | .inl b7 => some false
   | .inr b8 => some true
def z2Y : Nat → (List Int) → (List Int) → Int → Int → Option (Sum Unit Unit)
  | 0,_,_,_,_ => none
  | n + 1,p0,p1,p2,p3 =>
  if (decide (p3 < p2)) then
   if within p3 p0.length then
   if within p3 p1.length then
   if ((rd 0 p0 p3) != (rd 0 p1 p3)) then some (.inl ())
   else z2Y n p0 p1 p2 (z07 (p3 + 1))
   else none
   else none
  else some (.inr ())
def z5D (n : Nat) (a0 : (List Int)) (a1 : (List Int)) : Option Bool :=
  if ((a0.length : Int) != (a1.length : Int)) then some false
  else
   z2Y n a0 a1 (a0.length : Int) 0 >>= fun b6 =>
   match b6 with
   | .inl b7 => some false
   | .inr b8 => some true
mutual
def zfn : Nat → z00 → z00 → Option Bool
  | 0,_,_ => none
  | n + 1,a0,a1 =>
  if ((((a0.z0i == a1.z0i) && (a0.z0K == a1.z0K)) && (a0.z0n == a1.z0n)) && (a0.z0D == a1.z0D)) then
   z2k n a0.z0d a1.z0d >>= fun b3 =>
   if b3 then
    z0G n a0.z09 a1.z09 >>= fun b6 => some b6
   else some false
  else some false
def z0A : Nat → (List z00) → (List z00) → Int → Int → Option (Sum Unit Unit)
  | 0,_,_,_,_ => none
  | n + 1,p0,p1,p2,p3 =>
  if (decide (p3 < p2)) then
   if within p3 p1.length then
   if within p3 p0.length then
   zfn n (rd z00.dft p1 p3) (rd z00.dft p0 p3) >>= fun b6 =>
   if (!b6) then some (.inl ())
   else z0A n p0 p1 p2 (z07 (p3 + 1))
   else none
   else none
  else some (.inr ())
def z0G : Nat → (List z00) → (List z00) → Option Bool
  | 0,_,_ => none
  | n + 1,a0,a1 =>
  if ((a0.length : Int) != (a1.length : Int)) then some false
  else
   z0A n a1 a0 (a0.length : Int) 0 >>= fun b8 =>
   match b8 with
   | .inl b9 => some false
   | .inr b10 => some true
end
def z8l (n : Nat) (a0 : z02) (a1 : z02) : Option Bool :=
  if ((a0.z0L == a1.z0L) && (a0.z5W == a1.z5W)) then
   zfn n a0.z0j a1.z0j >>= fun b3 => some b3
  else some false
def z0q : Nat → (List z02) → (List z02) → Int → Int → Option (Sum Unit Unit)
  | 0,_,_,_,_ => none
  | n + 1,p0,p1,p2,p3 =>
  if (decide (p3 < p2)) then
   if within p3 p1.length then
   if within p3 p0.length then
   z8l n (rd z02.dft p1 p3) (rd z02.dft p0 p3) >>= fun b6 =>
   if (!b6) then some (.inl ())
   else z0q n p0 p1 p2 (z07 (p3 + 1))
   else none
   else none
  else some (.inr ())
def z0w (n : Nat) (a0 : (List z02)) (a1 : (List z02)) : Option Bool :=
  if ((a0.length : Int) != (a1.length : Int)) then some false
  else
   z0q n a1 a0 (a0.length : Int) 0 >>= fun b8 =>
   match b8 with
   | .inl b9 => some false
   | .inr b10 => some true
def z1h : Nat → (List z06) → (List z06) → Int → Int → Option (Sum Unit Unit)
  | 0,_,_,_,_ => none
  | n + 1,p0,p1,p2,p3 =>
  if (decide (p3 < p2)) then
   if within p3 p0.length then
   if within p3 p1.length then
   if (!(((rd z06.dft p0 p3).z0L == (rd z06.dft p1 p3).z0L) && (((rd z06.dft p0 p3).zaB == (rd z06.dft p1 p3).zaB) && (((rd z06.dft p0 p3).z0s == (rd z06.dft p1 p3).z0s) && (((rd z06.dft p0 p3).z2h == (rd z06.dft p1 p3).z2h) && true))))) then some (.inl ())
   else z1h n p0 p1 p2 (z07 (p3 + 1))
   else none
   else none
  else some (.inr ())
def z2v (n : Nat) (a0 : (List z06)) (a1 : (List z06)) : Option Bool :=
  if ((a0.length : Int) != (a1.length : Int)) then some false
  else
   z1h n a0 a1 (a0.length : Int) 0 >>= fun b6 =>
   match b6 with
   | .inl b7 => some false
   | .inr b8 => some true
def za0 (n : Nat) (a0 : z03) (a1 : z03) : Option Bool :=
  z6e n a0 >>= fun b2 =>
  z6e n a1 >>= fun b4 =>
  if b2.length = 6 then
  if b4.length = 6 then
  if ((b2 == b4) && (a0.z1z == a1.z1z)) then
   z2k n a0.z0k a1.z0k >>= fun b9 =>
   if b9 then
    z5D n a0.z0H a1.z0H >>= fun b12 =>
    if b12 then
     z0w n a0.z0e a1.z0e >>= fun b15 =>
     if b15 then
      z2v n a0.z0z a1.z0z >>= fun b18 => some b18
     else some false
    else some false
   else some false
  else some false
  else none
  else none
def zb4 (n : Nat) : Option Bool :=
  z7V n (⟨[],[],[],[],[],[],[],[],0,[]⟩ : z03) >>= fun b2 =>
  z3E n (⟨[],⟨0,false,0,[],[],[]⟩,[]⟩ : z02) >>= fun b4 =>
  if ((b2.2 == 46) && (b4.2 == 47)) then
   ziO n b2.1 (⟨[],[],[],[],[],[],[],[],0,[]⟩ : z03) >>= fun b7 =>
   if b7 then
    z8O n b2.1 >>= fun b10 =>
    if (!b10) then
     z3j n b2.1 >>= fun b13 =>
     za0 n b2.1 b13 >>= fun b15 => some b15
    else some false
   else some false
  else some false
def zkM (n : Nat) (a0 : (List Int)) : Option (List Int) :=some a0
def zqE (n : Nat) (a0 : Int) (a1 : Int) : Option Int :=
  if (decide (a1 < 1)) then some 0
  else
   if nz a1 then
   if nz a1 then some (Int.tmod (z07 ((Int.tmod a0 a1) + a1)) a1)
   else none
   else none
def z2a (n : Nat) (a0 : Int) (a1 : (List Int)) (a2 : Int) : Option (Int × Int) :=
  if (decide (a2 ≥ (a1.length : Int))) then some (0,a2)
  else
   if within (z07 ((z07 (a2 + 1)) - 1)) a1.length then
   zqE n (rd 0 a1 (z07 ((z07 (a2 + 1)) - 1))) a0 >>= fun b4 => some (b4,(z07 (a2 + 1)))
   else none
def z4r (n : Nat) (a0 : (List Str)) (a1 : (List Int)) (a2 : Int) : Option (Str × Int) :=
  z2a n (a0.length : Int) a1 a2 >>= fun b2 =>
  if within b2.1 a0.length then some ((rd [] a0 b2.1),b2.2)
  else none
def z0M (n : Nat) (a0 : Str) : Option z00 :=some (⟨3,false,0,a0,[],[]⟩ : z00)
def zdo (n : Nat) : Option Unit :=some ()
def z7O (n : Nat) : Option Unit :=some ()
def z6t : Nat → Str → (List Int) → Option (Str × (List Int))
  | 0,_,_ => none
  | n + 1,p0,p1 =>
  if ((Int.tmod (p1.length : Int) 64) != 56) then
   if fits ((p1.length + 1) * 1) then z6t n p0 (p1 ++ [0])
   else none
  else some (p0,p1)
def z4D : Nat → Str → Int → (List Int) → Option (List Int)
  | 0,_,_,_ => none
  | n + 1,p0,p1,p2 =>
  if (decide (p1 ≥ 0)) then
   if nn (z3S p1) then
   if fits ((p2.length + 1) * 1) then z4D n p0 (z07 (p1 - 8)) (p2 ++ [(w_u8 (shr .u64 (z3S ((z3S (p0.length : Int)) * 8)) (z3S p1)))])
   else none
   else none
  else some p2
def zeN (n : Nat) (a0 : Str) : Option Str :=
  if fits (((bytesOf a0).length + 1) * 1) then
  z6t n a0 ((bytesOf a0) ++ [128]) >>= fun b5 =>
  z4D n b5.1 56 b5.2 >>= fun b10 => some (strOf b10)
  else none
def zcD (n : Nat) (a0 : Str) : Option Int :=
  if within 0 a0.length then
  if within 1 a0.length then
  if within 2 a0.length then
  if within 3 a0.length then some (ior .u32 (ior .u32 (ior .u32 (shl .u32 (z0Z (bt a0 0)) 24) (shl .u32 (z0Z (bt a0 1)) 16)) (shl .u32 (z0Z (bt a0 2)) 8)) (z0Z (bt a0 3)))
  else none
  else none
  else none
  else none
def z4B : Nat → Str → Int → (List Int) → (List Int) → (List Int) → Option ((List Int) × (List Int) × (List Int))
  | 0,_,_,_,_,_ => none
  | n + 1,p0,p1,p2,p3,p4 =>
  if (decide (p1 < 16)) then
   if cLo (z07 (4 * p1)) p0.length then
   zcD n (p0.drop (z07 (4 * p1)).toNat) >>= fun b4 =>
   if within p1 p4.length then
   if p4.length = 64 then
   if within p1 p4.length then z4B n p0 (z07 (p1 + 1)) p2 p3 (p4.set (p1).toNat b4)
   else none
   else none
   else none
   else none
  else some (p2,p3,p4)
def z3i (n : Nat) (a0 : Int) (a1 : Int) : Option Int :=
  if nn (z3S a1) then
  if nn (z3S (z07 (32 - a1))) then some (ior .u32 (shr .u32 a0 (z3S a1)) (shl .u32 a0 (z3S (z07 (32 - a1)))))
  else none
  else none
def z4x : Nat → Int → (List Int) → (List Int) → (List Int) → Option ((List Int) × (List Int) × (List Int))
  | 0,_,_,_,_ => none
  | n + 1,p0,p1,p2,p3 =>
  if (decide (p0 < 64)) then
   if within (z07 (p0 - 15)) p3.length then
   if p3.length = 64 then
   if within (z07 (p0 - 15)) p3.length then
   if within (z07 (p0 - 2)) p3.length then
   if p3.length = 64 then
   if within (z07 (p0 - 2)) p3.length then
   z3i n (rd 0 p3 (z07 (p0 - 15))) 7 >>= fun b18 =>
   z3i n (rd 0 p3 (z07 (p0 - 15))) 18 >>= fun b20 =>
   z3i n (rd 0 p3 (z07 (p0 - 2))) 17 >>= fun b22 =>
   z3i n (rd 0 p3 (z07 (p0 - 2))) 19 >>= fun b24 =>
   if within (z07 (p0 - 7)) p3.length then
   if p3.length = 64 then
   if within (z07 (p0 - 7)) p3.length then
   if within (z07 (p0 - 16)) p3.length then
   if p3.length = 64 then
   if within (z07 (p0 - 16)) p3.length then
   if within p0 p3.length then
   if p3.length = 64 then
   if within p0 p3.length then z4x n (z07 (p0 + 1)) p1 p2 (p3.set (p0).toNat (z0Z ((z0Z ((z0Z ((ixor .u32 (ixor .u32 b22 b24) (shr .u32 (rd 0 p3 (z07 (p0 - 2))) 10)) + (rd 0 p3 (z07 (p0 - 7))))) + (ixor .u32 (ixor .u32 b18 b20) (shr .u32 (rd 0 p3 (z07 (p0 - 15))) 3)))) + (rd 0 p3 (z07 (p0 - 16))))))
   else none
   else none
   else none
   else none
   else none
   else none
   else none
   else none
   else none
   else none
   else none
   else none
   else none
   else none
   else none
  else some (p1,p2,p3)
def z4F : Nat → Int → (List Int) → (List Int) → (List Int) → (List Int) → Option ((List Int) × (List Int))
  | 0,_,_,_,_,_ => none
  | n + 1,p0,p1,p2,p3,p4 =>
  if (decide (p0 < 64)) then
   if within 0 p4.length then
   if p4.length = 8 then
   if within 0 p4.length then
   if within 4 p4.length then
   if p4.length = 8 then
   if within 4 p4.length then
   if within 7 p4.length then
   if p4.length = 8 then
   if within 7 p4.length then
   z3i n (rd 0 p4 4) 6 >>= fun b49 =>
   z3i n (rd 0 p4 4) 11 >>= fun b51 =>
   z3i n (rd 0 p4 4) 25 >>= fun b53 =>
   if within 5 p4.length then
   if p4.length = 8 then
   if within 5 p4.length then
   if within 6 p4.length then
   if p4.length = 8 then
   if within 6 p4.length then
   if within p0 p2.length then
   if p2.length = 64 then
   if within p0 p2.length then
   if within p0 p3.length then
   if p3.length = 64 then
   if within p0 p3.length then
   z3i n (rd 0 p4 0) 2 >>= fun b67 =>
   z3i n (rd 0 p4 0) 13 >>= fun b69 =>
   z3i n (rd 0 p4 0) 22 >>= fun b71 =>
   if within 1 p4.length then
   if p4.length = 8 then
   if within 1 p4.length then
   if within 2 p4.length then
   if p4.length = 8 then
   if within 2 p4.length then
   if within 1 p4.length then
   if p4.length = 8 then
   if within 1 p4.length then
   if within 2 p4.length then
   if p4.length = 8 then
   if within 2 p4.length then
   if within 1 p4.length then
   if p4.length = 8 then
   if within 1 p4.length then
   if within 2 p4.length then
   if p4.length = 8 then
   if within 2 p4.length then
   if within 3 p4.length then
   if p4.length = 8 then
   if within 3 p4.length then
   if within 5 p4.length then
   if p4.length = 8 then
   if within 5 p4.length then
   if within 6 p4.length then
   if p4.length = 8 then
   if within 6 p4.length then
   if p4.length = 8 then z4F n (z07 (p0 + 1)) p1 p2 p3 [(z0Z ((z0Z ((z0Z ((z0Z ((z0Z ((rd 0 p4 7) + (ixor .u32 (ixor .u32 b49 b51) b53))) + (ixor .u32 (iand .u32 (rd 0 p4 4) (rd 0 p4 5)) (iand .u32 (ixor .u32 4294967295 (rd 0 p4 4)) (rd 0 p4 6))))) + (rd 0 p2 p0))) + (rd 0 p3 p0))) + (z0Z ((ixor .u32 (ixor .u32 b67 b69) b71) + (ixor .u32 (ixor .u32 (iand .u32 (rd 0 p4 0) (rd 0 p4 1)) (iand .u32 (rd 0 p4 0) (rd 0 p4 2))) (iand .u32 (rd 0 p4 1) (rd 0 p4 2))))))),(rd 0 p4 0),(rd 0 p4 1),(rd 0 p4 2),(z0Z ((rd 0 p4 3) + (z0Z ((z0Z ((z0Z ((z0Z ((rd 0 p4 7) + (ixor .u32 (ixor .u32 b49 b51) b53))) + (ixor .u32 (iand .u32 (rd 0 p4 4) (rd 0 p4 5)) (iand .u32 (ixor .u32 4294967295 (rd 0 p4 4)) (rd 0 p4 6))))) + (rd 0 p2 p0))) + (rd 0 p3 p0))))),(rd 0 p4 4),(rd 0 p4 5),(rd 0 p4 6)]
   else none
   else none
   else none
   else none
   else none
   else none
   else none
   else none
   else none
   else none
   else none
   else none
   else none
   else none
   else none
   else none
   else none
   else none
   else none
   else none
   else none
   else none
   else none
   else none
   else none
   else none
   else none
   else none
   else none
   else none
   else none
   else none
   else none
   else none
   else none
   else none
   else none
   else none
   else none
   else none
   else none
   else none
   else none
   else none
   else none
   else none
   else none
   else none
   else none
  else some (p1,p4)
def z4z : Nat → Int → (List Int) → (List Int) → Option (List Int)
  | 0,_,_,_ => none
  | n + 1,p0,p1,p2 =>
  if (decide (p0 < 8)) then
   if within p0 p2.length then
   if p2.length = 8 then
   if within p0 p2.length then
   if within p0 p1.length then
   if p1.length = 8 then
   if within p0 p1.length then
   if within p0 p2.length then
   if p2.length = 8 then
   if within p0 p2.length then z4z n (z07 (p0 + 1)) p1 (p2.set (p0).toNat (z0Z ((rd 0 p2 p0) + (rd 0 p1 p0))))
   else none
   else none
   else none
   else none
   else none
   else none
   else none
   else none
   else none
  else some p2
def zaI (n : Nat) (a0 : (List Int)) (a1 : (List Int)) (a2 : Str) : Option (List Int) :=
  z4B n a2 0 a0 a1 (List.replicate 64 (0 : Int)) >>= fun b9 =>
  z4x n 16 b9.1 b9.2.1 b9.2.2 >>= fun b35 =>
  if b35.1.length = 8 then
  if b35.1.length = 8 then
  z4F n 0 b35.1 b35.2.1 b35.2.2 b35.1 >>= fun b101 =>
  z4z n 0 b101.1 b101.2 >>= fun b113 =>
  if b113.length = 8 then
  if b113.length = 8 then if b113.length = 8 then some b113 else none
  else none
  else none
  else none
  else none
def z6v : Nat → Str → Int → (List Int) → Option (List Int)
  | 0,_,_,_ => none
  | n + 1,p0,p1,p2 =>
  if (decide (p1 < (p0.length : Int))) then
   if p2.length = 8 then
   if cLH p1 (z07 (p1 + 64)) p0.length then
   zaI n p2 [1116352408,1899447441,3049323471,3921009573,961987163,1508970993,2453635748,2870763221,3624381080,310598401,607225278,1426881987,1925078388,2162078206,2614888103,3248222580,3835390401,4022224774,264347078,604807628,770255983,1249150122,1555081692,1996064986,2554220882,2821834349,2952996808,3210313671,3336571891,3584528711,113926993,338241895,666307205,773529912,1294757372,1396182291,1695183700,1986661051,2177026350,2456956037,2730485921,2820302411,3259730800,3345764771,3516065817,3600352804,4094571909,275423344,430227734,506948616,659060556,883997877,958139571,1322822218,1537002063,1747873779,1955562222,2024104815,2227730452,2361852424,2428436474,2756734187,3204031479,3329325298] ((p0.take (z07 (p1 + 64)).toNat).drop (p1).toNat) >>= fun b11 =>
   if b11.length = 8 then
   if p2.length = 8 then z6v n p0 (z07 (p1 + 64)) b11
   else none
   else none
   else none
   else none
  else some p2
def z6A : Nat → (List Int) → Int → (List Int) → Option (List Int)
  | 0,_,_,_ => none
  | n + 1,p0,p1,p2 =>
  if (decide (p1 < 8)) then
   if within p1 p0.length then
   if p0.length = 8 then
   if fits ((p2.length + 4) * 1) then z6A n p0 (z07 (p1 + 1)) (p2 ++ [(w_u8 (shr .u32 (rd 0 p0 p1) 24)),(w_u8 (shr .u32 (rd 0 p0 p1) 16)),(w_u8 (shr .u32 (rd 0 p0 p1) 8)),(w_u8 (rd 0 p0 p1))])
   else none
   else none
   else none
  else some p2
def zcY (n : Nat) (a0 : Str) : Option Str :=
  zdo n >>= fun b2 =>
  z7O n >>= fun b4 =>
  zeN n a0 >>= fun b6 =>
  z6v n b6 0 [1779033703,3144134277,1013904242,2773480762,1359893119,2600822924,528734635,1541459225] >>= fun b15 =>
  if b15.length = 8 then
  z6A n b15 0 [] >>= fun b22 => some (strOf b22)
  else none
def z9r (n : Nat) (a0 : Int) : Option (Str × Bool) :=
  if ((decide (a0 < 1)) || (decide (a0 > 8))) then some ([],false)
  else
   if within a0 (([[],([69] : Str),([68] : Str),([66] : Str),([65] : Str),([48,65] : Str),([77] : Str),([83] : Str),([49,65,65,76] : Str)]).length) then some ((rd [] ([[],([69] : Str),([68] : Str),([66] : Str),([65] : Str),([48,65] : Str),([77] : Str),([83] : Str),([49,65,65,76] : Str)]) a0),true)
   else none
def zdp (n : Nat) (a0 : Int) : Option Int :=
  if ((decide (a0 < 1)) || (decide (a0 > 8))) then some 0
  else
   if within a0 9 then some (rd 0 [0,32,32,32,32,16,2,626,6] a0)
   else none
def z7j (n : Nat) (a0 : Int) : Option Int :=
  zdp n a0 >>= fun b2 => some (Int.tmod (z07 (3 - (Int.tmod b2 3))) 3)
def z3n : Nat → Str → Int → (List Int) → Option (List Int)
  | 0,_,_,_ => none
  | n + 1,p0,p1,p2 =>
  if (decide (p1 < (p0.length : Int))) then
   if within p1 p0.length then
   if within (z07 (p1 + 1)) p0.length then
   if within (z07 (p1 + 2)) p0.length then
   if within (shr .i64 (ior .i64 (ior .i64 (shl .i64 (z07 (bt p0 p1)) 16) (shl .i64 (z07 (bt p0 (z07 (p1 + 1)))) 8)) (z07 (bt p0 (z07 (p1 + 2))))) 18) 64 then
   if within (iand .i64 (shr .i64 (ior .i64 (ior .i64 (shl .i64 (z07 (bt p0 p1)) 16) (shl .i64 (z07 (bt p0 (z07 (p1 + 1)))) 8)) (z07 (bt p0 (z07 (p1 + 2))))) 12) 63) 64 then
   if within (iand .i64 (shr .i64 (ior .i64 (ior .i64 (shl .i64 (z07 (bt p0 p1)) 16) (shl .i64 (z07 (bt p0 (z07 (p1 + 1)))) 8)) (z07 (bt p0 (z07 (p1 + 2))))) 6) 63) 64 then
   if within (iand .i64 (ior .i64 (ior .i64 (shl .i64 (z07 (bt p0 p1)) 16) (shl .i64 (z07 (bt p0 (z07 (p1 + 1)))) 8)) (z07 (bt p0 (z07 (p1 + 2))))) 63) 64 then
   if fits ((p2.length + ([(bt ([65,66,67,68,69,70,71,72,73,74,75,76,77,78,79,80,81,82,83,84,85,86,87,88,89,90,97,98,99,100,101,102,103,104,105,106,107,108,109,110,111,112,113,114,115,116,117,118,119,120,121,122,48,49,50,51,52,53,54,55,56,57,45,95] : Str) (shr .i64 (ior .i64 (ior .i64 (shl .i64 (z07 (bt p0 p1)) 16) (shl .i64 (z07 (bt p0 (z07 (p1 + 1)))) 8)) (z07 (bt p0 (z07 (p1 + 2))))) 18)),(bt ([65,66,67,68,69,70,71,72,73,74,75,76,77,78,79,80,81,82,83,84,85,86,87,88,89,90,97,98,99,100,101,102,103,104,105,106,107,108,109,110,111,112,113,114,115,116,117,118,119,120,121,122,48,49,50,51,52,53,54,55,56,57,45,95] : Str) (iand .i64 (shr .i64 (ior .i64 (ior .i64 (shl .i64 (z07 (bt p0 p1)) 16) (shl .i64 (z07 (bt p0 (z07 (p1 + 1)))) 8)) (z07 (bt p0 (z07 (p1 + 2))))) 12) 63)),(bt ([65,66,67,68,69,70,71,72,73,74,75,76,77,78,79,80,81,82,83,84,85,86,87,88,89,90,97,98,99,100,101,102,103,104,105,106,107,108,109,110,111,112,113,114,115,116,117,118,119,120,121,122,48,49,50,51,52,53,54,55,56,57,45,95] : Str) (iand .i64 (shr .i64 (ior .i64 (ior .i64 (shl .i64 (z07 (bt p0 p1)) 16) (shl .i64 (z07 (bt p0 (z07 (p1 + 1)))) 8)) (z07 (bt p0 (z07 (p1 + 2))))) 6) 63)),(bt ([65,66,67,68,69,70,71,72,73,74,75,76,77,78,79,80,81,82,83,84,85,86,87,88,89,90,97,98,99,100,101,102,103,104,105,106,107,108,109,110,111,112,113,114,115,116,117,118,119,120,121,122,48,49,50,51,52,53,54,55,56,57,45,95] : Str) (iand .i64 (ior .i64 (ior .i64 (shl .i64 (z07 (bt p0 p1)) 16) (shl .i64 (z07 (bt p0 (z07 (p1 + 1)))) 8)) (z07 (bt p0 (z07 (p1 + 2))))) 63))]).length) * 1) then z3n n p0 (z07 (p1 + 3)) (p2 ++ [(bt ([65,66,67,68,69,70,71,72,73,74,75,76,77,78,79,80,81,82,83,84,85,86,87,88,89,90,97,98,99,100,101,102,103,104,105,106,107,108,109,110,111,112,113,114,115,116,117,118,119,120,121,122,48,49,50,51,52,53,54,55,56,57,45,95] : Str) (shr .i64 (ior .i64 (ior .i64 (shl .i64 (z07 (bt p0 p1)) 16) (shl .i64 (z07 (bt p0 (z07 (p1 + 1)))) 8)) (z07 (bt p0 (z07 (p1 + 2))))) 18)),(bt ([65,66,67,68,69,70,71,72,73,74,75,76,77,78,79,80,81,82,83,84,85,86,87,88,89,90,97,98,99,100,101,102,103,104,105,106,107,108,109,110,111,112,113,114,115,116,117,118,119,120,121,122,48,49,50,51,52,53,54,55,56,57,45,95] : Str) (iand .i64 (shr .i64 (ior .i64 (ior .i64 (shl .i64 (z07 (bt p0 p1)) 16) (shl .i64 (z07 (bt p0 (z07 (p1 + 1)))) 8)) (z07 (bt p0 (z07 (p1 + 2))))) 12) 63)),(bt ([65,66,67,68,69,70,71,72,73,74,75,76,77,78,79,80,81,82,83,84,85,86,87,88,89,90,97,98,99,100,101,102,103,104,105,106,107,108,109,110,111,112,113,114,115,116,117,118,119,120,121,122,48,49,50,51,52,53,54,55,56,57,45,95] : Str) (iand .i64 (shr .i64 (ior .i64 (ior .i64 (shl .i64 (z07 (bt p0 p1)) 16) (shl .i64 (z07 (bt p0 (z07 (p1 + 1)))) 8)) (z07 (bt p0 (z07 (p1 + 2))))) 6) 63)),(bt ([65,66,67,68,69,70,71,72,73,74,75,76,77,78,79,80,81,82,83,84,85,86,87,88,89,90,97,98,99,100,101,102,103,104,105,106,107,108,109,110,111,112,113,114,115,116,117,118,119,120,121,122,48,49,50,51,52,53,54,55,56,57,45,95] : Str) (iand .i64 (ior .i64 (ior .i64 (shl .i64 (z07 (bt p0 p1)) 16) (shl .i64 (z07 (bt p0 (z07 (p1 + 1)))) 8)) (z07 (bt p0 (z07 (p1 + 2))))) 63))])
   else none
   else none
   else none
   else none
   else none
   else none
   else none
   else none
  else some p2
def z9m (n : Nat) (a0 : Str) : Option (Str × Int) :=
  if (decide ((a0.length : Int) > 65536)) then some ([],3)
  else
   if ((Int.tmod (a0.length : Int) 3) != 0) then some ([],8)
   else
    z3n n a0 0 [] >>= fun b13 => some ((strOf b13),0)
def zbg (n : Nat) (a0 : z0f) : Option (Str × Int) :=
  z9r n a0.z2M >>= fun b2 =>
  if (!b2.2) then some ([],7)
  else
   zdp n a0.z2M >>= fun b5 =>
   if ((a0.z8u.length : Int) != b5) then some ([],8)
   else
    z7j n a0.z2M >>= fun b8 =>
    if cLo b8 2 then
    if fits ((([0,0] : Str).take (b8).toNat).length + a0.z8u.length) then
    z9m n ((([0,0] : Str).take (b8).toNat) ++ a0.z8u) >>= fun b12 =>
    if cLo b8 b12.1.length then
    if fits (b2.1.length + (b12.1.drop (b8).toNat).length) then some ((b2.1 ++ (b12.1.drop (b8).toNat)),0)
    else none
    else none
    else none
    else none
def z9l (n : Nat) (a0 : Int) (a1 : Str) : Option Str :=
  zbg n (⟨a0,a1⟩ : z0f) >>= fun b2 => some b2.1
def z6C (n : Nat) (a0 : Str) : Option Str :=
  zcY n a0 >>= fun b2 =>
  z9l n 1 b2 >>= fun b4 => some b4
def z1L (n : Nat) (a0 : (List Int)) (a1 : Int) : Option (Str × Int) :=
  z4r n ([([97] : Str),([98] : Str),([99] : Str),([100] : Str),([101] : Str),([102] : Str),([103] : Str),([104] : Str)]) a0 a1 >>= fun b2 =>
  z6C n b2.1 >>= fun b4 => some (b4,b2.2)
def z5s (n : Nat) (a0 : Int) : Option z00 :=some (⟨2,false,a0,[],[],[]⟩ : z00)
def zcC (n : Nat) (a0 : (List Int)) (a1 : Int) : Option (z00 × Int) :=
  z2a n 4 a0 a1 >>= fun b2 =>
  if (b2.1 == 0) then
   z4r n ([([77,105,108,108] : Str),([70,111,114,100] : Str),[],([66,114,105,100,103,101,32,97,116,32,116,104,101,32,109,105,108,108] : Str)]) a0 b2.2 >>= fun b5 =>
   z0M n b5.1 >>= fun b7 => some (b7,b5.2)
  else
   if (b2.1 == 1) then
    z2a n 2 a0 b2.2 >>= fun b10 => some ((⟨1,(b10.1 == 1),0,[],[],[]⟩ : z00),b10.2)
   else
    if (b2.1 == 2) then
     z1L n a0 b2.2 >>= fun b13 =>
     z0M n b13.1 >>= fun b15 => some (b15,b13.2)
    else
     z2a n 120 a0 b2.2 >>= fun b17 =>
     z5s n (z07 (b17.1 - 5)) >>= fun b19 => some (b19,b17.2)
def zfa (n : Nat) (a0 : (List Int)) (a1 : Int) : Option (Str × Int) :=
  z2a n 20 a0 a1 >>= fun b2 =>
  if fits (4 + (strOf [(w_u8 b2.1)]).length) then
  zcY n (([115,97,108,116] : Str) ++ (strOf [(w_u8 b2.1)])) >>= fun b5 =>
  if cLo 16 b5.length then some ((b5.take 16),b2.2)
  else none
  else none
def z2c : Nat → Int → (List Int) → Int → (List z02) → Option ((List Int) × Int × (List z02))
  | 0,_,_,_,_ => none
  | n + 1,p0,p1,p2,p3 =>
  if (decide (p0 < (([([97,103,101] : Str),([110,97,109,101] : Str),([97,100,117,108,116] : Str),([105,100] : Str),([114,97,110,107] : Str)]).length : Int))) then
   if within p0 (([([97,103,101] : Str),([110,97,109,101] : Str),([97,100,117,108,116] : Str),([105,100] : Str),([114,97,110,107] : Str)]).length) then
   z2a n 3 p1 p2 >>= fun b4 =>
   if (decide (b4.1 > 0)) then
    zcC n p1 b4.2 >>= fun b7 =>
    zfa n p1 b7.2 >>= fun b9 =>
    if fits ((p3.length + ([(⟨(rd [] ([([97,103,101] : Str),([110,97,109,101] : Str),([97,100,117,108,116] : Str),([105,100] : Str),([114,97,110,107] : Str)]) p0),⟨b7.1.z0i,b7.1.z0K,b7.1.z0n,b7.1.z0D,b7.1.z0d,b7.1.z09⟩,b9.1⟩ : z02)]).length) * 120) then z2c n (z07 (p0 + 1)) p1 b9.2 (p3 ++ [(⟨(rd [] ([([97,103,101] : Str),([110,97,109,101] : Str),([97,100,117,108,116] : Str),([105,100] : Str),([114,97,110,107] : Str)]) p0),⟨b7.1.z0i,b7.1.z0K,b7.1.z0n,b7.1.z0D,b7.1.z0d,b7.1.z09⟩,b9.1⟩ : z02)])
    else none
   else z2c n (z07 (p0 + 1)) p1 b4.2 p3
   else none
  else some (p1,p2,p3)
def z6p (n : Nat) (a0 : (List Int)) (a1 : Int) : Option ((List z02) × (List Int) × Int) :=
  z2c n 0 a0 a1 [] >>= fun b12 => some (b12.2.2,b12.1,b12.2.1)
def z4E : Nat → (List z02) → Int → (List Int) → Int → (List z06) → Option ((List z02) × (List Int) × Int × (List z06))
  | 0,_,_,_,_,_ => none
  | n + 1,p0,p1,p2,p3,p4 =>
  if (decide (p1 < (([([112,97,114,101,110,116] : Str),([103,117,105,108,100] : Str)]).length : Int))) then
   if within p1 (([([112,97,114,101,110,116] : Str),([103,117,105,108,100] : Str)]).length) then
   z2a n 3 p2 p3 >>= fun b6 =>
   if (b6.1 == 0) then
    z1L n p2 b6.2 >>= fun b9 =>
    z1L n p2 b9.2 >>= fun b11 =>
    z4r n ([[],b11.1]) p2 b11.2 >>= fun b13 =>
    z2a n 3 p2 b13.2 >>= fun b15 =>
    if fits ((p4.length + ([(⟨(rd [] ([([112,97,114,101,110,116] : Str),([103,117,105,108,100] : Str)]) p1),b9.1,b13.1,(z07 (1 + b15.1))⟩ : z06)]).length) * 56) then z4E n p0 (z07 (p1 + 1)) p2 b15.2 (p4 ++ [(⟨(rd [] ([([112,97,114,101,110,116] : Str),([103,117,105,108,100] : Str)]) p1),b9.1,b13.1,(z07 (1 + b15.1))⟩ : z06)])
    else none
   else z4E n p0 (z07 (p1 + 1)) p2 b6.2 p4
   else none
  else some (p0,p2,p3,p4)
def zac : Nat → Str → Int → Option (Sum Unit Unit)
  | 0,_,_ => none
  | n + 1,p0,p1 =>
  if (decide (p1 < (p0.length : Int))) then
   if within p1 p0.length then
   if (!((((decide ((bt p0 p1) ≥ 97)) && (decide ((bt p0 p1) ≤ 122))) || ((decide ((bt p0 p1) ≥ 48)) && (decide ((bt p0 p1) ≤ 57)))) || ((bt p0 p1) == 95))) then some (.inr ())
   else zac n p0 (z07 (p1 + 1))
   else none
  else some (.inl ())
def zcI (n : Nat) (a0 : Str) : Option Bool :=
  if ((decide ((a0.length : Int) < 1)) || (decide ((a0.length : Int) > 32))) then some false
  else
   if within 0 a0.length then
   if (decide ((bt a0 0) < 97)) then some false
   else
    if within 0 a0.length then
    if (decide ((bt a0 0) > 122)) then some false
    else
     zac n a0 0 >>= fun b9 =>
     match b9 with
     | .inl b10 => some true
     | .inr b11 => some false
    else none
   else none
def zaH (n : Nat) (a0 : Str) : Option Bool :=
  if (decide ((a0.length : Int) ≤ 65536)) then
   z1y n a0 >>= fun b3 => some b3
  else some false
def z4M : Nat → Int → (List Str) → Int → Int → z00 → (List (Str × Bool)) → Option (Sum Unit (Int × z00))
  | 0,_,_,_,_,_,_ => none
  | n + 1,p0,p1,p2,p3,p4,p5 =>
  if (decide (p3 < p2)) then
   if within p3 p1.length then
   zaH n (rd [] p1 p3) >>= fun b8 =>
   if (!b8) then some (.inl ())
   else
    if ((alk (fun y => (rd [] p1 p3) == y) p5).getD false) then some (.inl ())
    else z4M n p0 p1 p2 (z07 (p3 + 1)) p4 (ast (fun y => (rd [] p1 p3) == y) (rd [] p1 p3) true p5)
   else none
  else some (.inr (p0,p4))
mutual
def z4K : Nat → Int → (List z00) → Int → Int → Option (Sum Unit Unit)
  | 0,_,_,_,_ => none
  | n + 1,p0,p1,p2,p3 =>
  if (decide (p3 < p2)) then
   if within p3 p1.length then
   z6U n (rd z00.dft p1 p3) (z07 (p0 - 1)) >>= fun b17 =>
   if (!b17) then some (.inl ())
   else z4K n p0 p1 p2 (z07 (p3 + 1))
   else none
  else some (.inr ())
def z6U : Nat → z00 → Int → Option Bool
  | 0,_,_ => none
  | n + 1,a0,a1 =>
  if ((((((((decide (a1 < 1)) || (decide (a0.z0i < 0))) || (decide (a0.z0i > 5))) || (a0.z0K && (a0.z0i != 1))) || ((a0.z0n != 0) && (a0.z0i != 2))) || ((!(a0.z0D == [])) && (a0.z0i != 3))) || ((decide ((a0.z09.length : Int) > 0)) && (decide (a0.z0i < 4)))) || ((decide ((a0.z0d.length : Int) > 0)) && (a0.z0i != 5))) then some false
  else
   zaH n a0.z0D >>= fun b3 =>
   if (((!b3) || (decide ((a0.z09.length : Int) > 256))) || ((a0.z0i == 5) && ((a0.z0d.length : Int) != (a0.z09.length : Int)))) then some false
   else
    z4M n a1 a0.z0d (a0.z0d.length : Int) 0 a0 ([] : List (Str × Bool)) >>= fun b11 =>
    match b11 with
    | .inl b12 => some false
    | .inr b13 =>
     z4K n b13.1 b13.2.z09 (b13.2.z09.length : Int) 0 >>= fun b19 =>
     match b19 with
     | .inl b20 => some false
     | .inr b21 => some true
end
def z3J (n : Nat) (a0 : z00) : Option Bool :=
  z6U n a0 8 >>= fun b2 => some b2
def z3t (n : Nat) (a0 : z02) : Option Bool :=
  zcI n a0.z0L >>= fun b2 =>
  if b2 then
   z3J n a0.z0j >>= fun b5 => some ((b5 && (((a0.z0j.z0i == 3) || (a0.z0j.z0i == 2)) || (a0.z0j.z0i == 1))) && ((a0.z5W.length : Int) == 16))
  else some false
mutual
def z5k : Nat → (List z00) → Int → Int → Int → Bool → Int → Str → (List Str) → (List z00) → Option (Int × Bool × Int × Str × (List Str) × (List z00))
  | 0,_,_,_,_,_,_,_,_,_ => none
  | n + 1,p0,p1,p2,p3,p4,p5,p6,p7,p8 =>
  if (decide (p2 < p1)) then
   if within p2 p0.length then
   z2R n (rd z00.dft p0 p2) >>= fun b5 =>
   if fits ((p8.length + 1) * 88) then z5k n p0 p1 (z07 (p2 + 1)) p3 p4 p5 p6 p7 (p8 ++ [b5])
   else none
   else none
  else some (p3,p4,p5,p6,p7,p8)
def z2R : Nat → z00 → Option z00
  | 0,_ => none
  | n + 1,a0 =>
  if fits (a0.z0d.length * 16) then
  z5k n a0.z09 (a0.z09.length : Int) 0 a0.z0i a0.z0K a0.z0n a0.z0D a0.z0d [] >>= fun b8 => some (⟨b8.1,b8.2.1,b8.2.2.1,b8.2.2.2.1,b8.2.2.2.2.1,b8.2.2.2.2.2⟩ : z00)
  else none
end
def zbm (n : Nat) (a0 : (List Str)) (a1 : (List z00)) : Option z00 :=
  z2R n (⟨5,false,0,[],a0,a1⟩ : z00) >>= fun b2 => some b2
def z9i (n : Nat) (a0 : z02) : Option z00 :=
  z0M n a0.z0L >>= fun b2 =>
  z9l n 5 a0.z5W >>= fun b4 =>
  z0M n b4 >>= fun b6 =>
  zbm n ([([110] : Str),([118] : Str),([117] : Str)]) [b2,a0.z0j,b6] >>= fun b8 => some b8
def internal_strconv_FormatBool (n : Nat) (a0 : Bool) : Option Str :=
  if a0 then some ([116,114,117,101] : Str)
  else some ([102,97,108,115,101] : Str)
def strconv_FormatBool (n : Nat) (a0 : Bool) : Option Str :=
  internal_strconv_FormatBool n a0 >>= fun b2 => some b2
def strconv_Itoa (n : Nat) (a0 : Int) : Option Str :=
  internal_strconv_Itoa a0 >>= fun b2 => some b2
def z2J : Nat → Str → Int → Int → (List Int) → Option (List Int)
  | 0,_,_,_,_ => none
  | n + 1,p0,p1,p2,p3 =>
  if (decide (p2 < p1)) then
   if within p2 p0.length then
   if (((bt p0 p2) == 34) || ((bt p0 p2) == 92)) then
    if fits ((p3.length + 2) * 1) then z2J n p0 p1 (z07 (p2 + 1)) (p3 ++ [92,(bt p0 p2)])
    else none
   else
    if ((((((bt p0 p2) == 8) || ((bt p0 p2) == 9)) || ((bt p0 p2) == 10)) || ((bt p0 p2) == 12)) || ((bt p0 p2) == 13)) then
     if within (w_u8 ((bt p0 p2) - 8)) 6 then
     if fits ((p3.length + ([92,(bt ([98,116,110,63,102,114] : Str) (w_u8 ((bt p0 p2) - 8)))]).length) * 1) then z2J n p0 p1 (z07 (p2 + 1)) (p3 ++ [92,(bt ([98,116,110,63,102,114] : Str) (w_u8 ((bt p0 p2) - 8)))])
     else none
     else none
    else
     if (decide ((bt p0 p2) < 32)) then
      if within (w_u8 (Int.tdiv (bt p0 p2) 16)) 2 then
      if within (Int.tmod (bt p0 p2) 16) 16 then
      if fits ((p3.length + ([92,117,48,48,(bt ([48,49] : Str) (w_u8 (Int.tdiv (bt p0 p2) 16))),(bt ([48,49,50,51,52,53,54,55,56,57,97,98,99,100,101,102] : Str) (Int.tmod (bt p0 p2) 16))]).length) * 1) then z2J n p0 p1 (z07 (p2 + 1)) (p3 ++ [92,117,48,48,(bt ([48,49] : Str) (w_u8 (Int.tdiv (bt p0 p2) 16))),(bt ([48,49,50,51,52,53,54,55,56,57,97,98,99,100,101,102] : Str) (Int.tmod (bt p0 p2) 16))])
      else none
      else none
      else none
     else
      if fits ((p3.length + 1) * 1) then z2J n p0 p1 (z07 (p2 + 1)) (p3 ++ [(bt p0 p2)])
      else none
   else none
  else some p3
def z8V (n : Nat) (a0 : Str) : Option Str :=
  z2J n a0 (a0.length : Int) 0 [34] >>= fun b14 =>
  if fits ((b14.length + 1) * 1) then some (strOf (b14 ++ [34]))
  else none
mutual
def z3g : Nat → Str → (List z00) → Int → Int → z00 → Option (Str × z00)
  | 0,_,_,_,_,_ => none
  | n + 1,p0,p1,p2,p3,p4 =>
  if (decide (p3 < p2)) then
   if within p3 p1.length then
   if (decide (p3 > 0)) then
    if fits (p0.length + 1) then z5R n (p0 ++ ([44] : Str)) p3 p1 p2 p3 p4 (rd z00.dft p1 p3)
    else none
   else z5R n p0 p3 p1 p2 p3 p4 (rd z00.dft p1 p3)
   else none
  else some (p0,p4)
def z5R : Nat → Str → Int → (List z00) → Int → Int → z00 → z00 → Option (Str × z00)
  | 0,_,_,_,_,_,_,_ => none
  | n + 1,p0,p1,p2,p3,p4,p5,p6 =>
  if (p5.z0i == 5) then
   if within p1 p5.z0d.length then
   z8V n (rd [] p5.z0d p1) >>= fun b18 =>
   if fits (b18.length + 1) then
   if fits (p0.length + (b18 ++ ([58] : Str)).length) then
   z5L n p6 >>= fun b22 =>
   if fits ((p0 ++ (b18 ++ ([58] : Str))).length + b22.length) then z3g n ((p0 ++ (b18 ++ ([58] : Str))) ++ b22) p2 p3 (z07 (p4 + 1)) p5
   else none
   else none
   else none
   else none
  else
   z5L n p6 >>= fun b25 =>
   if fits (p0.length + b25.length) then z3g n (p0 ++ b25) p2 p3 (z07 (p4 + 1)) p5
   else none
def z5L : Nat → z00 → Option Str
  | 0,_ => none
  | n + 1,a0 =>
  if (a0.z0i == 1) then
   strconv_FormatBool n a0.z0K >>= fun b3 => some b3
  else
   if (a0.z0i == 2) then
    strconv_Itoa n a0.z0n >>= fun b6 => some b6
   else
    if (a0.z0i == 3) then
     z8V n a0.z0D >>= fun b9 => some b9
    else
     if (a0.z0i == 4) then
      z3g n [] a0.z09 (a0.z09.length : Int) 0 a0 >>= fun b28 =>
      if (b28.2.z0i == 5) then
       if fits (1 + b28.1.length) then
       if fits ((([123] : Str) ++ b28.1).length + 1) then some ((([123] : Str) ++ b28.1) ++ ([125] : Str))
       else none
       else none
      else
       if fits (1 + b28.1.length) then
       if fits ((([91] : Str) ++ b28.1).length + 1) then some ((([91] : Str) ++ b28.1) ++ ([93] : Str))
       else none
       else none
     else
      if (a0.z0i == 5) then
       z3g n [] a0.z09 (a0.z09.length : Int) 0 a0 >>= fun b36 =>
       if (b36.2.z0i == 5) then
        if fits (1 + b36.1.length) then
        if fits ((([123] : Str) ++ b36.1).length + 1) then some ((([123] : Str) ++ b36.1) ++ ([125] : Str))
        else none
        else none
       else
        if fits (1 + b36.1.length) then
        if fits ((([91] : Str) ++ b36.1).length + 1) then some ((([91] : Str) ++ b36.1) ++ ([93] : Str))
        else none
        else none
      else some ([110,117,108,108] : Str)
end
def z7I (n : Nat) (a0 : z00) : Option (Str × Int) :=
  z3J n a0 >>= fun b2 =>
  if (!b2) then some ([],1)
  else
   z5L n a0 >>= fun b5 =>
   if (decide ((b5.length : Int) > 65536)) then some ([],3)
   else some (b5,0)
def z6r (n : Nat) (a0 : z02) : Option (Str × Int) :=
  z3t n a0 >>= fun b2 =>
  if (!b2) then some ([],47)
  else
   z9i n a0 >>= fun b5 =>
   z7I n b5 >>= fun b7 =>
   if (b7.2 != 0) then some ([],3)
   else
    z6C n b7.1 >>= fun b10 => some (b10,0)
def z2E : Nat → (List z02) → Int → Int → Str → Str → Str → Str → (List z02) → Int → (List z06) → (List Str) → (List Int) → Option (Str × Str × Str × Str × (List z02) × Int × (List z06) × (List Str) × (List Int))
  | 0,_,_,_,_,_,_,_,_,_,_,_,_ => none
  | n + 1,p0,p1,p2,p3,p4,p5,p6,p7,p8,p9,p10,p11 =>
  if (decide (p2 < p1)) then
   if within p2 p0.length then
   z6r n (rd z02.dft p0 p2) >>= fun b4 =>
   if fits ((p10.length + 1) * 16) then
   if fits ((p11.length + 1) * 8) then z2E n p0 p1 (z07 (p2 + 1)) p3 p4 p5 p6 p7 p8 p9 (p10 ++ [b4.1]) (p11 ++ [p2])
   else none
   else none
   else none
  else some (p3,p4,p5,p6,p7,p8,p9,p10,p11)
def zaW (n : Nat) (a0 : Int) : Option Int :=
  z9r n a0 >>= fun b2 =>
  if (!b2.2) then some 0
  else
   z7j n a0 >>= fun b5 =>
   zdp n a0 >>= fun b7 =>
   z7j n a0 >>= fun b9 => some (z07 ((z07 ((b2.1.length : Int) + (z07 ((z07 (Int.tdiv (z07 (b5 + b7)) 3)) * 4)))) - b9))
def z4G : Nat → Int → Int → Option (Sum Int Unit)
  | 0,_,_ => none
  | n + 1,p0,p1 =>
  if (decide (p1 < 64)) then
   if within p1 64 then
   if ((bt ([65,66,67,68,69,70,71,72,73,74,75,76,77,78,79,80,81,82,83,84,85,86,87,88,89,90,97,98,99,100,101,102,103,104,105,106,107,108,109,110,111,112,113,114,115,116,117,118,119,120,121,122,48,49,50,51,52,53,54,55,56,57,45,95] : Str) p1) == p0) then some (.inl p1)
   else z4G n p0 (z07 (p1 + 1))
   else none
  else some (.inr ())
def zaF (n : Nat) (a0 : Int) : Option (Int × Bool) :=
  z4G n a0 0 >>= fun b4 =>
  match b4 with
  | .inl b5 => some (b5,true)
  | .inr b6 => some (0,false)
def z2m : Nat → Str → Int → Int → Int → (List Int) → Option (Sum Unit (Str × Int × Int × (List Int)))
  | 0,_,_,_,_,_ => none
  | n + 1,p0,p1,p2,p3,p4 =>
  if (decide (p3 < 4)) then
   if within (z07 (p1 + p3)) p0.length then
   zaF n (bt p0 (z07 (p1 + p3))) >>= fun b7 =>
   if (!b7.2) then some (.inl ())
   else z2m n p0 p1 (ior .i64 (shl .i64 p2 6) b7.1) (z07 (p3 + 1)) p4
   else none
  else some (.inr (p0,p1,p2,p4))
def z3q : Nat → Str → Int → (List Int) → Option (Sum (List Int) Unit)
  | 0,_,_,_ => none
  | n + 1,p0,p1,p2 =>
  if (decide (p1 < (p0.length : Int))) then
   z2m n p0 p1 0 0 p2 >>= fun b9 =>
   match b9 with
   | .inl b10 => some (.inr ())
   | .inr b11 =>
    if fits ((b11.2.2.2.length + 3) * 1) then z3q n b11.1 (z07 (b11.2.1 + 4)) (b11.2.2.2 ++ [(w_u8 (shr .i64 b11.2.2.1 16)),(w_u8 (shr .i64 b11.2.2.1 8)),(w_u8 b11.2.2.1)])
    else none
  else some (.inl p2)
def z9p (n : Nat) (a0 : Str) : Option (Str × Int) :=
  if (decide ((a0.length : Int) > 131072)) then some ([],3)
  else
   if ((Int.tmod (a0.length : Int) 4) != 0) then some ([],8)
   else
    z3q n a0 0 [] >>= fun b13 =>
    match b13 with
    | .inl b14 => some ((strOf b14),0)
    | .inr b15 => some ([],4)
def z4U : Nat → Str → Int → z0f → Option (Sum z0f (Int × Int × z0f))
  | 0,_,_,_ => none
  | n + 1,p0,p1,p2 =>
  if (decide (p1 ≤ 8)) then
   z9r n p1 >>= fun b3 =>
   if (decide ((p0.length : Int) < (b3.1.length : Int))) then z4U n p0 (z07 (p1 + 1)) p2
   else
    if cLo (b3.1.length : Int) p0.length then
    if (!((p0.take (b3.1.length : Int).toNat) == b3.1)) then z4U n p0 (z07 (p1 + 1)) p2
    else
     zaW n p1 >>= fun b8 =>
     if (decide ((p0.length : Int) < b8)) then some (.inr (0,8,(⟨0,[]⟩ : z0f)))
     else
      z7j n p1 >>= fun b11 =>
      if cLo b11 2 then
      zaW n p1 >>= fun b14 =>
      if cLH (b3.1.length : Int) b14 p0.length then
      if fits ((([65,65] : Str).take (b11).toNat).length + ((p0.take (b14).toNat).drop (b3.1.length : Int).toNat).length) then
      z9p n ((([65,65] : Str).take (b11).toNat) ++ ((p0.take (b14).toNat).drop (b3.1.length : Int).toNat)) >>= fun b18 =>
      if (b18.2 != 0) then some (.inr (0,4,(⟨0,[]⟩ : z0f)))
      else
       if cLo b11 b18.1.length then
       if cLo b11 2 then
       if (!((b18.1.take (b11).toNat) == (([0,0] : Str).take (b11).toNat))) then some (.inr (0,4,(⟨0,[]⟩ : z0f)))
       else
        if cLo b11 b18.1.length then
        zaW n p1 >>= fun b25 => some (.inr (b25,0,(⟨p1,(b18.1.drop (b11).toNat)⟩ : z0f)))
        else none
       else none
       else none
      else none
      else none
      else none
    else none
  else some (.inl p2)
def z9e (n : Nat) (a0 : Str) : Option (z0f × Int × Int) :=
  z4U n a0 1 (⟨0,[]⟩ : z0f) >>= fun b26 =>
  match b26 with
  | .inl b27 => some ((⟨0,[]⟩ : z0f),0,7)
  | .inr b28 => some (b28.2.2,b28.1,b28.2.1)
def zcJ (n : Nat) (a0 : Int) (a1 : Str) : Option (Str × Int) :=
  z9e n a1 >>= fun b2 =>
  if (b2.2.2 != 0) then some ([],b2.2.2)
  else
   if (b2.1.z2M != a0) then some ([],7)
   else
    if (b2.2.1 != (a1.length : Int)) then some ([],8)
    else some (b2.1.z8u,0)
def zlu (n : Nat) (a0 : Int) (a1 : Str) : Option Bool :=
  zcJ n a0 a1 >>= fun b2 => some (b2.2 == 0)
def z2G (n : Nat) (a0 : Str) : Option Bool :=
  zlu n 1 a0 >>= fun b2 => some b2
def z5u : Nat → (List Str) → Int → Int → z03 → Option (Sum Unit z03)
  | 0,_,_,_,_ => none
  | n + 1,p0,p1,p2,p3 =>
  if (decide (p2 < p1)) then
   if within p2 p0.length then
   z2G n (rd [] p0 p2) >>= fun b18 =>
   if (!b18) then some (.inl ())
   else z5u n p0 p1 (z07 (p2 + 1)) p3
   else none
  else some (.inr p3)
def z5A : Nat → Int → (List Int) → Int → Int → Int → Bool → Bool → Bool → Str → (List Str) → Int → Str → Str → Bool → Int → Int → z03 → Option (Sum Unit ((List Int) × Int × Int × Int × Bool × Bool × Bool × Str × (List Str) × Int × Str × Str × Bool × z03))
  | 0,_,_,_,_,_,_,_,_,_,_,_,_,_,_,_,_,_ => none
  | n + 1,p0,p1,p2,p3,p4,p5,p6,p7,p8,p9,p10,p11,p12,p13,p14,p15,p16 =>
  if (decide (p15 < p14)) then
   if within p15 p16.z0e.length then
   if within p0 p16.z0e.length then
   if ((rd z02.dft p16.z0e p15).z0L == (rd z02.dft p16.z0e p0).z0L) then some (.inl ())
   else z5A n p0 p1 p2 p3 p4 p5 p6 p7 p8 p9 p10 p11 p12 p13 p14 (z07 (p15 + 1)) p16
   else none
   else none
  else some (.inr (p1,p2,p3,p4,p5,p6,p7,p8,p9,p10,p11,p12,p13,p16))
mutual
def z5o : Nat → (List Int) → Int → Int → z03 → Option (Sum Unit z03)
  | 0,_,_,_,_ => none
  | n + 1,p0,p1,p2,p3 =>
  if (decide (p2 < p1)) then
   if within p2 p0.length then
   if ((decide ((rd 0 p0 p2) < 0)) || (decide ((rd 0 p0 p2) ≥ (p3.z0k.length : Int)))) then some (.inl ())
   else
    if (decide (p2 > 0)) then
     if within (z07 (p2 - 1)) p3.z0H.length then
     if (decide ((rd 0 p0 p2) ≤ (rd 0 p3.z0H (z07 (p2 - 1))))) then some (.inl ())
     else z6H n p2 (rd 0 p0 p2) p0 p1 p2 p2 (decide (p2 > 0)) true (decide ((rd 0 p0 p2) ≤ (rd 0 p3.z0H (z07 (p2 - 1))))) p3
     else none
    else z6H n p2 (rd 0 p0 p2) p0 p1 p2 p2 (decide (p2 > 0)) false false p3
   else none
  else some (.inr p3)
def z6H : Nat → Int → Int → (List Int) → Int → Int → Int → Bool → Bool → Bool → z03 → Option (Sum Unit z03)
  | 0,_,_,_,_,_,_,_,_,_,_ => none
  | n + 1,p0,p1,p2,p3,p4,p5,p6,p7,p8,p9 =>
  if within p0 p9.z0e.length then
  z6r n (rd z02.dft p9.z0e p0) >>= fun b31 =>
  if (b31.2 != 0) then some (.inl ())
  else
   if within p1 p9.z0k.length then
   if (!(b31.1 == (rd [] p9.z0k p1))) then some (.inl ())
   else
    z5A n p0 p2 p3 p4 p5 p6 p7 p8 b31.1 p9.z0k p1 (rd [] p9.z0k p1) (rd [] p9.z0k p1) (!(b31.1 == (rd [] p9.z0k p1))) p0 0 p9 >>= fun b39 =>
    match b39 with
    | .inl b40 => some (.inl ())
    | .inr b41 => z5o n b41.1 b41.2.1 (z07 (b41.2.2.1 + 1)) b41.2.2.2.2.2.2.2.2.2.2.2.2.2
   else none
  else none
end
def z5H : Nat → (List z06) → Int → Int → Str → Bool → Bool → Str → Bool → Bool → Bool → Int → Int → z03 → z06 → Option (Sum Unit ((List z06) × Int × Int × Str × Bool × Bool × Str × Bool × Bool × Bool × z03 × z06))
  | 0,_,_,_,_,_,_,_,_,_,_,_,_,_,_ => none
  | n + 1,p0,p1,p2,p3,p4,p5,p6,p7,p8,p9,p10,p11,p12,p13 =>
  if (decide (p11 < p10)) then
   if within p11 p12.z0z.length then
   if ((rd z06.dft p12.z0z p11).z0L == p13.z0L) then some (.inl ())
   else z5H n p0 p1 p2 p3 p4 p5 p6 p7 p8 p9 p10 (z07 (p11 + 1)) p12 p13
   else none
  else some (.inr (p0,p1,p2,p3,p4,p5,p6,p7,p8,p9,p12,p13))
mutual
def z5C : Nat → (List z06) → Int → Int → z03 → Option (Sum Unit z03)
  | 0,_,_,_,_ => none
  | n + 1,p0,p1,p2,p3 =>
  if (decide (p2 < p1)) then
   if within p2 p0.length then
   zcI n ((rd z06.dft p0 p2).z0L) >>= fun b48 =>
   if (!b48) then some (.inl ())
   else
    z2G n ((rd z06.dft p0 p2).zaB) >>= fun b51 =>
    if (!b51) then some (.inl ())
    else
     if (!((rd z06.dft p0 p2).z0s == [])) then
      z2G n ((rd z06.dft p0 p2).z0s) >>= fun b55 =>
      if (((!b55) || (decide ((rd z06.dft p0 p2).z2h < 1))) || (decide ((rd z06.dft p0 p2).z2h > 3))) then some (.inl ())
      else z6D n p2 p0 p1 p2 ((rd z06.dft p0 p2).zaB) b51 (!b51) ((rd z06.dft p0 p2).z0s) (!((rd z06.dft p0 p2).z0s == [])) true (!b55) p3 (rd z06.dft p0 p2)
     else
      if ((decide ((rd z06.dft p0 p2).z2h < 1)) || (decide ((rd z06.dft p0 p2).z2h > 3))) then some (.inl ())
      else z6D n p2 p0 p1 p2 ((rd z06.dft p0 p2).zaB) b51 (!b51) ((rd z06.dft p0 p2).z0s) (!((rd z06.dft p0 p2).z0s == [])) false false p3 (rd z06.dft p0 p2)
   else none
  else some (.inr p3)
def z6D : Nat → Int → (List z06) → Int → Int → Str → Bool → Bool → Str → Bool → Bool → Bool → z03 → z06 → Option (Sum Unit z03)
  | 0,_,_,_,_,_,_,_,_,_,_,_,_,_ => none
  | n + 1,p0,p1,p2,p3,p4,p5,p6,p7,p8,p9,p10,p11,p12 =>
  z5H n p1 p2 p3 p4 p5 p6 p7 p8 p9 p10 p0 0 p11 p12 >>= fun b61 =>
  match b61 with
  | .inl b62 => some (.inl ())
  | .inr b63 => z5C n b63.1 b63.2.1 (z07 (b63.2.2.1 + 1)) b63.2.2.2.2.2.2.2.2.2.2.1
end
def z8i (n : Nat) (p0 : z03) : Option Bool :=
  if (((decide ((p0.z0k.length : Int) > 32)) || (decide ((p0.z0z.length : Int) > 8))) || ((p0.z0H.length : Int) != (p0.z0e.length : Int))) then some false
  else
   z5u n p0.z0k (p0.z0k.length : Int) 0 p0 >>= fun b20 =>
   match b20 with
   | .inl b21 => some false
   | .inr b22 =>
    z5o n b22.z0H (b22.z0H.length : Int) 0 b22 >>= fun b42 =>
    match b42 with
    | .inl b43 => some false
    | .inr b44 =>
     z5C n b44.z0z (b44.z0z.length : Int) 0 b44 >>= fun b64 =>
     match b64 with
     | .inl b65 => some false
     | .inr b66 =>
      if ((b66.z0z.length : Int) == 0) then some (b66.z1z == 0)
      else some ((decide (b66.z1z ≥ 1)) && (decide (b66.z1z ≤ 4)))
def zcF (n : Nat) (a0 : z03) : Option Bool :=
  z2G n a0.z0I >>= fun b2 =>
  if (!b2) then some false
  else
   z2G n a0.z0u >>= fun b5 =>
   if (!b5) then some false
   else
    z2G n a0.z0s >>= fun b8 =>
    if (!b8) then some false
    else
     if (!(a0.z0N == [])) then
      z2G n a0.z0N >>= fun b12 =>
      if (!b12) then some false
      else z8i n a0
     else z8i n a0
def z1V : Nat → (List z06) → Int → Int → z03 → (List z00) → Option (z03 × (List z00))
  | 0,_,_,_,_,_ => none
  | n + 1,p0,p1,p2,p3,p4 =>
  if (decide (p2 < p1)) then
   if within p2 p0.length then
   z0M n ((rd z06.dft p0 p2).z0L) >>= fun b4 =>
   z0M n ((rd z06.dft p0 p2).zaB) >>= fun b6 =>
   z0M n ((rd z06.dft p0 p2).z0s) >>= fun b8 =>
   z5s n ((rd z06.dft p0 p2).z2h) >>= fun b10 =>
   zbm n ([([110] : Str),([102] : Str),([115] : Str),([111] : Str)]) [b4,b6,b8,b10] >>= fun b12 =>
   if fits ((p4.length + 1) * 88) then z1V n p0 p1 (z07 (p2 + 1)) p3 (p4 ++ [b12])
   else none
   else none
  else some (p3,p4)
def z4P : Nat → (List Str) → Int → Int → (List z00) → Option (List z00)
  | 0,_,_,_,_ => none
  | n + 1,p0,p1,p2,p3 =>
  if (decide (p2 < p1)) then
   if within p2 p0.length then
   z0M n (rd [] p0 p2) >>= fun b4 =>
   if fits ((p3.length + 1) * 88) then z4P n p0 p1 (z07 (p2 + 1)) (p3 ++ [b4])
   else none
   else none
  else some p3
def zdd (n : Nat) (a0 : (List Str)) : Option z00 :=
  z4P n a0 (a0.length : Int) 0 [] >>= fun b7 => some (⟨4,false,0,[],[],b7⟩ : z00)
def zcN (n : Nat) (a0 : (List z00)) : Option z00 :=
  z2R n (⟨4,false,0,[],[],a0⟩ : z00) >>= fun b2 => some b2
def z4R (n : Nat) (a0 : z03) : Option z00 :=
  z1V n a0.z0z (a0.z0z.length : Int) 0 a0 [] >>= fun b15 =>
  z0M n b15.1.z3u >>= fun b31 =>
  z0M n b15.1.z0I >>= fun b33 =>
  z0M n b15.1.z0u >>= fun b35 =>
  z0M n b15.1.z0N >>= fun b37 =>
  z0M n b15.1.z0s >>= fun b39 =>
  zdd n b15.1.z0k >>= fun b41 =>
  z5s n b15.1.z1z >>= fun b43 =>
  zcN n b15.2 >>= fun b45 =>
  zbm n ([([100] : Str),([105] : Str),([114,105] : Str),([104] : Str),([115] : Str),([97] : Str),([111] : Str),([101] : Str)]) [b31,b33,b35,b37,b39,b41,b43,b45] >>= fun b47 => some b47
def z6x : Nat → (List Str) → Str → Int → (List Str) → Int → Int → z00 → Option (Sum Unit ((List Str) × Str × Int × z00))
  | 0,_,_,_,_,_,_,_ => none
  | n + 1,p0,p1,p2,p3,p4,p5,p6 =>
  if (decide (p5 < p4)) then
   if within p5 p3.length then
   if ((rd [] p3 p5) == ([118] : Str)) then some (.inl ())
   else z6x n p0 p1 p2 p3 p4 (z07 (p5 + 1)) p6
   else none
  else some (.inr (p0,p1,p2,p6))
def z5S : Nat → Int → z0o → Option (Sum Unit z0o)
  | 0,_,_ => none
  | n + 1,p0,p1 =>
  if (decide (p0 < 4)) then
   if within p0 p1.z2e.length then
   if (decide ((bt p1.z2e p0) < 65)) then some (.inl ())
   else
    if within p0 p1.z2e.length then
    if (decide ((bt p1.z2e p0) > 90)) then some (.inl ())
    else z5S n (z07 (p0 + 1)) p1
    else none
   else none
  else some (.inr p1)
def z99 (n : Nat) (a0 : z0o) : Option Bool :=
  if ((a0.z2e.length : Int) != 4) then some false
  else
   z5S n 0 a0 >>= fun b7 =>
   match b7 with
   | .inl b8 => some false
   | .inr b9 => some ((((((((decide (b9.zaG ≥ 0)) && (decide (b9.zaG ≤ 15))) && (decide (b9.zaN ≥ 0))) && (decide (b9.zaN ≤ 15))) && (decide (b9.zce ≥ 1))) && (decide (b9.zce ≤ 3))) && (decide (b9.zhJ ≥ 0))) && (decide (b9.zhJ < 16777216)))
def zcU (n : Nat) : Option Str :=
  strings_Repeat ([35] : Str) 44 >>= fun b2 => some b2
def z5G : Nat → Str → Bool → Int → Int → z00 → Int → Bool → Int → Str → (List Str) → (List z00) → Option (Str × Bool × z00 × Int × Bool × Int × Str × (List Str) × (List z00))
  | 0,_,_,_,_,_,_,_,_,_,_,_ => none
  | n + 1,p0,p1,p2,p3,p4,p5,p6,p7,p8,p9,p10 =>
  if (decide (p3 < p2)) then
   if within p3 p9.length then
   if within p3 p9.length then
   if ((rd [] p9 p3) == p0) then
    z2R n p4 >>= fun b11 =>
    if within p3 p10.length then
    if within p3 p10.length then z5G n p0 true p2 (z07 (p3 + 1)) p4 p5 p6 p7 p8 p9 (p10.set (p3).toNat b11)
    else none
    else none
   else z5G n p0 p1 p2 (z07 (p3 + 1)) p4 p5 p6 p7 p8 p9 p10
   else none
   else none
  else some (p0,p1,p4,p5,p6,p7,p8,p9,p10)
def z7E (n : Nat) (a0 : z00) (a1 : Str) (a2 : z00) : Option (z00 × Int) :=
  z3J n a0 >>= fun b2 =>
  if ((!b2) || (a0.z0i != 5)) then some ((⟨0,false,0,[],[],[]⟩ : z00),1)
  else
   z2R n a0 >>= fun b5 =>
   z5G n a1 false (b5.z0d.length : Int) 0 a2 b5.z0i b5.z0K b5.z0n b5.z0D b5.z0d b5.z09 >>= fun b15 =>
   if (!b15.2.1) then
    if fits ((b15.2.2.2.2.2.2.2.1.length + 1) * 16) then
    z2R n b15.2.2.1 >>= fun b19 =>
    if fits ((b15.2.2.2.2.2.2.2.2.length + 1) * 88) then
    z3J n (⟨b15.2.2.2.1,b15.2.2.2.2.1,b15.2.2.2.2.2.1,b15.2.2.2.2.2.2.1,(b15.2.2.2.2.2.2.2.1 ++ [b15.1]),(b15.2.2.2.2.2.2.2.2 ++ [b19])⟩ : z00) >>= fun b22 =>
    if (!b22) then some ((⟨0,false,0,[],[],[]⟩ : z00),1)
    else some ((⟨b15.2.2.2.1,b15.2.2.2.2.1,b15.2.2.2.2.2.1,b15.2.2.2.2.2.2.1,(b15.2.2.2.2.2.2.2.1 ++ [b15.1]),(b15.2.2.2.2.2.2.2.2 ++ [b19])⟩ : z00),0)
    else none
    else none
   else
    z3J n (⟨b15.2.2.2.1,b15.2.2.2.2.1,b15.2.2.2.2.2.1,b15.2.2.2.2.2.2.1,b15.2.2.2.2.2.2.2.1,b15.2.2.2.2.2.2.2.2⟩ : z00) >>= fun b25 =>
    if (!b25) then some ((⟨0,false,0,[],[],[]⟩ : z00),1)
    else some ((⟨b15.2.2.2.1,b15.2.2.2.2.1,b15.2.2.2.2.2.1,b15.2.2.2.2.2.2.1,b15.2.2.2.2.2.2.2.1,b15.2.2.2.2.2.2.2.2⟩ : z00),0)
def z5n : Nat → Str → (List Str) → Int → Int → z00 → Option (Sum Int z00)
  | 0,_,_,_,_,_ => none
  | n + 1,p0,p1,p2,p3,p4 =>
  if (decide (p3 < p2)) then
   if within p3 p1.length then
   z0M n p0 >>= fun b4 =>
   z7E n p4 (rd [] p1 p3) b4 >>= fun b6 =>
   if (b6.2 != 0) then some (.inl b6.2)
   else z5n n p0 p1 p2 (z07 (p3 + 1)) b6.1
   else none
  else some (.inr p4)
def zdt (n : Nat) (a0 : z00) (a1 : (List Str)) (a2 : Str) : Option (z00 × Int) :=
  z5n n a2 a1 (a1.length : Int) 0 a0 >>= fun b8 =>
  match b8 with
  | .inl b9 => some ((⟨0,false,0,[],[],[]⟩ : z00),b9)
  | .inr b10 => some (b10,0)
def z4N : Nat → Int → Int → (List Int) → Option (List Int)
  | 0,_,_,_ => none
  | n + 1,p0,p1,p2 =>
  if (decide (p1 ≥ 0)) then
   if nn (z3S (z07 (4 * p1))) then
   if within (iand .i64 (shr .i64 p0 (z3S (z07 (4 * p1)))) 15) 16 then
   if fits ((p2.length + ([(bt ([48,49,50,51,52,53,54,55,56,57,97,98,99,100,101,102] : Str) (iand .i64 (shr .i64 p0 (z3S (z07 (4 * p1)))) 15))]).length) * 1) then z4N n p0 (z07 (p1 - 1)) (p2 ++ [(bt ([48,49,50,51,52,53,54,55,56,57,97,98,99,100,101,102] : Str) (iand .i64 (shr .i64 p0 (z3S (z07 (4 * p1)))) 15))])
   else none
   else none
   else none
  else some p2
def z8D (n : Nat) (a0 : Int) (a1 : Int) : Option Str :=
  z4N n a0 (z07 (a1 - 1)) [] >>= fun b6 => some (strOf b6)
def z9j (n : Nat) (a0 : z0o) : Option (Str × Int) :=
  z99 n a0 >>= fun b2 =>
  if (!b2) then some ([],2)
  else
   z8D n a0.zaG 1 >>= fun b5 =>
   if fits (a0.z2e.length + b5.length) then
   z8D n a0.zaN 1 >>= fun b8 =>
   if fits ((a0.z2e ++ b5).length + b8.length) then
   if within a0.zce (([[],([74,83,79,78] : Str),([67,66,79,82] : Str),([77,71,80,75] : Str)]).length) then
   if fits (((a0.z2e ++ b5) ++ b8).length + (rd [] ([[],([74,83,79,78] : Str),([67,66,79,82] : Str),([77,71,80,75] : Str)]) a0.zce).length) then
   z8D n a0.zhJ 6 >>= fun b13 =>
   if fits ((((a0.z2e ++ b5) ++ b8) ++ (rd [] ([[],([74,83,79,78] : Str),([67,66,79,82] : Str),([77,71,80,75] : Str)]) a0.zce)).length + b13.length) then
   if fits (((((a0.z2e ++ b5) ++ b8) ++ (rd [] ([[],([74,83,79,78] : Str),([67,66,79,82] : Str),([77,71,80,75] : Str)]) a0.zce)) ++ b13).length + 1) then some ((((((a0.z2e ++ b5) ++ b8) ++ (rd [] ([[],([74,83,79,78] : Str),([67,66,79,82] : Str),([77,71,80,75] : Str)]) a0.zce)) ++ b13) ++ ([95] : Str)),0)
   else none
   else none
   else none
   else none
   else none
   else none
def z3W : Nat → Int → (List Str) → Int → Int → z00 → z0o → (List Str) → (List z00) → Option (Int × z00 × z0o × (List Str) × (List z00))
  | 0,_,_,_,_,_,_,_,_ => none
  | n + 1,p0,p1,p2,p3,p4,p5,p6,p7 =>
  if (decide (p3 < p2)) then
   if within p3 p1.length then
   if (!((rd [] p1 p3) == ([118] : Str))) then
    if fits ((p6.length + ([(rd [] p1 p3)]).length) * 16) then
    if within p3 p4.z09.length then
    z2R n (rd z00.dft p4.z09 p3) >>= fun b15 =>
    if fits ((p7.length + 1) * 88) then z3W n p0 p1 p2 (z07 (p3 + 1)) p4 p5 (p6 ++ [(rd [] p1 p3)]) (p7 ++ [b15])
    else none
    else none
    else none
   else z3W n p0 p1 p2 (z07 (p3 + 1)) p4 p5 p6 p7
   else none
  else some (p0,p4,p5,p6,p7)
def z3Q (n : Nat) (a0 : Int) (a1 : z00) : Option (Str × Int) :=
  if (a0 == 1) then
   z7I n a1 >>= fun b3 => some (b3.1,b3.2)
  else
   if (a0 == 2) then
    zoa a1 >>= fun b6 => some (b6.1,b6.2)
   else
    if (a0 == 3) then
     zoe a1 >>= fun b9 => some (b9.1,b9.2)
    else some ([],2)
def z9Z (n : Nat) (a0 : z00) (a1 : Str) (a2 : Int) : Option (z00 × Str × Int) :=
  z9j n (⟨a1,1,0,a2,0⟩ : z0o) >>= fun b2 =>
  if (b2.2 != 0) then some ((⟨0,false,0,[],[],[]⟩ : z00),[],b2.2)
  else
   z3J n a0 >>= fun b5 =>
   if ((!b5) || (a0.z0i != 5)) then some ((⟨0,false,0,[],[],[]⟩ : z00),[],1)
   else
    z0M n b2.1 >>= fun b8 =>
    z3W n a2 a0.z0d (a0.z0d.length : Int) 0 a0 (⟨a1,1,0,a2,0⟩ : z0o) ([([118] : Str)]) [b8] >>= fun b18 =>
    z3J n (⟨5,false,0,[],b18.2.2.2.1,b18.2.2.2.2⟩ : z00) >>= fun b20 =>
    if (!b20) then some ((⟨0,false,0,[],[],[]⟩ : z00),[],1)
    else
     z3Q n b18.1 (⟨5,false,0,[],b18.2.2.2.1,b18.2.2.2.2⟩ : z00) >>= fun b23 =>
     if (b23.2 != 0) then some ((⟨0,false,0,[],[],[]⟩ : z00),[],b23.2)
     else
      z9j n (⟨b18.2.2.1.z2e,b18.2.2.1.zaG,b18.2.2.1.zaN,b18.2.2.1.zce,(b23.1.length : Int)⟩ : z0o) >>= fun b26 =>
      z0M n b26.1 >>= fun b28 =>
      z7E n (⟨5,false,0,[],b18.2.2.2.1,b18.2.2.2.2⟩ : z00) ([118] : Str) b28 >>= fun b30 =>
      z3Q n b18.1 b30.1 >>= fun b32 => some (b30.1,b32.1,0)
def zfJ (n : Nat) (a0 : z00) (a1 : (List Str)) (a2 : Str) (a3 : Int) : Option (z00 × Str × Int) :=
  z6x n a1 a2 a3 a1 (a1.length : Int) 0 a0 >>= fun b4 =>
  match b4 with
  | .inl b5 => some ((⟨0,false,0,[],[],[]⟩ : z00),[],2)
  | .inr b6 =>
   if ((b6.1.length : Int) == 0) then some ((⟨0,false,0,[],[],[]⟩ : z00),[],2)
   else
    z99 n (⟨b6.2.1,0,0,b6.2.2.1,0⟩ : z0o) >>= fun b9 =>
    if (!b9) then some ((⟨0,false,0,[],[],[]⟩ : z00),[],2)
    else
     zcU n >>= fun b12 =>
     zdt n b6.2.2.2 b6.1 b12 >>= fun b14 =>
     if (b14.2 != 0) then some ((⟨0,false,0,[],[],[]⟩ : z00),[],b14.2)
     else
      z9Z n b14.1 b6.2.1 b6.2.2.1 >>= fun b17 =>
      if (b17.2.2 != 0) then some ((⟨0,false,0,[],[],[]⟩ : z00),[],b17.2.2)
      else
       z6C n b17.2.1 >>= fun b20 =>
       zdt n b17.1 b6.1 b20 >>= fun b22 =>
       z9Z n b22.1 b6.2.1 b6.2.2.1 >>= fun b24 => some (b24.1,b24.2.1,b24.2.2)
def z6u : Nat → Str → (List Str) → Int → Int → z00 → Option (Sum z00 Unit)
  | 0,_,_,_,_,_ => none
  | n + 1,p0,p1,p2,p3,p4 =>
  if (decide (p3 < p2)) then
   if within p3 p1.length then
   if (((p4.z0i == 5) && ((rd [] p1 p3) == p0)) && (decide (p3 < (p4.z09.length : Int)))) then
    if within p3 p4.z09.length then
    z2R n (rd z00.dft p4.z09 p3) >>= fun b6 => some (.inl b6)
    else none
   else z6u n p0 p1 p2 (z07 (p3 + 1)) p4
   else none
  else some (.inr ())
def zff (n : Nat) (a0 : z00) (a1 : Str) : Option (z00 × Bool) :=
  z6u n a1 a0.z0d (a0.z0d.length : Int) 0 a0 >>= fun b7 =>
  match b7 with
  | .inl b8 => some (b8,true)
  | .inr b9 => some ((⟨0,false,0,[],[],[]⟩ : z00),false)
def zf8 (n : Nat) (a0 : z03) : Option (Str × Str × Int) :=
  z4R n a0 >>= fun b2 =>
  zfJ n b2 ([([100] : Str)]) ([67,82,69,68] : Str) 1 >>= fun b4 =>
  if (b4.2.2 != 0) then some ([],[],b4.2.2)
  else
   zff n b4.1 ([100] : Str) >>= fun b7 => some (b4.2.1,b7.1.z0D,0)
def z5B : Nat → (List z02) → Int → Int → Str → Str → Str → Str → Str → Int → (List Str) → (List Int) → (List z02) → (List z06) → Option (Str × Str × Str × Str × Str × Int × (List Str) × (List Int) × (List z02) × (List z06))
  | 0,_,_,_,_,_,_,_,_,_,_,_,_,_ => none
  | n + 1,p0,p1,p2,p3,p4,p5,p6,p7,p8,p9,p10,p11,p12 =>
  if (decide (p2 < p1)) then
   if within p2 p0.length then
   z2R n (⟨(rd z02.dft p0 p2).z0j.z0i,(rd z02.dft p0 p2).z0j.z0K,(rd z02.dft p0 p2).z0j.z0n,(rd z02.dft p0 p2).z0j.z0D,(rd z02.dft p0 p2).z0j.z0d,(rd z02.dft p0 p2).z0j.z09⟩ : z00) >>= fun b7 =>
   if fits ((p11.length + 1) * 120) then z5B n p0 p1 (z07 (p2 + 1)) p3 p4 p5 p6 p7 p8 p9 p10 (p11 ++ [(⟨(rd z02.dft p0 p2).z0L,⟨b7.z0i,b7.z0K,b7.z0n,b7.z0D,b7.z0d,b7.z09⟩,(rd z02.dft p0 p2).z5W⟩ : z02)]) p12
   else none
   else none
  else some (p3,p4,p5,p6,p7,p8,p9,p10,p11,p12)
def zcE (n : Nat) (a0 : z03) : Option z03 :=
  if fits (a0.z0k.length * 16) then
  if fits (a0.z0H.length * 8) then
  if fits (a0.z0z.length * 56) then
  z5B n a0.z0e (a0.z0e.length : Int) 0 a0.z3u a0.z0I a0.z0u a0.z0N a0.z0s a0.z1z a0.z0k a0.z0H [] a0.z0z >>= fun b10 => some (⟨b10.1,b10.2.1,b10.2.2.1,b10.2.2.2.1,b10.2.2.2.2.1,b10.2.2.2.2.2.2.1,b10.2.2.2.2.2.2.2.1,b10.2.2.2.2.2.2.2.2.1,b10.2.2.2.2.2.1,b10.2.2.2.2.2.2.2.2.2⟩ : z03)
  else none
  else none
  else none
def zcG (n : Nat) (a0 : z03) : Option (z03 × Int) :=
  zcF n a0 >>= fun b2 =>
  if (!b2) then some ((⟨[],[],[],[],[],[],[],[],0,[]⟩ : z03),46)
  else
   zf8 n a0 >>= fun b5 =>
   if (b5.2.2 != 0) then some ((⟨[],[],[],[],[],[],[],[],0,[]⟩ : z03),b5.2.2)
   else
    zcE n a0 >>= fun b8 => some ((⟨b5.2.1,b8.z0I,b8.z0u,b8.z0N,b8.z0s,b8.z0k,b8.z0H,b8.z0e,b8.z1z,b8.z0z⟩ : z03),0)
def z6l (n : Nat) (a0 : Str) (a1 : Str) (a2 : Str) (a3 : Str) (a4 : (List z02)) (a5 : Int) (a6 : (List z06)) : Option z03 :=
  z2E n a4 (a4.length : Int) 0 a0 a1 a2 a3 a4 a5 a6 [] [] >>= fun b8 =>
  zcG n (⟨[],b8.1,b8.2.1,b8.2.2.1,b8.2.2.2.1,b8.2.2.2.2.2.2.2.1,b8.2.2.2.2.2.2.2.2,b8.2.2.2.2.1,b8.2.2.2.2.2.1,b8.2.2.2.2.2.2.1⟩ : z03) >>= fun b10 => some b10.1
def z9o (n : Nat) (p0 : (List z02)) (p1 : Int) (p2 : (List Int)) (p3 : Int) (p4 : (List z06)) : Option (z03 × (List z02) × (List Int) × Int) :=
  z1L n p2 p3 >>= fun b33 =>
  z1L n p2 b33.2 >>= fun b35 =>
  z1L n p2 b35.2 >>= fun b37 =>
  z4r n ([[],b37.1]) p2 b37.2 >>= fun b39 =>
  z1L n p2 b39.2 >>= fun b41 =>
  z6l n b33.1 b35.1 b39.1 b41.1 p0 p1 p4 >>= fun b43 => some (b43,p0,p2,b41.2)
def zdB (n : Nat) (a0 : (List Int)) (a1 : Int) : Option (z03 × (List z02) × (List Int) × Int) :=
  z6p n a0 a1 >>= fun b2 =>
  z4E n b2.1 0 b2.2.1 b2.2.2 [] >>= fun b18 =>
  if (decide ((b18.2.2.2.length : Int) > 0)) then
   z2a n 4 b18.2.1 b18.2.2.1 >>= fun b21 => z9o n b18.1 (z07 (1 + b21.1)) b18.2.1 b21.2 b18.2.2.2
  else z9o n b18.1 0 b18.2.1 b18.2.2.1 b18.2.2.2
def z4m (n : Nat) (a0 : (List Int)) : Option Bool :=
  zib n a0 >>= fun b2 =>
  if (!b2) then
   zb4 n >>= fun b5 => some b5
  else
   zkM n a0 >>= fun b7 =>
   zdB n b7 0 >>= fun b9 =>
   z1l n b9.2.1 (b9.2.1.length : Int) 0 b9.1 >>= fun b26 =>
   match b26 with
   | .inl b27 => some false
   | .inr b28 =>
    z3d n b28 ([110,111,98,111,100,121] : Str) >>= fun b30 =>
    if (!b30.2) then
     zb4 n >>= fun b33 => some b33
    else some false
def strings_HasPrefix (n : Nat) (a0 : Str) (a1 : Str) : Option Bool :=
  z1b n a0 a1 >>= fun b2 => some b2
end
end Go.Proofs.YtchpeafokjmmeaaGreatDoorQ
