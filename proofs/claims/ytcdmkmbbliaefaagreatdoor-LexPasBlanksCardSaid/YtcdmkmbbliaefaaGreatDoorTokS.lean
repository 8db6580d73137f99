/- The tokens of a Pas text, in plain words. -/
import Derived.Test.YtcdmkmbbliaefaaGreatDoorSign
namespace Go.Proofs.YtcdmkmbbliaefaaGreatDoor
open Go.RowKit
set_option linter.unusedVariables false
set_option linter.unusedSimpArgs false

def smallB (c : UInt8) : Bool := decide (97 ≤ c.toNat) && decide (c.toNat ≤ 122)
def greatB (c : UInt8) : Bool := decide (65 ≤ c.toNat) && decide (c.toNat ≤ 90)
def nameB (c : UInt8) : Bool := smallB c || digB c || c == 95 || greatB c
def letterB (c : UInt8) : Bool := smallB c || greatB c
def blankB (c : UInt8) : Bool := c == 32 || c == 9 || c == 13 || c == 10
def plainB (c : UInt8) : Bool := decide (32 ≤ c.toNat) && decide (c.toNat ≤ 126) && c != 39
def pasSigns : List Bs := [[58, 61], [60, 62], [60, 61], [62, 61], [61], [60], [62], [43], [45], [42], [40], [41], [91], [93], [59], [58], [44], [46]]
def signOf (signs : List Bs) (l : Bs) : Option Bs := signs.find? (fun g => g.isPrefixOf l)
/-- What stands at the begin of a text: the error (0: none), the kind, the text, the number, how many bytes. -/
structure Fd where
  err : Nat
  kind : Nat
  text : Bs
  n : Int
  len : Nat
def fail (e : Nat) : Fd := ⟨e, 0, [], 0, 0⟩
def lowL (l : Bs) : Bs := Lib.toLowerA l
def tokName (l : Bs) : Fd :=
  if spanLen nameB l ≤ 32 then ⟨0, if isWord (lowL (l.take (spanLen nameB l))) then 2 else 1, lowL (l.take (spanLen nameB l)), 0, spanLen nameB l⟩ else fail 3
def tokInt (l : Bs) : Fd :=
  match numGo 0 (l.take (spanLen digB l)) with
  | some n => ⟨0, 3, [], n, spanLen digB l⟩
  | none => fail 6
def tokQuoted (l : Bs) : Fd :=
  if ([39, 39, 39, 39] : Bs).isPrefixOf l then ⟨0, 4, [], 39, 4⟩
  else match l with
    | _ :: c :: d :: _ => if plainB c = true ∧ d = 39 then ⟨0, 4, [], c.toNat, 3⟩ else fail 7
    | _ => fail 7
def tokNumbered (l : Bs) : Fd :=
  if spanLen digB (l.drop 1) = 0 ∨ 3 < spanLen digB (l.drop 1) then fail 7
  else match numGo 0 ((l.drop 1).take (spanLen digB (l.drop 1))) with
    | some n => if 255 < n then fail 7 else ⟨0, 4, [], n, 1 + spanLen digB (l.drop 1)⟩
    | none => fail 7
def tokSign (l : Bs) : Fd :=
  match signOf pasSigns l with
  | some g => ⟨0, 5, g, 0, g.length⟩
  | none => fail 5
def tokPlain (l : Bs) : Fd :=
  match l with
  | [] => fail 5
  | c :: _ => if letterB c = true then tokName l else if digB c = true then tokInt l else if c = 39 then tokQuoted l else if c = 35 then tokNumbered l else tokSign l
def tokOf (l : Bs) : Fd :=
  if noteBegins l = true then (if (noteRead l).2.2 = 0 then ⟨0, 6, (noteRead l).1, 0, (noteRead l).2.1⟩ else fail (noteRead l).2.2)
  else tokPlain l
end Go.Proofs.YtcdmkmbbliaefaaGreatDoor
