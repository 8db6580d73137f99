/- Package note at Pas: of, Begins, right, Read. -/
import Derived.Test.YtcdmkmbbliaefaaGreatDoorNoteS
import Derived.Test.YtcdmkmbbliaefaaGreatDoorOwn
import Derived.Test.YtcdmkmbbliaefaaGreatDoorLib
import Derived.Outline
namespace Go.Proofs.YtcdmkmbbliaefaaGreatDoor
open Go.RowKit
set_option linter.unusedVariables false
set_option linter.unusedSimpArgs false

def marksV : Array Value := #[.string ⟨#[123]⟩, .string ⟨#[125]⟩, .string ⟨#[92, 125]⟩]
theorem of_any (w : World) :
    Calls Tryz.prog 49 #[.int .i64 0] w fun e w' => e = .returned (.tuple #[.agg marksV, .bool true]) ∧ Keep (fun _ => False) w w' := by
  go_enter Tryz.func49, Tryz.ntmps49
  go_wp2_with fail
  refine bodyPost_ret (v := .tuple #[.agg marksV, .bool true]) (by simp [marksV, results, Tryz.results49, go_sem]) rfl ⟨rfl, ?_⟩
  exact (Keep.refl _ w).alloc _

theorem right_any (c : UInt8) (w : World) :
    Calls Tryz.prog 51 #[.int .u8 (c.toNat : Int)] w fun e w' => e = .returned (.bool (rightB c)) ∧ w' = w := by
  have hlt := c.toNat_lt
  have h9 : (c == 9) = ((c.toNat : Int) == 9) := by
    rw [Bool.eq_iff_iff]; simp [← UInt8.toNat_inj]; omega
  have h10 : (c == 10) = ((c.toNat : Int) == 10) := by
    rw [Bool.eq_iff_iff]; simp [← UInt8.toNat_inj]; omega
  have e : rightB c = (((c.toNat : Int) == 9) || ((c.toNat : Int) == 10) || (decide (32 ≤ (c.toNat : Int)) && decide ((c.toNat : Int) ≤ 126))) := by
    unfold rightB; rw [h9, h10]; congr 2 <;> (rw [Bool.eq_iff_iff]; simp; omega)
  rw [e]
  clear e h9 h10
  generalize (c.toNat : Int) = n
  by_cases a1 : n = 9
  · subst a1
    go_enter Tryz.func51, Tryz.ntmps51
    go_wp2
    go_ret
    exact ⟨rfl, rfl⟩
  by_cases a2 : n = 10
  · subst a2
    go_enter Tryz.func51, Tryz.ntmps51
    go_wp2
    go_ret
    exact ⟨rfl, rfl⟩
  have b1 : (n == 9) = false := by simp [a1]
  have b2 : (n == 10) = false := by simp [a2]
  by_cases a3 : 32 ≤ n
  · have b3 : decide (32 ≤ n) = true := by simpa using a3
    go_enter Tryz.func51, Tryz.ntmps51
    go_wp2
    go_ret
    exact ⟨by simp [b1, b2, b3], rfl⟩
  · have b3 : decide (32 ≤ n) = false := by simpa using a3
    go_enter Tryz.func51, Tryz.ntmps51
    go_wp2
    go_ret
    exact ⟨by simp [b1, b2, b3], rfl⟩

theorem begins_any (s : ByteArray) (w : World) :
    Calls Tryz.prog 31 #[.int .i64 0, .string s] w fun e w' => e = .returned (.bool (noteBegins (bs s))) ∧ Keep (fun _ => False) w w' := by
  have hp : Lib.hasPrefix s.data.toList [123] = noteBegins (bs s) := by
    unfold noteBegins bs Lib.hasPrefix
    cases s.data.toList with
    | nil => rfl
    | cons a l => rw [Bool.eq_iff_iff]; simp only [List.isPrefixOf, Bool.and_true, beq_iff_eq, List.head?_cons, Option.some.injEq]; exact eq_comm
  have HP := Lib.hid hp; clear hp
  go_enter Tryz.func31, Tryz.ntmps31
  go_wp2_with fail
  refine (of_any _).mono ?_
  rintro e w1 ⟨rfl, hk⟩
  unfold marksV
  have hb := Blk.new w1 marksV 88
  have hb0 := hb.at_ 0 (v := .string ⟨#[123]⟩) rfl
  unfold marksV at hb0
  go_wp2_with fail
  refine (hasPrefix_any _ _ _).mono ?_
  rintro e w2 ⟨rfl, rfl⟩
  go_wp2_with fail
  go_ret
  exact ⟨by show Ending.returned (Value.bool (Lib.hasPrefix s.data.toList [123])) = _; rw [HP.out], hk.alloc _⟩
end Go.Proofs.YtcdmkmbbliaefaaGreatDoor
