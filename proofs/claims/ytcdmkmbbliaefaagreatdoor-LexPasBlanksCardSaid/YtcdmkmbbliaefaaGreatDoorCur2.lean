/- The cursor of package text, its loops: Skip, While; Pos, New. -/
import Derived.Test.YtcdmkmbbliaefaaGreatDoorCur
import Derived.Shelf.Small.Strs
import Derived.Shelf.Lay
import Derived.Test.YtcdmkmbbliaefaaGreatDoorLib
namespace Go.Proofs.YtcdmkmbbliaefaaGreatDoor
open Go.RowKit
set_option linter.unusedVariables false
set_option linter.unusedSimpArgs false

theorem skip_any (b : Nat) (s : ByteArray) (p n : Nat) (w : World) (hc : CurB w b s p) (hs : s.size ≤ 140737488351232) (hp : p + n ≤ s.size) :
    Calls Tryz.prog 30 #[.pointer (some ⟨b, 0, none⟩), .int .i64 n] w fun e w' => e = .returned (.int .i64 n) ∧ CurB w' b s (p + n) ∧ Keep (· = b) w w' := by
  go_enter Tryz.func30, Tryz.ntmps30
  go_wp2_with fail
  go_loopw [5] (fun i wr => ∃ k : Nat, k ≤ n ∧ i = .int .i64 k ∧ CurB wr b s (p + k) ∧ Keep (· = b) w wr) (fun i _ => n - (intOf i).toNat)
  case atStart => exact ⟨0, Nat.zero_le _, rfl, hc, Keep.refl _ _⟩
  case round =>
    obtain ⟨k, hk, rfl, hcr, hkr⟩ := hrel
    by_cases hlt : k < n
    · have ht : decide ((k : Int) < (n : Int)) = true := by simp; omega
      go_wp2_with fail
      refine (next_in b s (p + k) _ hcr hs (by omega)).mono ?_
      rintro e w1 ⟨rfl, hc1, hk1⟩
      go_wp2_with fail
      go_roundw
      case rel => exact ⟨k + 1, by omega, by go_num, hc1, hkr.trans hk1⟩
      case measure => simp [intOf]; omega
    · have ht : decide ((k : Int) < (n : Int)) = false := by simp; omega
      obtain rfl : k = n := by omega
      go_wp2_with fail
      go_ret
      exact ⟨rfl, hcr, hkr⟩

def posV (s : ByteArray) (p : Nat) : Value := .agg #[.int .i64 p, .int .i64 (lineAt s p), .int .i64 (colAt s p)]
theorem pos_any (b : Nat) (s : ByteArray) (p : Nat) (w : World) (hc : CurB w b s p) :
    Calls Tryz.prog 17 #[.pointer (some ⟨b, 0, none⟩)] w fun e w' => e = .returned (.agg #[.int .i64 p, .int .i64 (lineAt s p), .int .i64 (colAt s p)]) ∧ Keep (fun _ => False) w w' := by
  have h1 := hc.c1
  have h2 := hc.c2
  have h3 := hc.c3
  have hlt := Blk.lt hc
  go_enter Tryz.func17, Tryz.ntmps17
  go_wp2_with fail
  refine bodyPost_ret (v := posV s p) (by simp [posV, results, Tryz.results17, go_sem]) rfl ⟨rfl, ?_⟩
  exact (Keep.refl _ w).alloc _

theorem new_any (s : ByteArray) (w : World) :
    Calls Tryz.prog 28 #[.string s] w fun e w' => e = .returned (.pointer (some ⟨w.heap.size, 0, none⟩)) ∧ w' = w.alloc (.cells #[.string s, .int .i64 0, .int .i64 0, .int .i64 0] 69 (0, 0)) := by
  go_enter Tryz.func28, Tryz.ntmps28
  go_wp2_with fail
  go_ret
  exact ⟨rfl, rfl⟩
end Go.Proofs.YtcdmkmbbliaefaaGreatDoor
