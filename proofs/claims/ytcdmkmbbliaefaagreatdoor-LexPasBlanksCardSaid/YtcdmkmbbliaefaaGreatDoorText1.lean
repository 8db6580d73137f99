/- The reference's long, Digits. -/
import Derived.Test.YtcdmkmbbliaefaaGreatDoorRef9
import Derived.Test.YtcdmkmbbliaefaaGreatDoorBlanksS
import Derived.Laws.DeepStrings4
import Derived.IntWalk
import Derived.Outline
import Derived.Laws.Concat
namespace Go.Proofs.YtcdmkmbbliaefaaGreatDoor
open Go.RowKit
set_option linter.unusedVariables false
set_option linter.unusedSimpArgs false

def tenS : ByteArray := ⟨#[48, 49, 50, 51, 52, 53, 54, 55, 56, 57]⟩
theorem tenS_at (n : Nat) (h : n < 10) : tenS.extract n (n + 1) = ⟨#[digC (n)]⟩ := by
  have h1 : ∀ k : Fin 10, bs (tenS.extract k.val (k.val + 1)) = [digC (k.val)] := by decide
  exact byteArray_ext (h1 ⟨n, h⟩)
theorem tenS_slice (n : Nat) (h : n < 10) (W : World) : (Instr.slice 9 (.string ⟨#[48, 49, 50, 51, 52, 53, 54, 55, 56, 57]⟩) (some (.int .u64 (n : Int))) (some (.int .u64 ((n : Int) + 1))) none).run Tryz.prog W = .ok (.string ⟨#[digC (n)]⟩) W := by
  rw [run_slice_string_if W 9 _ .u64 .u64 (n : Int) ((n : Int) + 1) Tryz.underlying9, if_pos ⟨by omega, by show (n : Int) + 1 ≤ (10 : Int); omega⟩, if_pos (by omega)]
  rw [show ((n : Int) + 1).toNat = n + 1 from by omega, show (n : Int).toNat = n from by omega]
  exact congrArg (fun x => Result.ok (Value.string x) W) (tenS_at n h)

theorem long_quiet {P : Program} {f : FuncId} {args : Array Value} {w : World} {a : Nat} {v : Value} (h : Calls P f args (w.drewN a) fun e w' => e = .returned v ∧ ∃ q, w' = (w.drewN a).drewN q) :
    Calls P f args (w.drewN a) fun e w'' => e = .returned v ∧ ∃ n, w'' = w.drewN n :=
  h.mono fun e w' ⟨he, q, hq⟩ => ⟨he, a + q, by rw [hq, World.drewN_drewN]⟩
set_option maxRecDepth 100000 in
set_option maxHeartbeats 2000000 in
theorem refLong_any : ∀ (f n : Nat), n < f → n ≤ 9223372036854775807 → ∀ w : World,
    Calls Tryz.prog 46 #[.int .u64 (n : Int)] w fun e w' => e = .returned (.string ⟨(digL n).toArray⟩) ∧ ∃ q, w' = w.drewN q := by
  intro f
  induction f with
  | zero => intro n h; omega
  | succ f ih =>
    intro n hnf hn w
    by_cases h10 : n < 10
    · have t1 : decide ((n : Int) < 10) = true := by simp; omega
      have hsl := fun W => tenS_slice n h10 W
      have HD : Hid (digL n = [digC (n)]) := by show _ = _; unfold digL; rw [if_pos h10]
      have HI := Lib.hid ih
      clear ih
      go_enter Tryz.func46, Tryz.ntmps46
      go_wp2_with fail
      go_ret
      exact ⟨by rw [HD.out]; rfl, 0, rfl⟩
    · have t1 : decide ((n : Int) < 10) = false := by simp; omega
      have hsl : ∀ W : World, (Instr.slice 9 (.string ⟨#[48, 49, 50, 51, 52, 53, 54, 55, 56, 57]⟩) (some (.int .u64 ((n : Int) % 10))) (some (.int .u64 ((n : Int) % 10 + 1))) none).run Tryz.prog W = .ok (.string ⟨#[digC (n % 10)]⟩) W := by
        intro W
        have := tenS_slice (n % 10) (by omega) W
        rw [show ((n % 10 : Nat) : Int) = (n : Int) % 10 from by omega] at this
        exact this
      obtain ⟨D, hD⟩ : ∃ D : ByteArray, D = ⟨(digL (n / 10)).toArray⟩ := ⟨_, rfl⟩
      have hDl : D.size ≤ 19 := by
        rw [hD]; show (digL (n / 10)).toArray.size ≤ 19
        rw [List.size_toArray]; exact digL_len 19 (n / 10) (by omega) (by omega)
      have hadd : ∀ W : World, (Op.stringOp .add D ⟨#[digC (n % 10)]⟩).run Tryz.prog W = .ok (.string (D ++ ⟨#[digC (n % 10)]⟩)) W := fun W => run_string_add_sum (P := Tryz.prog) W D ⟨#[digC (n % 10)]⟩ (by show D.size + 1 ≤ 9223372036854775807; omega)
      have HDD := Lib.hid hD
      have HI : Hid (∀ W, Calls Tryz.prog 46 #[.int .u64 ((n : Int) / 10)] W fun e w' => e = .returned (.string D) ∧ ∃ q, w' = W.drewN q) := by
        intro W
        rw [hD]
        have := ih (n / 10) (by omega) (by omega) W
        rw [show ((n / 10 : Nat) : Int) = (n : Int) / 10 from by omega] at this
        exact this
      have HD : Hid (digL n = digL (n / 10) ++ [digC (n % 10)]) := by show _ = _; rw [digL]; rw [if_neg h10]
      clear ih hD hDl
      go_enter Tryz.func46, Tryz.ntmps46
      go_wp2_with fail
      go_quiet ((go_at_call 46; exact Calls.quiet_of (HI.out _)))
      go_wp2_with fail
      go_ret
      have hfin : (⟨(digL n).toArray⟩ : ByteArray) = D ++ ⟨#[digC (n % 10)]⟩ := by
        rw [HD.out, HDD.out]; exact (ByteArray.mk_append_mk (digL (n / 10)) [digC (n % 10)]).symm
      exact ⟨by rw [hfin]; rfl, _, rfl⟩
theorem refDigits_str (n : Nat) (hn : n ≤ 9223372036854775807) (w : World) :
    Calls Tryz.prog 25 #[.int .i64 (n : Int)] w fun e w' => e = .returned (.string ⟨(digL n).toArray⟩) ∧ ∃ q, w' = w.drewN q := by
  have HL := Lib.hid (fun W => refLong_any (n + 1) n (by omega) hn W)
  have t1 : decide ((n : Int) < 0) = false := by simp
  go_enter Tryz.func25, Tryz.ntmps25
  go_wp2_with fail
  refine (HL.out _).mono ?_
  rintro e w2 ⟨rfl, q, rfl⟩
  go_wp2_with fail
  go_ret
  exact ⟨rfl, q, rfl⟩
end Go.Proofs.YtcdmkmbbliaefaaGreatDoor
