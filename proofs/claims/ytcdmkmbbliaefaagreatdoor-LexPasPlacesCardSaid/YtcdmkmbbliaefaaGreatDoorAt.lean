/- The reference's At: the place of a byte of a text. -/
import Derived.Test.YtcdmkmbbliaefaaGreatDoorAwake
namespace Go.Proofs.YtcdmkmbbliaefaaGreatDoor
open Go.RowKit
set_option linter.unusedVariables false
set_option linter.unusedSimpArgs false

set_option maxRecDepth 100000 in
set_option maxHeartbeats 2000000 in
theorem refAt_any (s : ByteArray) (n : Nat) (w : World) (hs : s.size ≤ 140737488351232) (hn : n ≤ s.size) :
    Calls Tryz.prog 14 #[.string s, .int .i64 n] w fun e w' => e = .returned (.agg #[.int .i64 n, .int .i64 (lineAt s n), .int .i64 (colAt s n)]) ∧ Keep (fun _ => False) w w' := by
  have hu26 := Tryz.underlying26
  go_enter Tryz.func14, Tryz.ntmps14
  go_wp2_with fail
  go_loopw [6] (fun i wr => ∃ k : Nat, k ≤ n ∧ i = .int .i64 k ∧ Blk wr (w.heap.size + 1) #[.int .i64 k, .int .i64 (lineAt s k), .int .i64 (colAt s k)] 26 ∧ Blk wr w.heap.size #[.int .i64 0, .int .i64 0, .int .i64 0] 26 ∧ Keep (fun _ => False) w wr) (fun i _ => n - (intOf i).toNat)
  case atStart =>
    refine ⟨0, Nat.zero_le _, rfl, ?_, (Blk.new w _ _).alloc _, ((Keep.refl _ w).alloc _).alloc _⟩
    have h1 : lineAt s 0 = 0 := by unfold lineAt lineL; simp
    have h2 : colAt s 0 = 0 := by unfold colAt colL; simp
    rw [h1, h2]
    unfold Blk
    exact Blk.new2 _ _ _
  case round =>
    obtain ⟨k, hk, rfl, hb, hr, hkp⟩ := hrel
    have h0 := hb.at_ 0 (v := .int .i64 k) rfl
    have h1 := hb.at_ 1 (v := .int .i64 (lineAt s k)) rfl
    have h2 := hb.at_ 2 (v := .int .i64 (colAt s k)) rfl
    have f0 := hb.free 0
    have f1 := hb.free 1
    have f2 := hb.free 2
    have l1 := lineAt_le s k
    have l2 := colAt_le s k
    by_cases hkn : k < n
    · have ht1 : decide ((k : Int) < (s.size : Int)) = true := by simp; omega
      have ht2 : decide ((k : Int) < (n : Int)) = true := by simp; omega
      have hks : k < s.size := by omega
      have j0 : (0 : Int) ≤ (k : Int) := by omega
      have j1 : (k : Int) < (s.size : Int) := by omega
      obtain ⟨c, hcc⟩ : ∃ c, c = s[k] := ⟨_, rfl⟩
      have LS' : Hid (lineAt s (k + 1) = lineAt s k + if c = 10 then 1 else 0) := by rw [hcc]; exact lineAt_succ s k hks
      have CS' : Hid (colAt s (k + 1) = if c = 10 then 0 else colAt s k + 1) := by rw [hcc]; exact colAt_succ s k hks
      have hix : ∀ (h : k < s.size), ((s[k]'h).toNat : Int) = (c.toNat : Int) := fun h => by rw [hcc]
      have HB := Lib.hid hb; have HR := Lib.hid hr; have HKP := Lib.hid hkp
      clear hb hr hkp hcc
      by_cases h10 : c = 10
      · have ht : (((c.toNat : Int)) == 10) = true := by subst h10; rfl
        have H10 := Lib.hid h10; clear h10
        go_wp2_with fail
        go_roundw
        case rel =>
          refine ⟨k + 1, by omega, by go_num, ?_, ?_, ?_⟩
          · have hb := (((HB.out.set 0 (.int .i64 (k + 1 : Nat))).set 2 (.int .i64 (colAt s k + 1 : Nat))).set 1 (.int .i64 (lineAt s k + 1 : Nat))).set 2 (.int .i64 0)
            rw [LS'.out, CS'.out, if_pos H10.out, if_pos H10.out]
            exact hb
          · exact (((HR.out.far (by simp) _).far (by simp) _).far (by simp) _).far (by simp) _
          · exact (((HKP.out.setCell (by simp) _).setCell (by simp) _).setCell (by simp) _).setCell (by simp) _
        case measure => simp [intOf]; omega
      · have ht : (((c.toNat : Int)) == 10) = false := by
          have : c.toNat ≠ 10 := fun e => h10 (by apply UInt8.toNat_inj.1; simpa using e)
          simp; omega
        have H10 := Lib.hid h10; clear h10
        go_wp2_with fail
        go_roundw
        case rel =>
          refine ⟨k + 1, by omega, by go_num, ?_, ?_, ?_⟩
          · have hb := ((HB.out.set 0 (.int .i64 (k + 1 : Nat))).set 2 (.int .i64 (colAt s k + 1 : Nat)))
            rw [LS'.out, CS'.out, if_neg H10.out, if_neg H10.out]
            exact hb
          · exact (HR.out.far (by simp) _).far (by simp) _
          · exact (HKP.out.setCell (by simp) _).setCell (by simp) _
        case measure => simp [intOf]; omega
    · obtain rfl : k = n := by omega
      have e0 := hr.at_ 0 (v := .int .i64 0) rfl
      have e1 := hr.at_ 1 (v := .int .i64 0) rfl
      have e2 := hr.at_ 2 (v := .int .i64 0) rfl
      have g0 := hr.free 0
      have g1 := hr.free 1
      have g2 := hr.free 2
      have HB := Lib.hid hb; have HR := Lib.hid hr; have HKP := Lib.hid hkp
      clear hb hr hkp
      by_cases hks : k < s.size
      · have ht1 : decide ((k : Int) < (s.size : Int)) = true := by simp; omega
        go_wp2_with fail
        have X := (((HR.out.set 0 (.int .i64 k)).set 1 (.int .i64 (lineAt s k))).set 2 (.int .i64 (colAt s k)))
        have x0 := X.at_ 0 (v := .int .i64 k) (by simp)
        have x1 := X.at_ 1 (v := .int .i64 (lineAt s k)) (by simp)
        have x2 := X.at_ 2 (v := .int .i64 (colAt s k)) (by simp)
        refine bodyPost_ret (v := .agg #[.int .i64 k, .int .i64 (lineAt s k), .int .i64 (colAt s k)]) (by simp [results, Tryz.results14, go_sem, x0, x1, x2]) rfl ?_
        exact ⟨rfl, ((HKP.out.setCell (by simp) _).setCell (by simp) _).setCell (by simp) _⟩
      · have ht1 : decide ((k : Int) < (s.size : Int)) = false := by simp; omega
        go_wp2_with fail
        have X := (((HR.out.set 0 (.int .i64 k)).set 1 (.int .i64 (lineAt s k))).set 2 (.int .i64 (colAt s k)))
        have x0 := X.at_ 0 (v := .int .i64 k) (by simp)
        have x1 := X.at_ 1 (v := .int .i64 (lineAt s k)) (by simp)
        have x2 := X.at_ 2 (v := .int .i64 (colAt s k)) (by simp)
        refine bodyPost_ret (v := .agg #[.int .i64 k, .int .i64 (lineAt s k), .int .i64 (colAt s k)]) (by simp [results, Tryz.results14, go_sem, x0, x1, x2]) rfl ?_
        exact ⟨rfl, ((HKP.out.setCell (by simp) _).setCell (by simp) _).setCell (by simp) _⟩
end Go.Proofs.YtcdmkmbbliaefaaGreatDoor
