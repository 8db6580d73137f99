/- The cursor of package text: While. -/
import Derived.Test.YtcdmkmbbliaefaaGreatDoorCur2
import Derived.Test.YtcdmkmbbliaefaaGreatDoorLib
namespace Go.Proofs.YtcdmkmbbliaefaaGreatDoor
open Go.RowKit
set_option linter.unusedVariables false
set_option linter.unusedSimpArgs false

def inSet (set : ByteArray) (c : UInt8) : Bool := (bs set).contains c
theorem while_any (b : Nat) (s set : ByteArray) (p : Nat) (w : World) (hc : CurB w b s p) (hs : s.size ≤ 140737488351232) (hp : p ≤ s.size) :
    Calls Tryz.prog 16 #[.pointer (some ⟨b, 0, none⟩), .string set] w fun e w' =>
      e = .returned (.string (s.extract p (p + spanAt (inSet set) s p))) ∧ CurB w' b s (p + spanAt (inSet set) s p) ∧ Keep (· = b) w w' := by
  obtain ⟨n, hn⟩ : ∃ n, n = spanAt (inSet set) s p := ⟨_, rfl⟩
  have hle := spanAt_le (inSet set) s p hp
  rw [← hn] at hle ⊢
  have HN := Lib.hid hn; clear hn
  go_enter Tryz.func16, Tryz.ntmps16
  go_wp2_with fail
  go_loopw [5] (fun i wr => ∃ k : Nat, k ≤ n ∧ i = .int .i64 k ∧ Drawn w wr) (fun i _ => n - (intOf i).toNat)
  case atStart => exact ⟨0, Nat.zero_le _, rfl, Drawn.refl _⟩
  case round =>
    obtain ⟨k, hk, rfl, hdr⟩ := hrel
    have HD := Lib.hid hdr; clear hdr
    have hcr : CurB wr b s p := HD.out.blk hc
    have hc1 := hcr.c1
    by_cases hlt : k < n
    · have hin : p + k < s.size := by omega
      have hset : inSet set s[p + k] = true := spanAt_in _ s p k (by rw [← HN.out]; exact hlt) hin
      have PK := peek_in b s p k wr hcr hs hin
      generalize s[p + k] = c at PK hset
      have hpos := indexByte_pos (bs set) c hset
      have ht : decide (Lib.indexByte (bs set) c < 0) = false := by simp; omega
      have HS := Lib.hid hset; clear hset
      go_wp2_with fail
      refine PK.mono ?_
      clear PK
      rintro e w1 ⟨rfl, q, rfl⟩
      go_wp2_with fail
      refine (indexByte_at set c _).mono ?_
      rintro e w1 ⟨rfl, rfl⟩
      go_wp2_with fail
      go_roundw
      case rel => exact ⟨k + 1, by omega, by go_num, by obtain ⟨q0, hq0⟩ := HD.out; exact ⟨q0 + q, by rw [hq0, World.drewN_drewN]⟩⟩
      case measure => simp [intOf]; omega
    · obtain rfl : k = n := by omega
      have key : ∀ wz : World, Drawn w wz → CurB wz b s p := fun wz hz => hz.blk hc
      by_cases hin : p + k < s.size
      · have hset : inSet set s[p + k] = false := by
          have := spanAt_stop (inSet set) s p (by rw [← HN.out]; exact hin)
          simpa [← HN.out] using this
        have PK := peek_in b s p k wr hcr hs hin
        generalize s[p + k] = c at PK hset
        have hneg := indexByte_neg (bs set) c hset
        have ht : decide (Lib.indexByte (bs set) c < 0) = true := by simp; omega
        have HS := Lib.hid hset; clear hset
        have HG := Lib.hid hneg; clear hneg
        by_cases hz : k = 0
        · have ht0 : ((k : Int) == 0) = true := by simp; omega
          have HZ := Lib.hid hz; clear hz
          go_wp2_with fail
          refine PK.mono ?_
          clear PK
          rintro e w1 ⟨rfl, q, rfl⟩
          go_wp2_with fail
          refine (indexByte_at set c _).mono ?_
          rintro e w1 ⟨rfl, rfl⟩
          go_wp2_with fail
          go_ret
          have hd : Drawn w (wr.drewN q) := by obtain ⟨q0, hq0⟩ := HD.out; exact ⟨q0 + q, by rw [hq0, World.drewN_drewN]⟩
          have k0 := HZ.out
          refine ⟨by rw [k0]; congr 2; simp [ByteArray.ext_iff, ByteArray.data_extract], by rw [k0]; exact key _ hd, hd.keep⟩
        · have ht0 : ((k : Int) == 0) = false := by simp; omega
          go_wp2_with fail
          refine PK.mono ?_
          clear PK
          rintro e w1 ⟨rfl, q, rfl⟩
          go_wp2_with fail
          refine (indexByte_at set c _).mono ?_
          rintro e w1 ⟨rfl, rfl⟩
          go_wp2_with fail
          have hc2 : CurB (wr.drewN q) b s p := key _ (by obtain ⟨q0, hq0⟩ := HD.out; exact ⟨q0 + q, by rw [hq0, World.drewN_drewN]⟩)
          refine (skip_any b s p k _ hc2 hs hle).mono ?_
          rintro e w2 ⟨rfl, hc3, hk3⟩
          have hd0 := hc3.c0
          have hd1 := hc3.c1
          have b1 : (0 : Int) ≤ (p : Int) := by omega
          have b2 : (p : Int) ≤ (p : Int) + (k : Int) := by omega
          have b3 : (p : Int) + (k : Int) ≤ (s.size : Int) := by omega
          go_wp2_with fail
          go_quiet (fail)
          go_wp2_with fail
          go_ret
          have hd : Drawn w (wr.drewN q) := by obtain ⟨q0, hq0⟩ := HD.out; exact ⟨q0 + q, by rw [hq0, World.drewN_drewN]⟩
          exact ⟨rfl, Blk.drewN hc3 _, ((hd.keep).trans hk3).drewN _⟩
      · have PK := peek_out b s p k wr hcr hs hp (by omega)
        by_cases hz : k = 0
        · have ht0 : ((k : Int) == 0) = true := by simp; omega
          have HZ := Lib.hid hz; clear hz
          go_wp2_with fail
          refine PK.mono ?_
          clear PK
          rintro e w1 ⟨rfl, q, rfl⟩
          go_wp2_with fail
          go_ret
          have hd : Drawn w (wr.drewN q) := by obtain ⟨q0, hq0⟩ := HD.out; exact ⟨q0 + q, by rw [hq0, World.drewN_drewN]⟩
          have k0 := HZ.out
          refine ⟨by rw [k0]; congr 2; simp [ByteArray.ext_iff, ByteArray.data_extract], by rw [k0]; exact key _ hd, hd.keep⟩
        · have ht0 : ((k : Int) == 0) = false := by simp; omega
          go_wp2_with fail
          refine PK.mono ?_
          clear PK
          rintro e w1 ⟨rfl, q, rfl⟩
          go_wp2_with fail
          have hc2 : CurB (wr.drewN q) b s p := key _ (by obtain ⟨q0, hq0⟩ := HD.out; exact ⟨q0 + q, by rw [hq0, World.drewN_drewN]⟩)
          refine (skip_any b s p k _ hc2 hs hle).mono ?_
          rintro e w2 ⟨rfl, hc3, hk3⟩
          have hd0 := hc3.c0
          have hd1 := hc3.c1
          have b1 : (0 : Int) ≤ (p : Int) := by omega
          have b2 : (p : Int) ≤ (p : Int) + (k : Int) := by omega
          have b3 : (p : Int) + (k : Int) ≤ (s.size : Int) := by omega
          go_wp2_with fail
          go_quiet (fail)
          go_wp2_with fail
          go_ret
          have hd : Drawn w (wr.drewN q) := by obtain ⟨q0, hq0⟩ := HD.out; exact ⟨q0 + q, by rw [hq0, World.drewN_drewN]⟩
          exact ⟨rfl, Blk.drewN hc3 _, ((hd.keep).trans hk3).drewN _⟩
end Go.Proofs.YtcdmkmbbliaefaaGreatDoor
