/- Package lexpas: cutLeft at the ten digits. -/
import Derived.Test.YtcdmkmbbliaefaaGreatDoorTokS
import Derived.Lib.OthersKept
import Derived.Laws.RangeString
import Derived.Laws.RangeAny
import Derived.Outline
namespace Go.Proofs.YtcdmkmbbliaefaaGreatDoor
open Go.RowKit
set_option linter.unusedVariables false
set_option linter.unusedSimpArgs false

def inB (r : Int) (j : Nat) : Bool := decide (48 ≤ r ∧ r < 48 + (j : Int))
theorem inB_zero (r : Int) : inB r 0 = false := by unfold inB; rw [decide_eq_false_iff_not]; omega
theorem inB_succ (r : Int) (j : Nat) : inB r (j + 1) = (inB r j || (r == 48 + (j : Int))) := by
  unfold inB; rw [Bool.eq_iff_iff]; simp; omega
theorem ten_at (j : Nat) (h : j < tenSet.size) : (tenSet[j]'h).toNat = 48 + j := by
  have hs : tenSet.size = 10 := rfl
  have h1 : (bs tenSet)[j]? = some tenSet[j] := bs_get tenSet j h
  have h2 : ∀ k : Fin 10, ((bs tenSet)[k.val]?).map (·.toNat) = some (48 + k.val) := by decide
  have h3 := h2 ⟨j, by rw [← hs]; exact h⟩
  rw [h1] at h3
  simpa using h3
theorem digB_rune (c : UInt8) : digB c = inB (c.toNat : Int) 10 := by
  unfold digB inB; rw [Bool.eq_iff_iff]; simp; omega
/-- The rune at a place is a digit just where its byte is. -/
theorem rune_dig (s : ByteArray) (p : Nat) (h : p < s.size) : inB ((Utf8.decode s p).1 : Int) 10 = digB s[p] := by
  by_cases ha : (s[p]'h).toNat < 128
  · rw [decode_ascii s p h ha, digB_rune]
  · have h1 := (decode_high s p h (by omega)).1
    have e1 : digB s[p] = false := by unfold digB; simp; omega
    rw [e1]; unfold inB; simp; omega
theorem rune_one (s : ByteArray) (p : Nat) (h : p < s.size) (hd : digB s[p] = true) : (Utf8.decode s p).2 = 1 := by
  have : (s[p]'h).toNat < 128 := by unfold digB at hd; simp at hd; omega
  rw [decode_ascii s p h this]
theorem keep_iter {P : Nat → Prop} {w w' : World} (h : Keep P w w') {k : Nat} (hk : w.heap.size ≤ k) (s : ByteArray) (p : Nat) : Keep P w (w'.iterAt k s p) :=
  ⟨h.os, h.tape, h.output, by rw [Lib.iterAt_size]; exact h.size, fun i hi hn => (Lib.iterAt_other w' k i s p (by omega)).trans (h.block i hi hn)⟩

set_option maxRecDepth 100000 in
set_option maxHeartbeats 2000000 in
theorem cutLeft_any (s : ByteArray) (w : World) (hs : s.size ≤ 140737488351232) :
    Calls Tryz.prog 57 #[.string s, .string tenSet] w fun e w' => e = .returned (.string (s.extract (spanAt digB s 0) s.size)) ∧ Keep (fun _ => False) w w' := by
  obtain ⟨n, hn⟩ : ∃ n, n = spanAt digB s 0 := ⟨_, rfl⟩
  have hle := spanAt_le digB s 0 (Nat.zero_le _)
  rw [← hn] at hle ⊢
  have HN := Lib.hid hn
  clear hn
  obtain ⟨T, hT⟩ : ∃ T, T = tenSet := ⟨_, rfl⟩
  rw [← hT]
  have HT := Lib.hid hT
  clear hT
  go_enter Tryz.func57, Tryz.ntmps57
  go_wp2_with fail
  have hTs : T.size = 10 := by rw [HT.out]; rfl
  have HTA : Hid (∀ j (h : j < T.size), (T[j]'h).toNat = 48 + j) := by
    intro j h
    have e := HT.out
    subst e
    exact ten_at j h
  have HTS := Lib.hid hTs
  clear hTs
  go_loopw [7] (fun _ wr => ∃ k : Nat, k ≤ n ∧ wr.heap[w.heap.size]? = some (.stringIter s k) ∧ Keep (fun _ => False) w wr) (fun _ wr => s.size - wr.iterPos w.heap.size)
  case atStart => exact ⟨0, Nat.zero_le _, World.iter_heap _ _ _, (Keep.refl _ w).alloc _⟩
  case round =>
    obtain ⟨wo, rfl⟩ : ∃ wo : World, wo = wr := ⟨_, rfl⟩
    obtain ⟨k, hk, hit, hkr⟩ := hrel
    have HIT := Lib.hid hit
    clear hit
    by_cases hks : k < s.size
    · obtain ⟨r, hr⟩ : ∃ r : Int, r = ((Utf8.decode s k).1 : Int) := ⟨_, rfl⟩
      obtain ⟨wd, hwd⟩ : ∃ wd, wd = (Utf8.decode s k).2 := ⟨_, rfl⟩
      have hnx : ∀ ty, (Instr.next (.pointer (some ⟨w.heap.size, 0, none⟩)) true ty).run Tryz.prog wo = .ok (.tuple #[.bool true, .int .i64 k, .int .i32 r]) (wo.iterAt w.heap.size s (k + wd)) := by
        intro ty; rw [hr, hwd]; exact Lib.run_next_any_at wo w.heap.size s k ty HIT.out hks
      have hdg : inB r 10 = digB s[k] := by rw [hr]; exact rune_dig s k hks
      have hon : digB s[k] = true → wd = 1 := fun h => by rw [hwd]; exact rune_one s k hks h
      have hin : k < n → digB s[k] = true := fun h => by
        have := spanAt_in digB s 0 k (by rw [← HN.out]; exact h) (by omega)
        simpa using this
      have hout : k = n → digB s[k] = false := fun h => by
        have h1 := spanAt_stop digB s 0 (by rw [← HN.out]; omega)
        subst h
        simpa [← HN.out] using h1
      have HDG := Lib.hid hdg; have HON := Lib.hid hon; have HIN := Lib.hid hin; have HOUT := Lib.hid hout
      clear hdg hon hin hout hr hwd
      have hsz := hkr.size
      have hit1 : (wo.iterAt w.heap.size s (k + wd)).heap[w.heap.size]? = some (.stringIter s (k + wd)) := Lib.iterAt_heap wo w.heap.size s k (k + wd) HIT.out
      have hB0 : w.heap.size < wo.heap.size := lt_of_block HIT.out
      have hk1 : Keep (fun _ => False) w (wo.iterAt w.heap.size s (k + wd)) := keep_iter hkr (Nat.le_refl _) _ _
      have hs1 : (wo.iterAt w.heap.size s (k + wd)).heap.size = wo.heap.size := Lib.iterAt_size _ _ _ _
      obtain ⟨w1, hw1⟩ : ∃ w1, w1 = wo.iterAt w.heap.size s (k + wd) := ⟨_, rfl⟩
      rw [← hw1] at hnx hit1 hk1 hs1
      have HI1 := Lib.hid hit1; have HK1 := Lib.hid hk1; have HS1 := Lib.hid hs1
      clear hit1 hk1 hs1 hw1
      go_wp2_with fail
      go_loopw [7] (fun b wr => ∃ j : Nat, j ≤ 10 ∧ b = .bool (inB r j) ∧ wr.heap[w1.heap.size]? = some (.stringIter T j) ∧ Keep (fun _ => False) w1 wr) (fun _ wr => 10 - wr.iterPos w1.heap.size)
      case atStart => exact ⟨0, Nat.zero_le _, by rw [inB_zero], World.iter_heap _ _ _, (Keep.refl _ w1).alloc _⟩
      case round =>
        obtain ⟨j, hj, rfl, hit2, hki⟩ := hrel
        have HIT2 := Lib.hid hit2
        clear hit2
        by_cases hjl : j < 10
        · have hjT : j < T.size := by have := HTS.out; omega
          have hTj := HTA.out j hjT
          have hnx2 : ∀ ty, (Instr.next (.pointer (some ⟨w1.heap.size, 0, none⟩)) true ty).run Tryz.prog wr = .ok (.tuple #[.bool true, .int .i64 j, .int .i32 (48 + (j : Int))]) (wr.iterAt w1.heap.size T (j + 1)) := by
            intro ty
            have h1 := Lib.run_next_ascii_at (P := Tryz.prog) wr w1.heap.size T j ty HIT2.out hjT (by omega)
            rw [hTj] at h1
            exact h1
          have hit3 : (wr.iterAt w1.heap.size T (j + 1)).heap[w1.heap.size]? = some (.stringIter T (j + 1)) := Lib.iterAt_heap wr w1.heap.size T j (j + 1) HIT2.out
          have hk3 : Keep (fun _ => False) w1 (wr.iterAt w1.heap.size T (j + 1)) := keep_iter hki (Nat.le_refl _) _ _
          have hp0 : wr.iterPos w1.heap.size = j := by unfold World.iterPos; rw [HIT2.out]
          have hp1 : (wr.iterAt w1.heap.size T (j + 1)).iterPos w1.heap.size = j + 1 := by unfold World.iterPos; rw [hit3]
          obtain ⟨w3, hw3⟩ : ∃ w3, w3 = wr.iterAt w1.heap.size T (j + 1) := ⟨_, rfl⟩
          rw [← hw3] at hnx2 hit3 hk3 hp1
          have HI3 := Lib.hid hit3; have HK3 := Lib.hid hk3; have HP0 := Lib.hid hp0; have HP1 := Lib.hid hp1
          have HSU := Lib.hid (inB_succ r j)
          clear hit3 hk3 hp0 hp1 hw3 hTj
          obtain ⟨b, hb⟩ : ∃ b, b = inB r j := ⟨_, rfl⟩
          rw [← hb]
          have HB := Lib.hid hb
          clear hb
          cases b
          · by_cases he : r = 48 + (j : Int)
            · have ht : (r == 48 + (j : Int)) = true := by rw [beq_iff_eq]; exact he
              have HE := Lib.hid ht
              have HEE := Lib.hid he
              clear he
              go_wp2_with fail
              go_roundw
              case rel => exact ⟨j + 1, by omega, by rw [HSU.out, ← HB.out, HE.out]; rfl, HI3.out, HK3.out⟩
              case measure => rw [HP0.out, HP1.out]; omega
            · have ht : (r == 48 + (j : Int)) = false := by rw [beq_eq_false_iff_ne]; exact he
              have HE := Lib.hid ht
              clear he
              go_wp2_with fail
              go_roundw
              case rel => exact ⟨j + 1, by omega, by rw [HSU.out, ← HB.out, HE.out]; rfl, HI3.out, HK3.out⟩
              case measure => rw [HP0.out, HP1.out]; omega
          · go_wp2_with fail
            go_roundw
            case rel => exact ⟨j + 1, by omega, by rw [HSU.out, ← HB.out]; rfl, HI3.out, HK3.out⟩
            case measure => rw [HP0.out, HP1.out]; omega
        · obtain rfl : j = 10 := by omega
          have hnx2 : ∀ ty, (Instr.next (.pointer (some ⟨w1.heap.size, 0, none⟩)) true ty).run Tryz.prog wr = .ok (.tuple #[.bool false]) wr := fun ty => Lib.run_next_end_at wr w1.heap.size T 10 ty HIT2.out (by have := HTS.out; omega)
          have hiz : wr.heap[w.heap.size]? = some (.stringIter s (k + wd)) := (hki.block w.heap.size (by have := HS1.out; omega) (fun h => h)).trans HI1.out
          have HIZ := Lib.hid hiz
          have HKZ := Lib.hid (HK1.out.trans hki)
          clear hiz
          obtain ⟨b, hb⟩ : ∃ b, b = inB r 10 := ⟨_, rfl⟩
          rw [← hb]
          have HB := Lib.hid hb
          clear hb
          have hpz0 : wo.iterPos w.heap.size = k := by unfold World.iterPos; rw [HIT.out]
          have hpz1 : wr.iterPos w.heap.size = k + wd := by unfold World.iterPos; rw [HIZ.out]
          have HPZ0 := Lib.hid hpz0; have HPZ1 := Lib.hid hpz1
          clear hpz0 hpz1
          cases b
          · have hkn : k = n := by
              rcases Nat.lt_or_ge k n with h | h
              · have h1 := HIN.out h
                rw [← HDG.out, ← HB.out] at h1
                exact absurd h1 (by decide)
              · omega
            have HKN := Lib.hid hkn
            clear hkn
            have hi0 : (0 : Int) ≤ (k : Int) := by omega
            have hi1 : (k : Int) ≤ (s.size : Int) := by omega
            go_wp2_with fail
            go_ret
            exact ⟨by rw [← HKN.out]; rfl, HKZ.out⟩
          · have hkn : k < n := by
              rcases Nat.lt_or_ge k n with h | h
              · exact h
              · have h1 := HOUT.out (by omega)
                rw [← HDG.out, ← HB.out] at h1
                exact absurd h1 (by decide)
            have hw1 : wd = 1 := HON.out (HIN.out hkn)
            have HW1 := Lib.hid hw1
            clear hw1
            go_wp2_with fail
            go_roundw
            case rel => exact ⟨k + 1, by omega, by have := HIZ.out; rw [HW1.out] at this; exact this, HKZ.out⟩
            case measure => rw [HPZ0.out, HPZ1.out, HW1.out]; omega
    · have hkn : k = s.size := by omega
      have hnx : ∀ ty, (Instr.next (.pointer (some ⟨w.heap.size, 0, none⟩)) true ty).run Tryz.prog wo = .ok (.tuple #[.bool false]) wo := fun ty => Lib.run_next_end_at wo w.heap.size s k ty HIT.out hks
      have hns : n = s.size := by omega
      have HNS := Lib.hid hns
      clear hkn hns
      go_wp2_with fail
      go_ret
      refine ⟨?_, hkr⟩
      rw [HNS.out]
      have he : s.extract s.size s.size = ⟨#[]⟩ := byteArray_ext (by rw [bs_tail, bs_drop_end s s.size (Nat.le_refl _)]; rfl)
      rw [he]
      rfl
end Go.Proofs.YtcdmkmbbliaefaaGreatDoor
