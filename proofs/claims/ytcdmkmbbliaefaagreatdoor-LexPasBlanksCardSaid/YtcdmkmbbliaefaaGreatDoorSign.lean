/- Package scan: Sign. -/
import Derived.Test.YtcdmkmbbliaefaaGreatDoorScan3
namespace Go.Proofs.YtcdmkmbbliaefaaGreatDoor
open Go.RowKit
set_option linter.unusedVariables false
set_option linter.unusedSimpArgs false

theorem prefix_len {g l : Bs} (h : g.isPrefixOf l = true) : g.length ≤ l.length := (List.isPrefixOf_iff_prefix.1 h).length_le
set_option maxRecDepth 100000 in
set_option maxHeartbeats 2000000 in
theorem sign_none (base T bl bc : Nat) (s : ByteArray) (p : Nat) (v : Value) (l : List TokL) (last : Int) (w : World) (h : Sc w base T bl bc 0 s p v l last) (signs : List Bs) (ba n cap : Nat) (hnb : n ≤ 1000000) (hcells : ∀ j, j < n → w.cell? ⟨ba, j, none⟩ = some (.string ⟨(signs.getD j []).toArray⟩)) (hpj : ∀ j, j < n → (signs.getD j []).isPrefixOf ((bs s).drop p) = false) :
    Calls Tryz.prog 38 #[.pointer (some ⟨bl, 0, none⟩), .slice (some ⟨ba, 0, none⟩) n cap] w fun e w' => e = .returned (.int .i64 5) ∧ Keep (fun _ => False) w w' := by
  have HRS : Hid (∀ W, Keep (fun _ => False) w W → Calls Tryz.prog 32 #[.pointer (some ⟨bl, 0, none⟩)] W fun e w' => e = .returned (.string (s.extract p s.size)) ∧ Keep (fun _ => False) W w') := fun W hk => h.rest hk
  have HPS : Hid (∀ W, Keep (fun _ => False) w W → Calls Tryz.prog 17 #[.pointer (some ⟨bc, 0, none⟩)] W fun e w' => e = .returned (.agg #[.int .i64 p, .int .i64 (lineAt s p), .int .i64 (colAt s p)]) ∧ Keep (fun _ => False) W w') := fun W hk => h.pos hk
  have HPF : Hid (∀ (j : Nat) (b : Bool) W, (signs.getD j []).isPrefixOf ((bs s).drop p) = b → Calls Tryz.prog 50 #[.string (s.extract p s.size), .string ⟨(signs.getD j []).toArray⟩] W fun e w' => e = .returned (.bool b) ∧ w' = W) := by
    intro j b W hb
    have := hasPrefix_any (s.extract p s.size) ⟨(signs.getD j []).toArray⟩ W
    rw [show (s.extract p s.size).data.toList = (bs s).drop p from bs_tail s p, show (ByteArray.mk (signs.getD j []).toArray).data.toList = signs.getD j [] from by simp] at this
    unfold Lib.hasPrefix at this
    rw [hb] at this
    exact this
  have HPJ := Lib.hid hpj
  clear hpj
  go_enter Tryz.func38, Tryz.ntmps38
  go_wp2_with fail
  go_loopw [10] (fun q wr => ∃ k : Nat, k ≤ n ∧ q = .int .i64 k ∧ Keep (fun _ => False) w wr) (fun q _ => n - (intOf q).toNat)
  case atStart => exact ⟨0, Nat.zero_le _, rfl, Keep.refl _ _⟩
  case round =>
    obtain ⟨k, hk, rfl, hkr⟩ := hrel
    by_cases hlt : k < n
    · have hcell := hkr.cell (hcells k (by omega)) (fun h => h)
      have hi0 : (0 : Int) ≤ (k : Int) := by omega
      have hi1 : (k : Int) < (n : Int) := by omega
      have ht : decide ((k : Int) < (n : Int)) = true := by simp; omega
      have HKR := Lib.hid hkr
      go_wp2_with fail
      refine (HRS.out _ HKR.out).mono ?_
      rintro e1 w1 ⟨rfl, hk1⟩
      go_wp2_with fail
      refine (HPF.out k false _ (HPJ.out k hlt)).mono ?_
      rintro e2 w2 ⟨rfl, rfl⟩
      go_wp2_with fail
      go_roundw
      case rel => exact ⟨k + 1, by omega, by go_num, HKR.out.trans hk1⟩
      case measure => simp [intOf]; omega
    · obtain rfl : k = n := by omega
      have ht : decide ((k : Int) < (k : Int)) = false := by simp
      go_wp2_with fail
      go_ret
      exact ⟨rfl, hkr⟩

set_option maxRecDepth 100000 in
set_option maxHeartbeats 2000000 in
theorem sign_some (base T bl bc : Nat) (s : ByteArray) (p : Nat) (v : Value) (l : List TokL) (last : Int) (w : World) (h : Sc w base T bl bc 0 s p v l last) (signs : List Bs) (ba n cap : Nat) (hnb : n ≤ 1000000) (hcells : ∀ j, j < n → w.cell? ⟨ba, j, none⟩ = some (.string ⟨(signs.getD j []).toArray⟩)) (i : Nat) (hi : i < n) (hpi : (signs.getD i []).isPrefixOf ((bs s).drop p) = true) (hpj : ∀ j, j < i → (signs.getD j []).isPrefixOf ((bs s).drop p) = false) (hl : l.length ≤ 900000) :
    Calls Tryz.prog 38 #[.pointer (some ⟨bl, 0, none⟩), .slice (some ⟨ba, 0, none⟩) n cap] w fun e w' => e = .returned (.int .i64 0) ∧ Lays1 base T bl bc s w (p + (signs.getD i []).length) (l ++ [⟨5, ⟨(signs.getD i []).toArray⟩, 0, last == ((lineAt s p : Nat) : Int), posA s p⟩]) w' := by
  have HRS : Hid (∀ W, Keep (fun _ => False) w W → Calls Tryz.prog 32 #[.pointer (some ⟨bl, 0, none⟩)] W fun e w' => e = .returned (.string (s.extract p s.size)) ∧ Keep (fun _ => False) W w') := fun W hk => h.rest hk
  have HPS : Hid (∀ W, Keep (fun _ => False) w W → Calls Tryz.prog 17 #[.pointer (some ⟨bc, 0, none⟩)] W fun e w' => e = .returned (.agg #[.int .i64 p, .int .i64 (lineAt s p), .int .i64 (colAt s p)]) ∧ Keep (fun _ => False) W w') := fun W hk => h.pos hk
  have HPF : Hid (∀ (j : Nat) (b : Bool) W, (signs.getD j []).isPrefixOf ((bs s).drop p) = b → Calls Tryz.prog 50 #[.string (s.extract p s.size), .string ⟨(signs.getD j []).toArray⟩] W fun e w' => e = .returned (.bool b) ∧ w' = W) := by
    intro j b W hb
    have := hasPrefix_any (s.extract p s.size) ⟨(signs.getD j []).toArray⟩ W
    rw [show (s.extract p s.size).data.toList = (bs s).drop p from bs_tail s p, show (ByteArray.mk (signs.getD j []).toArray).data.toList = signs.getD j [] from by simp] at this
    unfold Lib.hasPrefix at this
    rw [hb] at this
    exact this
  have HPJ := Lib.hid hpj
  clear hpj
  go_enter Tryz.func38, Tryz.ntmps38
  go_wp2_with fail
  go_loopw [10] (fun q wr => ∃ k : Nat, k ≤ i ∧ q = .int .i64 k ∧ Keep (fun _ => False) w wr) (fun q _ => n - (intOf q).toNat)
  case atStart => exact ⟨0, Nat.zero_le _, rfl, Keep.refl _ _⟩
  case round =>
    obtain ⟨k, hk, rfl, hkr⟩ := hrel
    by_cases hlt : k < i
    · have hcell := hkr.cell (hcells k (by omega)) (fun h => h)
      have hi0 : (0 : Int) ≤ (k : Int) := by omega
      have hi1 : (k : Int) < (n : Int) := by omega
      have ht : decide ((k : Int) < (n : Int)) = true := by simp; omega
      have HKR := Lib.hid hkr
      go_wp2_with fail
      refine (HRS.out _ HKR.out).mono ?_
      rintro e1 w1 ⟨rfl, hk1⟩
      go_wp2_with fail
      refine (HPF.out k false _ (HPJ.out k hlt)).mono ?_
      rintro e2 w2 ⟨rfl, rfl⟩
      go_wp2_with fail
      go_roundw
      case rel => exact ⟨k + 1, by omega, by go_num, HKR.out.trans hk1⟩
      case measure => simp [intOf]; omega
    · obtain rfl : k = i := by omega
      have hcell := hkr.cell (hcells k (by omega)) (fun h => h)
      have hi0 : (0 : Int) ≤ (k : Int) := by omega
      have hi1 : (k : Int) < (n : Int) := by omega
      have ht : decide ((k : Int) < (n : Int)) = true := by simp; omega
      have HKR := Lib.hid hkr
      have HPI := Lib.hid hpi
      clear hpi
      have hgl := prefix_len HPI.out
      rw [List.length_drop, bs_len] at hgl
      have hpg : p + (signs.getD k []).length ≤ s.size := by have := h.hp; omega
      have hsz : (ByteArray.mk (signs.getD k []).toArray).size = (signs.getD k []).length := by simp [ByteArray.size]
      generalize hG : signs.getD k [] = G at *
      have HGG := Lib.hid hG
      clear hG hcells
      have HRC := Lib.hid (h.grow hkr).b.c0
      go_wp2_with fail
      refine (HRS.out _ HKR.out).mono ?_
      rintro e1 w1 ⟨rfl, hk1⟩
      go_wp2_with fail
      have hpf := HPF.out k true w1 (by rw [HGG.out]; exact HPI.out)
      rw [HGG.out] at hpf
      refine hpf.mono ?_
      clear hpf
      rintro e2 w2 ⟨rfl, hw2⟩
      subst hw2
      have hk2 := HKR.out.trans hk1
      have c02 := (h.grow hk2).b.c0
      go_wp2_with fail
      refine (HPS.out _ hk2).mono ?_
      rintro e3 w3 ⟨rfl, hk3⟩
      have c03 := hk3.cell c02 (fun h => h)
      have c0W : (w3.alloc (.cells #[.int .i64 p, .int .i64 (lineAt s p), .int .i64 (colAt s p)] 26)).cell? ⟨bl, 0, none⟩ = some (.pointer (some ⟨bc, 0, none⟩)) := ((Keep.refl (fun _ => False) w3).alloc _).cell c03 (fun h => h)
      obtain ⟨W, hW⟩ : ∃ W, W = w3.alloc (.cells #[.int .i64 p, .int .i64 (lineAt s p), .int .i64 (colAt s p)] 26) := ⟨_, rfl⟩
      have hKW : Keep (fun _ => False) w W := by rw [hW]; exact (hk2.trans hk3).alloc _
      have hBW : Blk W w3.heap.size #[.int .i64 p, .int .i64 (lineAt s p), .int .i64 (colAt s p)] 26 := by rw [hW]; exact Blk.new _ _ _
      have hSW := h.grow hKW
      have hne : w3.heap.size ≠ bc := by have h1 := Blk.lt h.c; have h2 := (hk2.trans hk3).size; omega
      have HWQ := Lib.hid hW
      have hu26 := Tryz.underlying26
      have hu38 := Tryz.underlying38
      clear hW hk3 hk1 hk2
      go_wp2_with fail
      rw [← HWQ.out]
      have hsk := hSW.skip G.length hpg
      rw [← hsz] at hsk
      refine hsk.mono ?_
      clear hsk
      rintro e7 w7 ⟨rfl, hS7, hk7⟩
      rw [hsz] at hS7
      have hBX := hk7.blk hBW hne
      have d0 := hBX.at_ 0 (v := .int .i64 p) rfl
      have d1 := hBX.at_ 1 (v := .int .i64 (lineAt s p)) rfl
      have d2 := hBX.at_ 2 (v := .int .i64 (colAt s p)) rfl
      go_wp2_with fail
      refine (add_any base T bl bc 0 s (p + G.length) v l last _ hS7 hl 5 ⟨G.toArray⟩ 0 false 0 0 0 p (lineAt s p) (colAt s p)).mono ?_
      rintro e8 w8 ⟨rfl, hS8, hb8⟩
      have HS8 := Lib.hid hS8; clear hS8
      go_wp2_with fail
      go_ret
      rw [HGG.out]
      exact ⟨rfl, HS8.out, ((hKW.belowB h.base_le).trans (hk7.below (by have := h.base_le; have := hKW.size; omega) (fun k hk => by rw [hk]; exact h.hbc))).trans hb8⟩

end Go.Proofs.YtcdmkmbbliaefaaGreatDoor
