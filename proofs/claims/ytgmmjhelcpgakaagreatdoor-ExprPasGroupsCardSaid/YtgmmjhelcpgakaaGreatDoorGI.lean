/- Package lexpas: name. -/
import Derived.Test.YtgmmjhelcpgakaaGreatDoorGH
import Derived.Deep.RegionWith
namespace Go.Proofs.YtgmmjhelcpgakaaGreatDoor
open Go.RowKit
set_option linter.unusedVariables false
set_option linter.unusedSimpArgs false

def nameSet : ByteArray := ⟨#[97, 98, 99, 100, 101, 102, 103, 104, 105, 106, 107, 108, 109, 110, 111, 112, 113, 114, 115, 116, 117, 118, 119, 120, 121, 122, 48, 49, 50, 51, 52, 53, 54, 55, 56, 57, 95, 65, 66, 67, 68, 69, 70, 71, 72, 73, 74, 75, 76, 77, 78, 79, 80, 81, 82, 83, 84, 85, 86, 87, 88, 89, 90]⟩
set_option maxRecDepth 100000 in
theorem inName : inSet nameSet = nameB := by
  have h : ∀ k : Fin 256, inSet nameSet (UInt8.ofNat k.val) = nameB (UInt8.ofNat k.val) := by decide +kernel
  funext c
  have := h ⟨c.toNat, c.toNat_lt⟩
  simpa using this
theorem nameB_ascii (c : UInt8) (h : nameB c = true) : c.toNat < 128 := by
  unfold nameB smallB digB greatB at h
  by_cases h95 : c = 95
  · subst h95; decide
  · have : (c == 95) = false := by simpa using h95
    rw [this] at h
    simp at h; omega
def nameAt (s : ByteArray) (p : Nat) : Bs := lowL (((bs s).drop p).take (spanAt nameB s p))
theorem take_of_ext (s : ByteArray) (p k : Nat) : bs (s.extract p (p + k)) = ((bs s).drop p).take k := by
  rw [bs_extract, List.drop_take, Nat.add_sub_cancel_left]

theorem Sc.drew {w : World} {base T bl bc : Nat} {d : Int} {s : ByteArray} {p : Nat} {v : Value} {l : List TokL} {last : Int} (h : Sc w base T bl bc d s p v l last) : Sc w.drew base T bl bc d s p v l last := h.keep (P := fun _ => False) (Keep.refl _ w).drew (fun _ h => h.elim)
theorem Glob.drew {base : Nat} {w : World} (h : Glob base w) : Glob base w.drew := h.below (Below.refl base w).drew (Nat.le_refl _)
set_option maxRecDepth 100000 in
set_option maxHeartbeats 1000000 in
theorem name_long (base bl bc : Nat) (s : ByteArray) (p : Nat) (v : Value) (l : List TokL) (last : Int) (w : World) (h : Sc w base 91 bl bc 0 s p v l last) (hk32 : 32 < spanAt nameB s p) :
    Calls Tryz.prog 82 #[.pointer (some ⟨bl, 0, none⟩)] w fun e w' => e = .returned (.int .i64 3) ∧ Keep (· = bc) w w' := by
  have hle := spanAt_le nameB s p h.hp
  have htk := take_of_ext s p (spanAt nameB s p)
  obtain ⟨nm, hnm⟩ : ∃ nm, nm = nameAt s p := ⟨_, rfl⟩
  have hlen : nm.length = spanAt nameB s p := by
    rw [hnm]; unfold nameAt lowL Lib.toLowerA
    rw [List.length_map, List.length_take, List.length_drop, bs_len]; omega
  have hlow : Lib.toLowerA (bs (s.extract p (p + spanAt nameB s p))) = nm := by rw [htk, hnm]; rfl
  have hasc : ∀ (j : Nat) (b : UInt8), (s.extract p (p + spanAt nameB s p)).data.toList[j]? = some b → b.toNat < 128 := by
    intro j b hj
    have hm : b ∈ ((bs s).drop p).take (spanAt nameB s p) := by rw [← htk]; exact List.mem_of_getElem? hj
    have h1 : ((bs s).drop p).take (spanAt nameB s p) = ((bs s).drop p).takeWhile nameB := (List.prefix_iff_eq_take.1 (List.takeWhile_prefix _)).symm
    rw [h1] at hm
    exact nameB_ascii b (List.all_eq_true.1 (List.all_takeWhile (p := nameB) (l := (bs s).drop p)) b hm)
  obtain ⟨k, hk⟩ : ∃ k, k = spanAt nameB s p := ⟨_, rfl⟩
  have hsub : (s.extract p (p + k)).size = k := by rw [ByteArray.size_extract]; omega
  have HWH : Hid (∀ W, CurB W bc s p → Calls Tryz.prog 41 #[.pointer (some ⟨bc, 0, none⟩), .string nameSet] W fun e w' => e = .returned (.string (s.extract p (p + k))) ∧ CurB w' bc s (p + k) ∧ Keep (· = bc) W w') := by
    intro W hc
    have := while_any bc s nameSet p W hc h.hs h.hp
    rw [inName, ← hk] at this
    exact this
  have HTL : Hid (∀ W, Calls Tryz.prog 116 #[.string (s.extract p (p + k))] W fun e w' => e = .returned (.string ⟨nm.toArray⟩) ∧ Below W.heap.size W w') := by
    intro W
    have hb := h.hs
    have := toLower_ascii (s.extract p (p + k)) W (by rw [hsub]; omega) (by rw [hk]; exact hasc)
    rw [show (s.extract p (p + k)).data.toList = bs (s.extract p (p + k)) from rfl] at this
    rw [← hk] at hlow
    rw [hlow] at this
    exact this
  have hnsz : (ByteArray.mk nm.toArray).size = k := by show nm.toArray.size = k; rw [List.size_toArray, hlen, hk]
  rw [← hk] at hle hk32
  clear hk hnm hlow hasc htk hlen
  have HNZ := Lib.hid hnsz
  clear hnsz
  have c0 := h.b.c0
  have HPS : Hid (∀ W, Keep (fun _ => False) w W → Calls Tryz.prog 42 #[.pointer (some ⟨bc, 0, none⟩)] W fun e w' => e = .returned (.agg #[.int .i64 p, .int .i64 (lineAt s p), .int .i64 (colAt s p)]) ∧ Keep (fun _ => False) W w') := fun W hk => h.pos hk
  have hu26 := Tryz.underlying28
  have hu38 := Tryz.underlying50
  go_enter Tryz.func82, Tryz.ntmps82
  go_wp2_with fail
  refine (HPS.out _ (Keep.refl _ _)).mono ?_
  rintro e1 w1 ⟨rfl, hk1⟩
  have c01 := hk1.cell c0 (fun h => h)
  have c0W : (w1.alloc (.cells #[.int .i64 p, .int .i64 (lineAt s p), .int .i64 (colAt s p)] 28)).cell? ⟨bl, 0, none⟩ = some (.pointer (some ⟨bc, 0, none⟩)) := ((Keep.refl (fun _ => False) w1).alloc _).cell c01 (fun h => h)
  obtain ⟨W, hW⟩ : ∃ W, W = w1.alloc (.cells #[.int .i64 p, .int .i64 (lineAt s p), .int .i64 (colAt s p)] 28) := ⟨_, rfl⟩
  have hKW : Keep (fun _ => False) w W := by rw [hW]; exact hk1.alloc _
  have hBW : Blk W w1.heap.size #[.int .i64 p, .int .i64 (lineAt s p), .int .i64 (colAt s p)] 28 := by rw [hW]; exact Blk.new _ _ _
  have hSW := h.grow hKW
  have hcW := hSW.b.c0
  have hne : w1.heap.size ≠ bc := by have := Blk.lt h.c; have := hk1.size; omega
  have HWQ := Lib.hid hW
  clear hW
  unfold nameSet at HWH
  go_wp2_with fail
  rw [← HWQ.out]
  refine (HWH.out _ hSW.c).mono ?_
  rintro e7 w7 ⟨rfl, hc7, hk7⟩
  have hne2 := ownsRow_ne hSW.o hSW.c (by decide)
  have hS7 : Sc w7 base 91 bl bc 0 s (p + k) v l last := ⟨hk7.blk hSW.b h.ne, hc7, ownsRow_keep hSW.o hk7 hne2, h.ne, h.hbl, h.hbc, h.T1, h.T2, h.hs, hle, h.hl, h.hlast⟩
  have hB7 := hk7.blk hBW hne
  go_wp2_with fail
  refine (HTL.out _).mono ?_
  rintro e8 w8 ⟨rfl, hbel8⟩
  have hk8 : Keep (fun _ => False) w7 w8 := Keep.of_below hbel8
  have hS8 := hS7.grow hk8
  have hBX := hk8.blk hB7 (fun h => h)
  have d0 := hBX.at_ 0 (v := .int .i64 p) rfl
  have d1 := hBX.at_ 1 (v := .int .i64 (lineAt s p)) rfl
  have d2 := hBX.at_ 2 (v := .int .i64 (colAt s p)) rfl
  have hbel : Below base w w8 := ((hKW.belowB h.base_le).trans (hk7.below (by have := h.base_le; have := hKW.size; omega) (fun k hk => by rw [hk]; exact h.hbc))).trans (hk8.belowB (by have := h.base_le; have := hKW.size; have := hk7.size; omega))
  have HBL := Lib.hid ((((hKW.mono (fun _ _ h => h.elim)).trans hk7).trans (hk8.mono (fun _ _ h => h.elim))) : Keep (· = bc) w w8)
  clear hbel hbel8 hk8 hk7 hB7 hc7 HWH HTL
  have hnz := HNZ.out
  have ht : decide (32 < (k : Int)) = true := by simp; omega
  go_wp2_with fail
  go_ret
  exact ⟨rfl, HBL.out⟩

set_option maxRecDepth 100000 in
set_option maxHeartbeats 1000000 in
theorem name_ok (base bl bc : Nat) (s : ByteArray) (p : Nat) (v : Value) (l : List TokL) (last : Int) (w : World) (h : Sc w base 91 bl bc 0 s p v l last) (hl : l.length ≤ 900000) (hg : Glob base w) (hk32 : spanAt nameB s p ≤ 32) :
    Calls Tryz.prog 82 #[.pointer (some ⟨bl, 0, none⟩)] w fun e w' => e = .returned (.int .i64 0) ∧ Lays1 base 91 bl bc s w (p + spanAt nameB s p) (l ++ [⟨if isWord (nameAt s p) then 2 else 1, ⟨(nameAt s p).toArray⟩, 0, last == ((lineAt s p : Nat) : Int), posA s p⟩]) w' := by
  have hle := spanAt_le nameB s p h.hp
  have htk := take_of_ext s p (spanAt nameB s p)
  obtain ⟨nm, hnm⟩ : ∃ nm, nm = nameAt s p := ⟨_, rfl⟩
  have hlen : nm.length = spanAt nameB s p := by
    rw [hnm]; unfold nameAt lowL Lib.toLowerA
    rw [List.length_map, List.length_take, List.length_drop, bs_len]; omega
  have hlow : Lib.toLowerA (bs (s.extract p (p + spanAt nameB s p))) = nm := by rw [htk, hnm]; rfl
  have hasc : ∀ (j : Nat) (b : UInt8), (s.extract p (p + spanAt nameB s p)).data.toList[j]? = some b → b.toNat < 128 := by
    intro j b hj
    have hm : b ∈ ((bs s).drop p).take (spanAt nameB s p) := by rw [← htk]; exact List.mem_of_getElem? hj
    have h1 : ((bs s).drop p).take (spanAt nameB s p) = ((bs s).drop p).takeWhile nameB := (List.prefix_iff_eq_take.1 (List.takeWhile_prefix _)).symm
    rw [h1] at hm
    exact nameB_ascii b (List.all_eq_true.1 (List.all_takeWhile (p := nameB) (l := (bs s).drop p)) b hm)
  obtain ⟨k, hk⟩ : ∃ k, k = spanAt nameB s p := ⟨_, rfl⟩
  have hsub : (s.extract p (p + k)).size = k := by rw [ByteArray.size_extract]; omega
  have HWH : Hid (∀ W, CurB W bc s p → Calls Tryz.prog 41 #[.pointer (some ⟨bc, 0, none⟩), .string nameSet] W fun e w' => e = .returned (.string (s.extract p (p + k))) ∧ CurB w' bc s (p + k) ∧ Keep (· = bc) W w') := by
    intro W hc
    have := while_any bc s nameSet p W hc h.hs h.hp
    rw [inName, ← hk] at this
    exact this
  have HTL : Hid (∀ W, Calls Tryz.prog 116 #[.string (s.extract p (p + k))] W fun e w' => e = .returned (.string ⟨nm.toArray⟩) ∧ Below W.heap.size W w') := by
    intro W
    have hb := h.hs
    have := toLower_ascii (s.extract p (p + k)) W (by rw [hsub]; omega) (by rw [hk]; exact hasc)
    rw [show (s.extract p (p + k)).data.toList = bs (s.extract p (p + k)) from rfl] at this
    rw [← hk] at hlow
    rw [hlow] at this
    exact this
  have hnsz : (ByteArray.mk nm.toArray).size = k := by show nm.toArray.size = k; rw [List.size_toArray, hlen, hk]
  rw [← hk] at hle hk32 ⊢
  rw [← hnm]
  clear hk hnm hlow hasc htk hlen
  have HNZ := Lib.hid hnsz
  clear hnsz
  obtain ⟨kd, hkd⟩ : ∃ kd : Nat, kd = (if isWord nm = true then 2 else 1) := ⟨_, rfl⟩
  rw [← hkd]
  have HKD := Lib.hid hkd
  clear hkd
  have c0 := h.b.c0
  have HPS : Hid (∀ W, Keep (fun _ => False) w W → Calls Tryz.prog 42 #[.pointer (some ⟨bc, 0, none⟩)] W fun e w' => e = .returned (.agg #[.int .i64 p, .int .i64 (lineAt s p), .int .i64 (colAt s p)]) ∧ Keep (fun _ => False) W w') := fun W hk => h.pos hk
  have hu26 := Tryz.underlying28
  have hu38 := Tryz.underlying50
  go_enter Tryz.func82, Tryz.ntmps82
  go_wp2_with fail
  refine (HPS.out _ (Keep.refl _ _)).mono ?_
  rintro e1 w1 ⟨rfl, hk1⟩
  have c01 := hk1.cell c0 (fun h => h)
  have c0W : (w1.alloc (.cells #[.int .i64 p, .int .i64 (lineAt s p), .int .i64 (colAt s p)] 28)).cell? ⟨bl, 0, none⟩ = some (.pointer (some ⟨bc, 0, none⟩)) := ((Keep.refl (fun _ => False) w1).alloc _).cell c01 (fun h => h)
  obtain ⟨W, hW⟩ : ∃ W, W = w1.alloc (.cells #[.int .i64 p, .int .i64 (lineAt s p), .int .i64 (colAt s p)] 28) := ⟨_, rfl⟩
  have hKW : Keep (fun _ => False) w W := by rw [hW]; exact hk1.alloc _
  have hBW : Blk W w1.heap.size #[.int .i64 p, .int .i64 (lineAt s p), .int .i64 (colAt s p)] 28 := by rw [hW]; exact Blk.new _ _ _
  have hSW := h.grow hKW
  have hcW := hSW.b.c0
  have hne : w1.heap.size ≠ bc := by have := Blk.lt h.c; have := hk1.size; omega
  have HWQ := Lib.hid hW
  clear hW
  unfold nameSet at HWH
  go_wp2_with fail
  rw [← HWQ.out]
  refine (HWH.out _ hSW.c).mono ?_
  rintro e7 w7 ⟨rfl, hc7, hk7⟩
  have hne2 := ownsRow_ne hSW.o hSW.c (by decide)
  have hS7 : Sc w7 base 91 bl bc 0 s (p + k) v l last := ⟨hk7.blk hSW.b h.ne, hc7, ownsRow_keep hSW.o hk7 hne2, h.ne, h.hbl, h.hbc, h.T1, h.T2, h.hs, hle, h.hl, h.hlast⟩
  have hB7 := hk7.blk hBW hne
  go_wp2_with fail
  refine (HTL.out _).mono ?_
  rintro e8 w8 ⟨rfl, hbel8⟩
  have hk8 : Keep (fun _ => False) w7 w8 := Keep.of_below hbel8
  have hS8 := hS7.grow hk8
  have hBX := hk8.blk hB7 (fun h => h)
  have d0 := hBX.at_ 0 (v := .int .i64 p) rfl
  have d1 := hBX.at_ 1 (v := .int .i64 (lineAt s p)) rfl
  have d2 := hBX.at_ 2 (v := .int .i64 (colAt s p)) rfl
  have hbel : Below base w w8 := ((hKW.belowB h.base_le).trans (hk7.below (by have := h.base_le; have := hKW.size; omega) (fun k hk => by rw [hk]; exact h.hbc))).trans (hk8.belowB (by have := h.base_le; have := hKW.size; have := hk7.size; omega))
  have hg8 := hg.below hbel (Nat.le_refl _)
  have HGG := Lib.hid hg8
  have HBL := Lib.hid hbel
  clear hbel hbel8 hk8 hk7 hB7 hc7 HWH HTL hg hg8
  have hnz := HNZ.out
  have ht : decide (32 < (k : Int)) = false := by simp; omega
  go_wp2_with fail
  go_region_with (go_at_call 117; refine (word_any base 91 bl bc s (p + k) v l last _ hS8.drew hl HGG.out.drew ⟨nm.toArray⟩ p (lineAt s p) (colAt s p)).mono ?_; rintro e9 w9 ⟨rfl, hL9⟩; have HL9 := Lib.hid hL9; clear hL9)
  all_goals
    go_wp2_with fail
    go_ret
    have h9 := HL9.out
    rw [bs_mk, ← HKD.out] at h9
    exact ⟨rfl, h9.1, HBL.out.drew.trans h9.2⟩
end Go.Proofs.YtgmmjhelcpgakaaGreatDoor
/- Package lexpas: quoted, numbered. -/
namespace Go.Proofs.YtgmmjhelcpgakaaGreatDoor
open Go.RowKit
set_option linter.unusedVariables false
set_option linter.unusedSimpArgs false

theorem dig_range {c : UInt8} (h : digB c = true) : 48 ≤ c.toNat ∧ c.toNat ≤ 57 := by unfold digB at h; simpa using h
theorem small_num : ∀ (l : Bs) (acc : Nat), (∀ c ∈ l, digB c = true) → (acc + 1) * 10 ^ l.length ≤ 100000 →
    ∃ u, Lib.parseUint10 acc l = .ok u ∧ numGo acc l = some u ∧ u < (acc + 1) * 10 ^ l.length
  | [], acc, _, _ => ⟨acc, by simp [Lib.parseUint10], rfl, by simp⟩
  | c :: l, acc, hd, hb => by
    have hc := dig_range (hd c (by simp))
    have hp : 0 < 10 ^ l.length := Nat.pow_pos (by decide)
    have h0 : (10 * acc + (c.toNat - 48) + 1) ≤ 10 * (acc + 1) := by omega
    have h1 : (10 * acc + (c.toNat - 48) + 1) * 10 ^ l.length ≤ (acc + 1) * 10 ^ (l.length + 1) := by
      rw [Nat.pow_succ, ← Nat.mul_assoc, Nat.mul_right_comm]
      have := Nat.mul_le_mul_right (10 ^ l.length) h0
      rw [Nat.mul_comm 10 (acc + 1)] at this
      exact this
    have h2 : 10 * acc + (c.toNat - 48) + 1 ≤ 100000 := by
      have h3 : (acc + 1) * 10 ^ (l.length + 1) ≤ 100000 := by simpa using hb
      have h4 := Nat.le_mul_of_pos_right (10 * acc + (c.toNat - 48) + 1) hp
      omega
    have h6 : (acc + 1) * 10 ^ (l.length + 1) ≤ 100000 := by simpa using hb
    obtain ⟨u, hu1, hu2, hu3⟩ := small_num l (10 * acc + (c.toNat - 48)) (fun x hx => hd x (by simp [hx])) (Nat.le_trans h1 h6)
    refine ⟨u, ?_, ?_, by simp only [List.length_cons]; omega⟩
    · rw [show 10 * acc = acc * 10 from Nat.mul_comm _ _] at hu1
      simp only [Lib.parseUint10]
      rw [if_pos (by omega), if_neg (by omega), if_neg (by omega)]
      exact hu1
    · rw [numGo, if_neg (by omega)]; exact hu2
theorem atoi_small (l : Bs) (hd : ∀ c ∈ l, digB c = true) (h1 : l ≠ []) (h3 : l.length ≤ 3) : ∃ u : Nat, Lib.atoiAll l = .ok (u : Int) ∧ numGo 0 l = some u := by
  have hb : (0 + 1) * 10 ^ l.length ≤ 100000 := by
    have := Nat.pow_le_pow_right (n := 10) (by decide) h3
    omega
  obtain ⟨u, hu1, hu2, hu3⟩ := small_num l 0 hd hb
  refine ⟨u, ?_, hu2⟩
  have hu4 : u < 100000 := by omega
  match l, h1, hd, hu1 with
  | c :: r, _, hd, hu1 =>
    have hc := dig_range (hd c (by simp))
    unfold Lib.atoiAll
    simp only
    rw [if_neg (by omega)]
    unfold Lib.parseMag
    rw [if_neg (by simp), hu1]
    simp only
    rw [if_neg (by omega), if_neg (by omega), if_neg (by omega)]
/-- How Atoi ends at digits: a number, or an error. -/
theorem atoi_any (s : ByteArray) (hs : s.size ≤ 140737488351232) (base : Nat) (w : World) (hg : Glob base w) (hb : base ≤ w.heap.size) :
    Calls Tryz.prog 122 #[.string s] w fun e w' => (∃ n ev, e = .returned (.tuple #[.int .i64 n, ev]) ∧ ((∃ v, Lib.atoiAll (bs s) = .ok v ∧ n = v ∧ ev = .nilIface) ∨ ((∀ v, Lib.atoiAll (bs s) ≠ .ok v) ∧ ∃ N, ev = .iface 216 (.pointer (some ⟨N, 0, none⟩))))) ∧ Below w.heap.size w w' := by
  obtain ⟨e1, h1, f1⟩ := hg.syn
  obtain ⟨e2, h2, f2⟩ := hg.rng
  cases h : Lib.atoiAll (bs s) with
  | ok v => exact (atoi_ok s (by omega) v h w).mono fun e w' ⟨he, hw⟩ => ⟨⟨v, .nilIface, he, .inl ⟨v, rfl, rfl, rfl⟩⟩, atoi_world hw⟩
  | range => exact (atoi_range s (by omega) h e2 w h2 f2).mono fun e w' ⟨N, he, hw⟩ => ⟨⟨_, _, he, .inr ⟨(fun v hv => by cases hv), N, rfl⟩⟩, hw⟩
  | _ => exact (atoi_bad s (by omega) (fun v hv => by rw [show s.data.toList = bs s from rfl, h] at hv; cases hv) (fun hv => by rw [show s.data.toList = bs s from rfl, h] at hv; cases hv) e1 w h1 f1).mono fun e w' ⟨N, he, hw⟩ => ⟨⟨_, _, he, .inr ⟨(fun v hv => by cases hv), N, rfl⟩⟩, hw⟩

set_option maxRecDepth 100000 in
set_option maxHeartbeats 2000000 in
theorem numbered_any (base bl bc : Nat) (s : ByteArray) (p : Nat) (v : Value) (l : List TokL) (last : Int) (w : World) (h : Sc w base 91 bl bc 0 s p v l last) (hl : l.length ≤ 900000) (hg : Glob base w) (hp : p < s.size) (k : Nat) (hk : k = spanLen digB ((bs s).drop (p + 1))) (F : Fd) (hF : F = tokNumbered ((bs s).drop p)) :
    Calls Tryz.prog 85 #[.pointer (some ⟨bl, 0, none⟩)] w fun e w' =>
      e = .returned (.int .i64 F.err) ∧ Below base w w' ∧ (F.err ≠ 0 → Keep (fun _ => False) w w') ∧ (F.err = 0 → Lays1 base 91 bl bc s w (p + F.len) (l ++ [⟨4, ⟨#[]⟩, F.n, last == ((lineAt s p : Nat) : Int), posA s p⟩]) w') := by
  have hsz := h.hs
  obtain ⟨R0, hR0⟩ : ∃ R0, R0 = s.extract p s.size := ⟨_, rfl⟩
  have hs0 : R0.size = s.size - p := by rw [hR0, ByteArray.size_extract]; omega
  have hb0 : bs R0 = (bs s).drop p := by rw [hR0]; exact bs_tail s p
  obtain ⟨R1, hR1⟩ : ∃ R1, R1 = R0.extract 1 R0.size := ⟨_, rfl⟩
  have hs1 : R1.size = s.size - p - 1 := by rw [hR1, ByteArray.size_extract]; omega
  have hb1 : bs R1 = (bs s).drop (p + 1) := by rw [hR1, bs_tail, hb0, List.drop_drop]
  have hk1 : spanAt digB R1 0 = k := by unfold spanAt; rw [hb1, hk]; rfl
  have hkle : k ≤ R1.size := by have := spanAt_le digB R1 0 (Nat.zero_le _); omega
  obtain ⟨R2, hR2⟩ : ∃ R2, R2 = R1.extract k R1.size := ⟨_, rfl⟩
  have hs2 : R2.size = R1.size - k := by rw [hR2, ByteArray.size_extract]; omega
  obtain ⟨R3, hR3⟩ : ∃ R3, R3 = R1.extract 0 k := ⟨_, rfl⟩
  have hs3 : R3.size = k := by rw [hR3, ByteArray.size_extract]; omega
  have hb3 : bs R3 = ((bs s).drop (p + 1)).take k := by rw [hR3, bs_extract, hb1]; rfl
  have hd3 : ∀ c ∈ bs R3, digB c = true := by
    rw [hb3, hk]
    intro c hc
    have h1 : ((bs s).drop (p + 1)).take (spanLen digB ((bs s).drop (p + 1))) = ((bs s).drop (p + 1)).takeWhile digB := (List.prefix_iff_eq_take.1 (List.takeWhile_prefix _)).symm
    rw [h1] at hc
    exact List.all_eq_true.1 (List.all_takeWhile (p := digB) (l := (bs s).drop (p + 1))) c hc
  have HRS : Hid (∀ W, Keep (fun _ => False) w W → Calls Tryz.prog 80 #[.pointer (some ⟨bl, 0, none⟩)] W fun e w' => e = .returned (.string R0) ∧ Keep (fun _ => False) W w') := fun W hk => by rw [hR0]; exact h.rest hk
  have HCL : Hid (∀ W, Calls Tryz.prog 121 #[.string R1, .string tenSet] W fun e w' => e = .returned (.string R2) ∧ Keep (fun _ => False) W w') := fun W => by
    have := cutLeft_any R1 W (by omega)
    rw [hk1, ← hR2] at this
    exact this
  have HAT : Hid (∀ W, Keep (fun _ => False) w W → Calls Tryz.prog 122 #[.string R3] W fun e w' => (∃ n ev, e = .returned (.tuple #[.int .i64 n, ev]) ∧ ((∃ v, Lib.atoiAll (bs R3) = .ok v ∧ n = v ∧ ev = .nilIface) ∨ ((∀ v, Lib.atoiAll (bs R3) ≠ .ok v) ∧ ∃ N, ev = .iface 216 (.pointer (some ⟨N, 0, none⟩))))) ∧ Below W.heap.size W w') := fun W hk => atoi_any R3 (by omega) base W (hg.keep hk h.base_le (fun _ h => h.elim)) (by have := h.base_le; have := hk.size; omega)
  have hFx : F = if k = 0 ∨ 3 < k then fail 7 else match numGo 0 (bs R3) with | some n => if 255 < n then fail 7 else ⟨0, 4, [], n, 1 + k⟩ | none => fail 7 := by
    rw [hF]; unfold tokNumbered; rw [List.drop_drop, hb3, hk]; rfl
  have H3 := Lib.hid (And.intro hs3 (And.intro hb3 (And.intro hd3 hFx)))
  have HR1 := Lib.hid hR1
  have HR3 := Lib.hid hR3
  have hz0 : (0 : Int) ≤ 1 := by decide
  have hz1 : (1 : Int) ≤ (R0.size : Int) := by omega
  have hz2 : (0 : Int) ≤ ((R0.size - 1 : Nat) : Int) - (R2.size : Int) := by omega
  have hz3 : ((R0.size - 1 : Nat) : Int) - (R2.size : Int) ≤ (R1.size : Int) := by omega
  have hz4 : R0.size - 1 - R2.size = k := by omega
  have HZ4 := Lib.hid hz4
  have hm1 : ((R0.size - 1 : Nat) : Int) ≤ 140737488351232 := by omega
  have hm2 : (R2.size : Int) ≤ 140737488351232 := by omega
  have hk3 : 1 + k ≤ s.size - p := by omega
  have HK3 := Lib.hid hk3
  clear hs0 hb0 hs1 hb1 hk1 hkle hR2 hs2 hs3 hb3 hd3 hFx hF hk hR0 hR1 hR3 hz4 hk3
  go_enter Tryz.func85, Tryz.ntmps85
  go_wp2_with fail
  refine (HRS.out _ (Keep.refl _ _)).mono ?_
  rintro e1 w1 ⟨rfl, hk1⟩
  unfold tenSet at HCL
  go_wp2_with fail
  rw [← HR1.out]
  refine (HCL.out _).mono ?_
  rintro e2 w2 ⟨rfl, hk2⟩
  go_wp2_with fail
  rw [HZ4.out, ← HR3.out]
  refine (HAT.out _ (hk1.trans hk2)).mono ?_
  rintro e3 w3 ⟨⟨n, ev, rfl, hcase⟩, hb3⟩
  have HKW := Lib.hid ((hk1.trans hk2).trans (Keep.of_below (P := fun _ => False) hb3))
  have HC := Lib.hid hcase
  have hS3 := h.grow HKW.out
  obtain ⟨hr3, hbs3, hd3, hFx⟩ := H3.out
  have HFX := Lib.hid hFx
  have hsz3 : ((R3.size : Nat) : Int) = (k : Int) := by rw [hr3]
  clear hcase hb3 hk1 hk2 H3 HAT HCL HRS hFx
  by_cases hok : ∃ v, Lib.atoiAll (bs R3) = .ok v ∧ n = v ∧ ev = .nilIface
  · obtain ⟨va, hva, rfl, rfl⟩ := hok
    have hne : k ≠ 0 := by
      intro h0
      have h1 : bs R3 = [] := List.eq_nil_of_length_eq_zero (by rw [bs_len, hr3]; exact h0)
      rw [h1] at hva; cases hva
    by_cases h3k : 3 < k
    · have t3 : decide ((3 : Int) < (k : Int)) = true := by simp; omega
      have t3' : decide ((3 : Int) < (R3.size : Int)) = true := by simp; omega
      have HF1 : Hid (F = fail 7) := by show F = fail 7; rw [HFX.out, if_pos (Or.inr h3k)]
      clear hva hbs3 hr3
      go_wp2_with fail
      go_ret
      exact ⟨by rw [HF1.out]; rfl, HKW.out.belowB h.base_le, fun _ => HKW.out, fun h0 => by rw [HF1.out] at h0; cases h0⟩
    · have t3' : decide ((3 : Int) < (R3.size : Int)) = false := by simp; omega
      obtain ⟨u, hu1, hu2⟩ := atoi_small (bs R3) hd3 (by intro h0; have := congrArg List.length h0; rw [bs_len, hr3] at this; exact hne this) (by rw [bs_len, hr3]; omega)
      rw [hva] at hu1
      injection hu1 with hu1
      subst hu1
      have HU2 := Lib.hid hu2
      have hsr : 1 + R3.size = 1 + k := by rw [hr3]
      have HSR := Lib.hid hsr
      have HR3S := Lib.hid hr3
      have hbig : R3.size ≤ 3 := by omega
      have hkne : ¬ (k = 0 ∨ 3 < k) := by omega
      have HKN := Lib.hid hkne
      clear hva hbs3 hr3 hu2 hne h3k hsz3 hsr hkne
      by_cases h255 : 255 < u
      · have t5 : decide ((255 : Int) < (u : Int)) = true := by simp; omega
        have HF1 : Hid (F = fail 7) := by show F = fail 7; rw [HFX.out, if_neg HKN.out, HU2.out]; show (if 255 < u then fail 7 else _) = _; rw [if_pos h255]
        go_wp2_with fail
        go_ret
        exact ⟨by rw [HF1.out]; rfl, HKW.out.belowB h.base_le, fun _ => HKW.out, fun h0 => by rw [HF1.out] at h0; cases h0⟩
      · have t5 : decide ((255 : Int) < (u : Int)) = false := by simp; omega
        have HF1 : Hid (F = ⟨0, 4, [], u, 1 + k⟩) := by show F = _; rw [HFX.out, if_neg HKN.out, HU2.out]; show (if 255 < u then fail 7 else _) = _; rw [if_neg h255]
        have hpk : p + (1 + R3.size) ≤ s.size := by have := HK3.out; have := HSR.out; omega
        go_wp2_with fail
        have hch := char_any base 91 bl bc s p v l last w3 hS3 hl u (1 + R3.size) hpk
        rw [show ((1 + R3.size : Nat) : Int) = 1 + (R3.size : Int) from by omega] at hch
        refine hch.mono ?_
        clear hch
        rintro e4 w4 ⟨rfl, hL4⟩
        rw [HSR.out] at hL4
        have HL4 := Lib.hid hL4
        clear hL4
        go_wp2_with fail
        go_ret
        rw [HF1.out]
        exact ⟨rfl, (HKW.out.belowB h.base_le).trans HL4.out.2, (fun h0 => absurd rfl h0), fun _ => ⟨HL4.out.1, (HKW.out.belowB h.base_le).trans HL4.out.2⟩⟩
  · have hbad : (∀ v, Lib.atoiAll (bs R3) ≠ .ok v) ∧ ∃ N, ev = .iface 216 (.pointer (some ⟨N, 0, none⟩)) := by
      rcases HC.out with h1 | h1
      · exact absurd h1 hok
      · exact h1
    obtain ⟨hno, N, rfl⟩ := hbad
    have HF1 : Hid (F = fail 7) := by
      show F = fail 7
      rw [HFX.out]
      by_cases hk0 : k = 0 ∨ 3 < k
      · rw [if_pos hk0]
      · obtain ⟨u, hu1, hu2⟩ := atoi_small (bs R3) hd3 (by intro h0; have := congrArg List.length h0; rw [bs_len, hr3] at this; exact hk0 (.inl this)) (by rw [bs_len, hr3]; omega)
        exact absurd hu1 (hno _)
    clear hno hok hbs3 hr3 hsz3
    go_wp2_with fail
    go_ret
    exact ⟨by rw [HF1.out]; rfl, HKW.out.belowB h.base_le, fun _ => HKW.out, fun h0 => by rw [HF1.out] at h0; cases h0⟩
end Go.Proofs.YtgmmjhelcpgakaaGreatDoor
