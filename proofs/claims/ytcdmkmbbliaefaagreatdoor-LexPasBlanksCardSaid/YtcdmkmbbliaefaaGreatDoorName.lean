/- Package lexpas: name. -/
import Derived.Test.YtcdmkmbbliaefaaGreatDoorTokS
import Derived.Deep.RegionWith
namespace Go.Proofs.YtcdmkmbbliaefaaGreatDoor
open Go.RowKit
set_option linter.unusedVariables false
set_option linter.unusedSimpArgs false

def nameSet : ByteArray := ⟨#[97, 98, 99, 100, 101, 102, 103, 104, 105, 106, 107, 108, 109, 110, 111, 112, 113, 114, 115, 116, 117, 118, 119, 120, 121, 122, 48, 49, 50, 51, 52, 53, 54, 55, 56, 57, 95, 65, 66, 67, 68, 69, 70, 71, 72, 73, 74, 75, 76, 77, 78, 79, 80, 81, 82, 83, 84, 85, 86, 87, 88, 89, 90]⟩
set_option maxRecDepth 100000 in
theorem inName : inSet nameSet = nameB := by
  have h : ∀ k : Fin 256, inSet nameSet (UInt8.ofNat k.val) = nameB (UInt8.ofNat k.val) := by decide +kernel
  funext c
  have := h ⟨c.toNat, c.toNat_lt⟩
  simpa using this
theorem nameB_ascii (c : UInt8) (h : nameB c = true) : c.toNat < 128 := by
  unfold nameB smallB digB greatB at h
  by_cases h95 : c = 95
  · subst h95; decide
  · have : (c == 95) = false := by simpa using h95
    rw [this] at h
    simp at h; omega
def nameAt (s : ByteArray) (p : Nat) : Bs := lowL (((bs s).drop p).take (spanAt nameB s p))
theorem take_of_ext (s : ByteArray) (p k : Nat) : bs (s.extract p (p + k)) = ((bs s).drop p).take k := by
  rw [bs_extract, List.drop_take, Nat.add_sub_cancel_left]

theorem Sc.drew {w : World} {base T bl bc : Nat} {d : Int} {s : ByteArray} {p : Nat} {v : Value} {l : List TokL} {last : Int} (h : Sc w base T bl bc d s p v l last) : Sc w.drew base T bl bc d s p v l last := h.keep (P := fun _ => False) (Keep.refl _ w).drew (fun _ h => h.elim)
theorem Glob.drew {base : Nat} {w : World} (h : Glob base w) : Glob base w.drew := h.below (Below.refl base w).drew (Nat.le_refl _)
set_option maxRecDepth 100000 in
set_option maxHeartbeats 1000000 in
theorem name_long (base bl bc : Nat) (s : ByteArray) (p : Nat) (v : Value) (l : List TokL) (last : Int) (w : World) (h : Sc w base 49 bl bc 0 s p v l last) (hk32 : 32 < spanAt nameB s p) :
    Calls Tryz.prog 34 #[.pointer (some ⟨bl, 0, none⟩)] w fun e w' => e = .returned (.int .i64 3) ∧ Keep (· = bc) w w' := by
  have hle := spanAt_le nameB s p h.hp
  have htk := take_of_ext s p (spanAt nameB s p)
  obtain ⟨nm, hnm⟩ : ∃ nm, nm = nameAt s p := ⟨_, rfl⟩
  have hlen : nm.length = spanAt nameB s p := by
    rw [hnm]; unfold nameAt lowL Lib.toLowerA
    rw [List.length_map, List.length_take, List.length_drop, bs_len]; omega
  have hlow : Lib.toLowerA (bs (s.extract p (p + spanAt nameB s p))) = nm := by rw [htk, hnm]; rfl
  have hasc : ∀ (j : Nat) (b : UInt8), (s.extract p (p + spanAt nameB s p)).data.toList[j]? = some b → b.toNat < 128 := by
    intro j b hj
    have hm : b ∈ ((bs s).drop p).take (spanAt nameB s p) := by rw [← htk]; exact List.mem_of_getElem? hj
    have h1 : ((bs s).drop p).take (spanAt nameB s p) = ((bs s).drop p).takeWhile nameB := (List.prefix_iff_eq_take.1 (List.takeWhile_prefix _)).symm
    rw [h1] at hm
    exact nameB_ascii b (List.all_eq_true.1 (List.all_takeWhile (p := nameB) (l := (bs s).drop p)) b hm)
  obtain ⟨k, hk⟩ : ∃ k, k = spanAt nameB s p := ⟨_, rfl⟩
  have hsub : (s.extract p (p + k)).size = k := by rw [ByteArray.size_extract]; omega
  have HWH : Hid (∀ W, CurB W bc s p → Calls Tryz.prog 16 #[.pointer (some ⟨bc, 0, none⟩), .string nameSet] W fun e w' => e = .returned (.string (s.extract p (p + k))) ∧ CurB w' bc s (p + k) ∧ Keep (· = bc) W w') := by
    intro W hc
    have := while_any bc s nameSet p W hc h.hs h.hp
    rw [inName, ← hk] at this
    exact this
  have HTL : Hid (∀ W, Calls Tryz.prog 52 #[.string (s.extract p (p + k))] W fun e w' => e = .returned (.string ⟨nm.toArray⟩) ∧ Below W.heap.size W w') := by
    intro W
    have hb := h.hs
    have := toLower_ascii (s.extract p (p + k)) W (by rw [hsub]; omega) (by rw [hk]; exact hasc)
    rw [show (s.extract p (p + k)).data.toList = bs (s.extract p (p + k)) from rfl] at this
    rw [← hk] at hlow
    rw [hlow] at this
    exact this
  have hnsz : (ByteArray.mk nm.toArray).size = k := by show nm.toArray.size = k; rw [List.size_toArray, hlen, hk]
  rw [← hk] at hle hk32
  clear hk hnm hlow hasc htk hlen
  have HNZ := Lib.hid hnsz
  clear hnsz
  have c0 := h.b.c0
  have HPS : Hid (∀ W, Keep (fun _ => False) w W → Calls Tryz.prog 17 #[.pointer (some ⟨bc, 0, none⟩)] W fun e w' => e = .returned (.agg #[.int .i64 p, .int .i64 (lineAt s p), .int .i64 (colAt s p)]) ∧ Keep (fun _ => False) W w') := fun W hk => h.pos hk
  have hu26 := Tryz.underlying26
  have hu38 := Tryz.underlying38
  go_enter Tryz.func34, Tryz.ntmps34
  go_wp2_with fail
  refine (HPS.out _ (Keep.refl _ _)).mono ?_
  rintro e1 w1 ⟨rfl, hk1⟩
  have c01 := hk1.cell c0 (fun h => h)
  have c0W : (w1.alloc (.cells #[.int .i64 p, .int .i64 (lineAt s p), .int .i64 (colAt s p)] 26)).cell? ⟨bl, 0, none⟩ = some (.pointer (some ⟨bc, 0, none⟩)) := ((Keep.refl (fun _ => False) w1).alloc _).cell c01 (fun h => h)
  obtain ⟨W, hW⟩ : ∃ W, W = w1.alloc (.cells #[.int .i64 p, .int .i64 (lineAt s p), .int .i64 (colAt s p)] 26) := ⟨_, rfl⟩
  have hKW : Keep (fun _ => False) w W := by rw [hW]; exact hk1.alloc _
  have hBW : Blk W w1.heap.size #[.int .i64 p, .int .i64 (lineAt s p), .int .i64 (colAt s p)] 26 := by rw [hW]; exact Blk.new _ _ _
  have hSW := h.grow hKW
  have hcW := hSW.b.c0
  have hne : w1.heap.size ≠ bc := by have := Blk.lt h.c; have := hk1.size; omega
  have HWQ := Lib.hid hW
  clear hW
  unfold nameSet at HWH
  go_wp2_with fail
  rw [← HWQ.out]
  refine (HWH.out _ hSW.c).mono ?_
  rintro e7 w7 ⟨rfl, hc7, hk7⟩
  have hne2 := ownsRow_ne hSW.o hSW.c (by decide)
  have hS7 : Sc w7 base 49 bl bc 0 s (p + k) v l last := ⟨hk7.blk hSW.b h.ne, hc7, ownsRow_keep hSW.o hk7 hne2, h.ne, h.hbl, h.hbc, h.T1, h.T2, h.hs, hle, h.hl, h.hlast⟩
  have hB7 := hk7.blk hBW hne
  go_wp2_with fail
  refine (HTL.out _).mono ?_
  rintro e8 w8 ⟨rfl, hbel8⟩
  have hk8 : Keep (fun _ => False) w7 w8 := Keep.of_below hbel8
  have hS8 := hS7.grow hk8
  have hBX := hk8.blk hB7 (fun h => h)
  have d0 := hBX.at_ 0 (v := .int .i64 p) rfl
  have d1 := hBX.at_ 1 (v := .int .i64 (lineAt s p)) rfl
  have d2 := hBX.at_ 2 (v := .int .i64 (colAt s p)) rfl
  have hbel : Below base w w8 := ((hKW.belowB h.base_le).trans (hk7.below (by have := h.base_le; have := hKW.size; omega) (fun k hk => by rw [hk]; exact h.hbc))).trans (hk8.belowB (by have := h.base_le; have := hKW.size; have := hk7.size; omega))
  have HBL := Lib.hid ((((hKW.mono (fun _ _ h => h.elim)).trans hk7).trans (hk8.mono (fun _ _ h => h.elim))) : Keep (· = bc) w w8)
  clear hbel hbel8 hk8 hk7 hB7 hc7 HWH HTL
  have hnz := HNZ.out
  have ht : decide (32 < (k : Int)) = true := by simp; omega
  go_wp2_with fail
  go_ret
  exact ⟨rfl, HBL.out⟩

set_option maxRecDepth 100000 in
set_option maxHeartbeats 1000000 in
theorem name_ok (base bl bc : Nat) (s : ByteArray) (p : Nat) (v : Value) (l : List TokL) (last : Int) (w : World) (h : Sc w base 49 bl bc 0 s p v l last) (hl : l.length ≤ 900000) (hg : Glob base w) (hk32 : spanAt nameB s p ≤ 32) :
    Calls Tryz.prog 34 #[.pointer (some ⟨bl, 0, none⟩)] w fun e w' => e = .returned (.int .i64 0) ∧ Lays1 base 49 bl bc s w (p + spanAt nameB s p) (l ++ [⟨if isWord (nameAt s p) then 2 else 1, ⟨(nameAt s p).toArray⟩, 0, last == ((lineAt s p : Nat) : Int), posA s p⟩]) w' := by
  have hle := spanAt_le nameB s p h.hp
  have htk := take_of_ext s p (spanAt nameB s p)
  obtain ⟨nm, hnm⟩ : ∃ nm, nm = nameAt s p := ⟨_, rfl⟩
  have hlen : nm.length = spanAt nameB s p := by
    rw [hnm]; unfold nameAt lowL Lib.toLowerA
    rw [List.length_map, List.length_take, List.length_drop, bs_len]; omega
  have hlow : Lib.toLowerA (bs (s.extract p (p + spanAt nameB s p))) = nm := by rw [htk, hnm]; rfl
  have hasc : ∀ (j : Nat) (b : UInt8), (s.extract p (p + spanAt nameB s p)).data.toList[j]? = some b → b.toNat < 128 := by
    intro j b hj
    have hm : b ∈ ((bs s).drop p).take (spanAt nameB s p) := by rw [← htk]; exact List.mem_of_getElem? hj
    have h1 : ((bs s).drop p).take (spanAt nameB s p) = ((bs s).drop p).takeWhile nameB := (List.prefix_iff_eq_take.1 (List.takeWhile_prefix _)).symm
    rw [h1] at hm
    exact nameB_ascii b (List.all_eq_true.1 (List.all_takeWhile (p := nameB) (l := (bs s).drop p)) b hm)
  obtain ⟨k, hk⟩ : ∃ k, k = spanAt nameB s p := ⟨_, rfl⟩
  have hsub : (s.extract p (p + k)).size = k := by rw [ByteArray.size_extract]; omega
  have HWH : Hid (∀ W, CurB W bc s p → Calls Tryz.prog 16 #[.pointer (some ⟨bc, 0, none⟩), .string nameSet] W fun e w' => e = .returned (.string (s.extract p (p + k))) ∧ CurB w' bc s (p + k) ∧ Keep (· = bc) W w') := by
    intro W hc
    have := while_any bc s nameSet p W hc h.hs h.hp
    rw [inName, ← hk] at this
    exact this
  have HTL : Hid (∀ W, Calls Tryz.prog 52 #[.string (s.extract p (p + k))] W fun e w' => e = .returned (.string ⟨nm.toArray⟩) ∧ Below W.heap.size W w') := by
    intro W
    have hb := h.hs
    have := toLower_ascii (s.extract p (p + k)) W (by rw [hsub]; omega) (by rw [hk]; exact hasc)
    rw [show (s.extract p (p + k)).data.toList = bs (s.extract p (p + k)) from rfl] at this
    rw [← hk] at hlow
    rw [hlow] at this
    exact this
  have hnsz : (ByteArray.mk nm.toArray).size = k := by show nm.toArray.size = k; rw [List.size_toArray, hlen, hk]
  rw [← hk] at hle hk32 ⊢
  rw [← hnm]
  clear hk hnm hlow hasc htk hlen
  have HNZ := Lib.hid hnsz
  clear hnsz
  obtain ⟨kd, hkd⟩ : ∃ kd : Nat, kd = (if isWord nm = true then 2 else 1) := ⟨_, rfl⟩
  rw [← hkd]
  have HKD := Lib.hid hkd
  clear hkd
  have c0 := h.b.c0
  have HPS : Hid (∀ W, Keep (fun _ => False) w W → Calls Tryz.prog 17 #[.pointer (some ⟨bc, 0, none⟩)] W fun e w' => e = .returned (.agg #[.int .i64 p, .int .i64 (lineAt s p), .int .i64 (colAt s p)]) ∧ Keep (fun _ => False) W w') := fun W hk => h.pos hk
  have hu26 := Tryz.underlying26
  have hu38 := Tryz.underlying38
  go_enter Tryz.func34, Tryz.ntmps34
  go_wp2_with fail
  refine (HPS.out _ (Keep.refl _ _)).mono ?_
  rintro e1 w1 ⟨rfl, hk1⟩
  have c01 := hk1.cell c0 (fun h => h)
  have c0W : (w1.alloc (.cells #[.int .i64 p, .int .i64 (lineAt s p), .int .i64 (colAt s p)] 26)).cell? ⟨bl, 0, none⟩ = some (.pointer (some ⟨bc, 0, none⟩)) := ((Keep.refl (fun _ => False) w1).alloc _).cell c01 (fun h => h)
  obtain ⟨W, hW⟩ : ∃ W, W = w1.alloc (.cells #[.int .i64 p, .int .i64 (lineAt s p), .int .i64 (colAt s p)] 26) := ⟨_, rfl⟩
  have hKW : Keep (fun _ => False) w W := by rw [hW]; exact hk1.alloc _
  have hBW : Blk W w1.heap.size #[.int .i64 p, .int .i64 (lineAt s p), .int .i64 (colAt s p)] 26 := by rw [hW]; exact Blk.new _ _ _
  have hSW := h.grow hKW
  have hcW := hSW.b.c0
  have hne : w1.heap.size ≠ bc := by have := Blk.lt h.c; have := hk1.size; omega
  have HWQ := Lib.hid hW
  clear hW
  unfold nameSet at HWH
  go_wp2_with fail
  rw [← HWQ.out]
  refine (HWH.out _ hSW.c).mono ?_
  rintro e7 w7 ⟨rfl, hc7, hk7⟩
  have hne2 := ownsRow_ne hSW.o hSW.c (by decide)
  have hS7 : Sc w7 base 49 bl bc 0 s (p + k) v l last := ⟨hk7.blk hSW.b h.ne, hc7, ownsRow_keep hSW.o hk7 hne2, h.ne, h.hbl, h.hbc, h.T1, h.T2, h.hs, hle, h.hl, h.hlast⟩
  have hB7 := hk7.blk hBW hne
  go_wp2_with fail
  refine (HTL.out _).mono ?_
  rintro e8 w8 ⟨rfl, hbel8⟩
  have hk8 : Keep (fun _ => False) w7 w8 := Keep.of_below hbel8
  have hS8 := hS7.grow hk8
  have hBX := hk8.blk hB7 (fun h => h)
  have d0 := hBX.at_ 0 (v := .int .i64 p) rfl
  have d1 := hBX.at_ 1 (v := .int .i64 (lineAt s p)) rfl
  have d2 := hBX.at_ 2 (v := .int .i64 (colAt s p)) rfl
  have hbel : Below base w w8 := ((hKW.belowB h.base_le).trans (hk7.below (by have := h.base_le; have := hKW.size; omega) (fun k hk => by rw [hk]; exact h.hbc))).trans (hk8.belowB (by have := h.base_le; have := hKW.size; have := hk7.size; omega))
  have hg8 := hg.below hbel (Nat.le_refl _)
  have HGG := Lib.hid hg8
  have HBL := Lib.hid hbel
  clear hbel hbel8 hk8 hk7 hB7 hc7 HWH HTL hg hg8
  have hnz := HNZ.out
  have ht : decide (32 < (k : Int)) = false := by simp; omega
  go_wp2_with fail
  go_region_with (go_at_call 53; refine (word_any base 49 bl bc s (p + k) v l last _ hS8.drew hl HGG.out.drew ⟨nm.toArray⟩ p (lineAt s p) (colAt s p)).mono ?_; rintro e9 w9 ⟨rfl, hL9⟩; have HL9 := Lib.hid hL9; clear hL9)
  all_goals
    go_wp2_with fail
    go_ret
    have h9 := HL9.out
    rw [bs_mk, ← HKD.out] at h9
    exact ⟨rfl, h9.1, HBL.out.drew.trans h9.2⟩
end Go.Proofs.YtcdmkmbbliaefaaGreatDoor
