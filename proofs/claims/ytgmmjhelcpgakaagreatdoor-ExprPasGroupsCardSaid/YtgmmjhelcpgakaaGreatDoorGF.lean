/- Package scan: Word, Int, Char, Sign, New. -/
import Derived.Test.YtgmmjhelcpgakaaGreatDoorGE
namespace Go.Proofs.YtgmmjhelcpgakaaGreatDoor
open Go.RowKit
set_option linter.unusedVariables false
set_option linter.unusedSimpArgs false

set_option maxRecDepth 100000 in
set_option maxHeartbeats 1000000 in
theorem word_any (base T bl bc : Nat) (s : ByteArray) (p : Nat) (v : Value) (l : List TokL) (last : Int) (w : World) (h : Sc w base T bl bc 0 s p v l last) (hl : l.length ≤ 900000) (hg : Glob base w) (name : ByteArray) (pa pl pc : Nat) :
    Calls Tryz.prog 117 #[.pointer (some ⟨bl, 0, none⟩), .string name, .agg #[.int .i64 pa, .int .i64 pl, .int .i64 pc]] w fun e w' => e = .returned (.tuple #[]) ∧ Lays1 base T bl bc s w p (l ++ [⟨if isWord (bs name) then 2 else 1, name, 0, last == (pl : Int), (pa, pl, pc)⟩]) w' := by
  have hle := h.base_le
  have HI0 := fun W hW => wordsIs_any name W hW
  obtain ⟨b, hb⟩ : ∃ b, b = isWord (bs name) := ⟨_, rfl⟩
  rw [← hb] at HI0 ⊢
  clear hb
  have c1 := h.b.c1
  have hu26 := Tryz.underlying28
  have hu38 := Tryz.underlying50
  have nb1 : bl ≠ w.heap.size := by have := Blk.lt h.b; omega
  have c1' : (w.alloc (.cells #[.int .i64 pa, .int .i64 pl, .int .i64 pc] 28)).cell? ⟨bl, 1, none⟩ = some (.int .i64 0) := (((Keep.refl (fun _ => False) w).alloc _).cell c1 (fun h => h))
  have hB1 := Blk.new w #[.int .i64 pa, .int .i64 pl, .int .i64 pc] 28
  have hK1 : Keep (fun _ => False) w (w.alloc (.cells #[.int .i64 pa, .int .i64 pl, .int .i64 pc] 28)) := (Keep.refl _ w).alloc _
  have HI := Lib.hid (HI0 (w.alloc (.cells #[.int .i64 pa, .int .i64 pl, .int .i64 pc] 28)) ((hg.keep hK1 h.base_le (fun _ h => h.elim)).space))
  clear hg HI0
  cases b
  all_goals
   go_enter Tryz.func117, Tryz.ntmps117
   go_wp2_with fail
   refine HI.out.mono ?_
   rintro e2 w2 ⟨rfl, hk2⟩
   have hB2 := hk2.blk hB1 (fun h => h)
   have d0 := hB2.at_ 0 (v := .int .i64 pa) rfl
   have d1 := hB2.at_ 1 (v := .int .i64 pl) rfl
   have d2 := hB2.at_ 2 (v := .int .i64 pc) rfl
   have hS2 := h.grow (hK1.trans hk2)
   have HK := Lib.hid (hK1.trans hk2)
   clear hK1 hk2 c1 HI
   go_wp2_with fail
  · refine (add_any base T bl bc 0 s p v l last _ hS2 hl 1 name 0 false 0 0 0 pa pl pc).mono ?_
    rintro e3 w3 ⟨rfl, hS3, hb3⟩
    have HS3 := Lib.hid hS3; clear hS3
    go_wp2_with fail
    go_end0
    exact ⟨rfl, HS3.out, (HK.out.belowB hle).trans hb3⟩
  · refine (add_any base T bl bc 0 s p v l last _ hS2 hl 2 name 0 false 0 0 0 pa pl pc).mono ?_
    rintro e3 w3 ⟨rfl, hS3, hb3⟩
    have HS3 := Lib.hid hS3; clear hS3
    go_wp2_with fail
    go_end0
    exact ⟨rfl, HS3.out, (HK.out.belowB hle).trans hb3⟩

set_option maxRecDepth 100000 in
set_option maxHeartbeats 1000000 in
theorem char_any (base T bl bc : Nat) (s : ByteArray) (p : Nat) (v : Value) (l : List TokL) (last : Int) (w : World) (h : Sc w base T bl bc 0 s p v l last) (hl : l.length ≤ 900000) (n : Int) (size : Nat) (hsz : p + size ≤ s.size) :
    Calls Tryz.prog 119 #[.pointer (some ⟨bl, 0, none⟩), .int .i64 n, .int .i64 size] w fun e w' => e = .returned (.int .i64 0) ∧ Lays1 base T bl bc s w (p + size) (l ++ [⟨4, ⟨#[]⟩, n, last == ((lineAt s p : Nat) : Int), posA s p⟩]) w' := by
  have c0 := h.b.c0
  have HPS : Hid (∀ W, Keep (fun _ => False) w W → Calls Tryz.prog 42 #[.pointer (some ⟨bc, 0, none⟩)] W fun e w' => e = .returned (.agg #[.int .i64 p, .int .i64 (lineAt s p), .int .i64 (colAt s p)]) ∧ Keep (fun _ => False) W w') := fun W hk => h.pos hk
  have hu26 := Tryz.underlying28
  have hu38 := Tryz.underlying50
  go_enter Tryz.func119, Tryz.ntmps119
  go_wp2_with fail
  refine (HPS.out _ (Keep.refl _ _)).mono ?_
  rintro e1 w1 ⟨rfl, hk1⟩
  have c01 := hk1.cell c0 (fun h => h)
  have c0W : (w1.alloc (.cells #[.int .i64 p, .int .i64 (lineAt s p), .int .i64 (colAt s p)] 28)).cell? ⟨bl, 0, none⟩ = some (.pointer (some ⟨bc, 0, none⟩)) := ((Keep.refl (fun _ => False) w1).alloc _).cell c01 (fun h => h)
  obtain ⟨W, hW⟩ : ∃ W, W = w1.alloc (.cells #[.int .i64 p, .int .i64 (lineAt s p), .int .i64 (colAt s p)] 28) := ⟨_, rfl⟩
  have hKW : Keep (fun _ => False) w W := by rw [hW]; exact hk1.alloc _
  have hBW : Blk W w1.heap.size #[.int .i64 p, .int .i64 (lineAt s p), .int .i64 (colAt s p)] 28 := by rw [hW]; exact Blk.new _ _ _
  have hSW := h.grow hKW
  have hcW := hSW.b.c0
  have hne : w1.heap.size ≠ bc := by have := Blk.lt h.c; have := hk1.size; omega
  have HWQ := Lib.hid hW
  clear hW
  go_wp2_with fail
  rw [← HWQ.out]
  refine (hSW.skip size hsz).mono ?_
  rintro e7 w7 ⟨rfl, hS7, hk7⟩
  have hBX := hk7.blk hBW hne
  have d0 := hBX.at_ 0 (v := .int .i64 p) rfl
  have d1 := hBX.at_ 1 (v := .int .i64 (lineAt s p)) rfl
  have d2 := hBX.at_ 2 (v := .int .i64 (colAt s p)) rfl
  go_wp2_with fail
  refine (add_any base T bl bc 0 s (p + size) v l last _ hS7 hl 4 ⟨#[]⟩ n false 0 0 0 p (lineAt s p) (colAt s p)).mono ?_
  rintro e8 w8 ⟨rfl, hS8, hb8⟩
  have HS8 := Lib.hid hS8; clear hS8
  go_wp2_with fail
  go_ret
  exact ⟨rfl, HS8.out, ((hKW.belowB h.base_le).trans (hk7.below (by have := h.base_le; have := hKW.size; omega) (fun k hk => by rw [hk]; exact h.hbc))).trans hb8⟩

theorem spanDig (s : ByteArray) (p : Nat) : ∀ c ∈ bs (s.extract p (p + spanAt digB s p)), digB c = true := by
  intro c hc
  rw [bs_extract] at hc
  have h1 : ((bs s).take (p + spanAt digB s p)).drop p = ((bs s).drop p).takeWhile digB := by
    rw [List.drop_take, Nat.add_sub_cancel_left]
    unfold spanAt spanLen
    exact (List.prefix_iff_eq_take.1 (List.takeWhile_prefix _)).symm
  rw [h1] at hc
  exact List.all_eq_true.1 (List.all_takeWhile (p := digB) (l := (bs s).drop p)) c hc
theorem inTen : inSet ⟨#[48, 49, 50, 51, 52, 53, 54, 55, 56, 57]⟩ = digB := by
  funext c; exact ten_has c
def numAt (s : ByteArray) (p : Nat) : Option Nat := numGo 0 (bs (s.extract p (p + spanAt digB s p)))
def IntPost (base T bl bc : Nat) (s : ByteArray) (p : Nat) (l : List TokL) (last : Int) (w : World) (R : Option Nat) (e : Ending) (w' : World) : Prop :=
  e = .returned (.int .i64 (numRes R).2) ∧ Below base w w' ∧ (R = none → Keep (· = bc) w w') ∧ ∀ n, R = some n → Lays1 base T bl bc s w (p + spanAt digB s p) (l ++ [⟨3, ⟨#[]⟩, n, last == ((lineAt s p : Nat) : Int), posA s p⟩]) w'
set_option maxRecDepth 100000 in
set_option maxHeartbeats 1000000 in
theorem int_any (base T bl bc : Nat) (s : ByteArray) (p : Nat) (v : Value) (l : List TokL) (last : Int) (w : World) (h : Sc w base T bl bc 0 s p v l last) (hl : l.length ≤ 900000) (hd : 0 < spanAt digB s p) (R : Option Nat) (hR : R = numAt s p) :
    Calls Tryz.prog 83 #[.pointer (some ⟨bl, 0, none⟩)] w (IntPost base T bl bc s p l last w R) := by
  have hle := spanAt_le digB s p h.hp
  obtain ⟨k, hk⟩ : ∃ k, k = spanAt digB s p := ⟨_, rfl⟩
  have HWH : Hid (∀ W, CurB W bc s p → Calls Tryz.prog 41 #[.pointer (some ⟨bc, 0, none⟩), .string ⟨#[48, 49, 50, 51, 52, 53, 54, 55, 56, 57]⟩] W fun e w' => e = .returned (.string (s.extract p (p + k))) ∧ CurB w' bc s (p + k) ∧ Keep (· = bc) W w') := by
    intro W hc
    have := while_any bc s ⟨#[48, 49, 50, 51, 52, 53, 54, 55, 56, 57]⟩ p W hc h.hs h.hp
    rw [inTen, ← hk] at this
    exact this
  have HNM : Hid (∀ W, Calls Tryz.prog 118 #[.string (s.extract p (p + k))] W fun e w' => e = .returned (.tuple #[.int .i64 (numRes R).1, .int .i64 (numRes R).2]) ∧ Keep (fun _ => False) W w') := by
    intro W
    have hsz : (s.extract p (p + k)).size = k := by rw [ByteArray.size_extract]; omega
    have := number_any (s.extract p (p + k)) W (by rw [hsz]; have := h.hs; omega) (by rw [hsz]; omega) (by rw [hk]; exact spanDig s p)
    rw [hR]; unfold numAt; rw [← hk]; exact this
  rw [← hk] at hle hd
  have HKK := Lib.hid hk
  clear hR hk
  have c0 := h.b.c0
  have HPS : Hid (∀ W, Keep (fun _ => False) w W → Calls Tryz.prog 42 #[.pointer (some ⟨bc, 0, none⟩)] W fun e w' => e = .returned (.agg #[.int .i64 p, .int .i64 (lineAt s p), .int .i64 (colAt s p)]) ∧ Keep (fun _ => False) W w') := fun W hk => h.pos hk
  have hu26 := Tryz.underlying28
  have hu38 := Tryz.underlying50
  go_enter Tryz.func83, Tryz.ntmps83
  go_wp2_with fail
  refine (HPS.out _ (Keep.refl _ _)).mono ?_
  rintro e1 w1 ⟨rfl, hk1⟩
  have c01 := hk1.cell c0 (fun h => h)
  have c0W : (w1.alloc (.cells #[.int .i64 p, .int .i64 (lineAt s p), .int .i64 (colAt s p)] 28)).cell? ⟨bl, 0, none⟩ = some (.pointer (some ⟨bc, 0, none⟩)) := ((Keep.refl (fun _ => False) w1).alloc _).cell c01 (fun h => h)
  obtain ⟨W, hW⟩ : ∃ W, W = w1.alloc (.cells #[.int .i64 p, .int .i64 (lineAt s p), .int .i64 (colAt s p)] 28) := ⟨_, rfl⟩
  have hKW : Keep (fun _ => False) w W := by rw [hW]; exact hk1.alloc _
  have hBW : Blk W w1.heap.size #[.int .i64 p, .int .i64 (lineAt s p), .int .i64 (colAt s p)] 28 := by rw [hW]; exact Blk.new _ _ _
  have hSW := h.grow hKW
  have hcW := hSW.b.c0
  have hne : w1.heap.size ≠ bc := by have := Blk.lt h.c; have := hk1.size; omega
  have HWQ := Lib.hid hW
  clear hW
  go_wp2_with fail
  rw [← HWQ.out]
  refine (HWH.out _ hSW.c).mono ?_
  rintro e7 w7 ⟨rfl, hc7, hk7⟩
  have hne2 := ownsRow_ne hSW.o hSW.c (by decide)
  have hS7 : Sc w7 base T bl bc 0 s (p + k) v l last := ⟨hk7.blk hSW.b h.ne, hc7, ownsRow_keep hSW.o hk7 hne2, h.ne, h.hbl, h.hbc, h.T1, h.T2, h.hs, hle, h.hl, h.hlast⟩
  have hB7 := hk7.blk hBW hne
  go_wp2_with fail
  refine (HNM.out _).mono ?_
  rintro e8 w8 ⟨rfl, hk8⟩
  have hS8 := hS7.grow hk8
  have hBX := hk8.blk hB7 (fun h => h)
  have d0 := hBX.at_ 0 (v := .int .i64 p) rfl
  have d1 := hBX.at_ 1 (v := .int .i64 (lineAt s p)) rfl
  have d2 := hBX.at_ 2 (v := .int .i64 (colAt s p)) rfl
  have hbel : Below base w w8 := ((hKW.belowB h.base_le).trans (hk7.below (by have := h.base_le; have := hKW.size; omega) (fun k hk => by rw [hk]; exact h.hbc))).trans (hk8.belowB (by have := h.base_le; have := hKW.size; have := hk7.size; omega))
  have HBL := Lib.hid hbel
  have HKP : Hid (Keep (· = bc) w w8) := (((hKW.mono (fun _ _ h => h.elim)).trans hk7).trans (hk8.mono (fun _ _ h => h.elim)))
  clear hbel hk8 hk7 hB7 hc7 HWH HNM
  cases R with
  | none =>
    have t1 : ((6 : Int) == 0) = false := rfl
    unfold numRes
    go_wp2_with fail
    go_ret
    unfold IntPost
    exact ⟨rfl, HBL.out, fun _ => HKP.out, fun n hn => by cases hn⟩
  | some n =>
    have t1 : ((0 : Int) == 0) = true := rfl
    unfold numRes
    go_wp2_with fail
    refine (add_any base T bl bc 0 s (p + k) v l last _ hS8 hl 3 ⟨#[]⟩ n false 0 0 0 p (lineAt s p) (colAt s p)).mono ?_
    rintro e9 w9 ⟨rfl, hS9, hb9⟩
    have HS9 := Lib.hid hS9; clear hS9
    go_wp2_with fail
    go_ret
    unfold IntPost
    rw [← HKK.out]
    exact ⟨rfl, HBL.out.trans hb9, (fun h0 => by cases h0), fun m hm => by injection hm with hm; subst hm; exact ⟨HS9.out, HBL.out.trans hb9⟩⟩

set_option maxHeartbeats 1000000 in
theorem scanNew_any (s : ByteArray) (w : World) :
    Calls Tryz.prog 40 #[.int .i64 0, .string s] w fun e w' => ∃ bc, w.heap.size ≤ bc ∧ e = .returned (.agg #[.pointer (some ⟨bc, 0, none⟩), .int .i64 0, .string s, .slice none 0 0, .int .i64 (-1)]) ∧ CurB w' bc s 0 ∧ Keep (fun _ => False) w w' := by
  have hu46 := Tryz.underlying88
  go_enter Tryz.func40, Tryz.ntmps40
  go_wp2_with fail
  refine (new_any s _).mono ?_
  rintro e1 w1 ⟨rfl, hw1⟩
  have hc : CurB w1 (w.heap.size + 1) s 0 := by
    rw [hw1]
    have e1 : lineAt s 0 = 0 := rfl
    have e2 : colAt s 0 = 0 := rfl
    unfold CurB
    rw [e1, e2]
    exact Blk.new2 w _ _
  have hk : Keep (fun _ => False) w w1 := by rw [hw1]; exact ((Keep.refl _ w).alloc _).alloc _
  have hb : Blk w1 w.heap.size #[.pointer none, .int .i64 0, .string ⟨#[]⟩, .slice none 0 0, .int .i64 0] 88 := by
    rw [hw1]; exact (Blk.new w _ _).alloc _
  have HB := Lib.hid hb
  have HC := Lib.hid hc
  have HK := Lib.hid hk
  have g0 := hb.at_ 0 (v := .pointer none) rfl
  have g1 := hb.at_ 1 (v := .int .i64 0) rfl
  have g2 := hb.at_ 2 (v := .string ⟨#[]⟩) rfl
  have g3 := hb.at_ 3 (v := .slice none 0 0) rfl
  have g4 := hb.at_ 4 (v := .int .i64 0) rfl
  have f0 := hb.free 0
  have f1 := hb.free 1
  have f2 := hb.free 2
  have f3 := hb.free 3
  have f4 := hb.free 4
  clear hb hc hk hw1
  go_wp2_with fail
  have q0 := (HB.out.set 0 (.pointer (some ⟨w.heap.size + 1, 0, none⟩))).at_ 0 (v := .pointer (some ⟨w.heap.size + 1, 0, none⟩)) (by simp)
  have q1 := ((HB.out.set 0 (.pointer (some ⟨w.heap.size + 1, 0, none⟩))).set 1 (.int .i64 0)).at_ 1 (v := .int .i64 0) (by simp)
  have q2 := (((HB.out.set 0 (.pointer (some ⟨w.heap.size + 1, 0, none⟩))).set 1 (.int .i64 0)).set 2 (.string s)).at_ 2 (v := .string s) (by simp)
  have q3 := ((((HB.out.set 0 (.pointer (some ⟨w.heap.size + 1, 0, none⟩))).set 1 (.int .i64 0)).set 2 (.string s)).set 3 (.slice none 0 0)).at_ 3 (v := .slice none 0 0) (by simp)
  have q4 := (((((HB.out.set 0 (.pointer (some ⟨w.heap.size + 1, 0, none⟩))).set 1 (.int .i64 0)).set 2 (.string s)).set 3 (.slice none 0 0)).set 4 (.int .i64 (-1))).at_ 4 (v := .int .i64 (-1)) (by simp)
  refine bodyPost_ret (v := .agg #[.pointer (some ⟨w.heap.size + 1, 0, none⟩), .int .i64 0, .string s, .slice none 0 0, .int .i64 (-1)]) (by simp [results, Tryz.results40, go_sem, q0, q1, q2, q3, q4]) rfl ⟨w.heap.size + 1, by omega, rfl, ?_, ?_⟩
  · exact ((((Blk.far HC.out (by simp) _).far (by simp) _).far (by simp) _).far (by simp) _).far (by simp) _
  · have hs := HK.out.size
    exact (((((HK.out.setCell (by intro h; simp at h) _).setCell (by intro h; simp at h) _).setCell (by intro h; simp at h) _).setCell (by intro h; simp at h) _).setCell (by intro h; simp at h) _)

end Go.Proofs.YtgmmjhelcpgakaaGreatDoor
