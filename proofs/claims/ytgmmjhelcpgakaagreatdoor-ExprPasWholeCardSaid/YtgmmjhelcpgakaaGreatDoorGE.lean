/- Package scan: Note, Word, Int, Char, New. -/
import Derived.Test.YtgmmjhelcpgakaaGreatDoorGD
import Derived.Test.YtgmmjhelcpgakaaGreatDoorGC
namespace Go.Proofs.YtgmmjhelcpgakaaGreatDoor
open Go.RowKit
set_option linter.unusedVariables false
set_option linter.unusedSimpArgs false

theorem noteGo_used : ∀ (l out : Bs) (i : Nat) (t : Bs) (u : Nat), noteGo l out i = (t, u, 0) → i < u ∧ u ≤ i + l.length
  | [], out, i, t, u, h => by rw [noteGo_nil] at h; simp at h
  | c :: l, out, i, t, u, h => by
    by_cases c1 : c = 125
    · subst c1; rw [noteGo_end] at h; simp at h; obtain ⟨_, rfl⟩ := h; simp
    by_cases c2 : c = 92
    · subst c2
      match l, h with
      | [], h => rw [noteGo_bs0] at h; simp at h
      | d :: l', h =>
        by_cases c3 : d = 92 ∨ d = 125
        · by_cases ho : out.length = 1024
          · rw [noteGo_bs_full _ _ _ _ c3 ho] at h; simp at h
          · rw [noteGo_bs _ _ _ _ c3 ho] at h
            have := noteGo_used l' _ _ t u h
            simp only [List.length_cons]; omega
        · rw [noteGo_bs_bad _ _ _ _ c3] at h; simp at h
    by_cases hr : rightB c = true
    · by_cases ho : out.length = 1024
      · rw [noteGo_full _ _ _ _ c1 c2 hr ho] at h; simp at h
      · rw [noteGo_go _ _ _ _ c1 c2 hr ho] at h
        have := noteGo_used l _ _ t u h
        simp only [List.length_cons]; omega
    · rw [noteGo_bad _ _ _ _ c1 c2 (by simpa using hr)] at h; simp at h
theorem noteRead_used (l t : Bs) (u : Nat) (h : noteRead l = (t, u, 0)) : 0 < u ∧ u ≤ l.length := by
  unfold noteRead at h
  by_cases hb : noteBegins l = true
  · rw [if_pos hb] at h
    have := noteGo_used _ _ _ _ _ h
    rw [List.length_drop] at this
    have h1 : l.length ≠ 0 := by
      intro h0; have := List.eq_nil_of_length_eq_zero h0; subst this; simp [noteBegins] at hb
    omega
  · rw [if_neg hb] at h; simp at h

theorem Sc.rest {w : World} {base T bl bc : Nat} {d : Int} {s : ByteArray} {p : Nat} {v : Value} {l : List TokL} {last : Int} (h : Sc w base T bl bc d s p v l last) {W : World} (hk : Keep (fun _ => False) w W) :
    Calls Tryz.prog 80 #[.pointer (some ⟨bl, 0, none⟩)] W fun e w' => e = .returned (.string (s.extract p s.size)) ∧ Keep (fun _ => False) W w' :=
  rest_any T bl bc d s v last p W (hk.blk h.b (fun h => h)) (hk.blk h.c (fun h => h)) h.hs h.hp
theorem Sc.grow {w w' : World} {base T bl bc : Nat} {d : Int} {s : ByteArray} {p : Nat} {v : Value} {l : List TokL} {last : Int} (h : Sc w base T bl bc d s p v l last) (hk : Keep (fun _ => False) w w') : Sc w' base T bl bc d s p v l last :=
  h.keep hk (fun _ h => h.elim)
theorem Keep.belowB {w w' : World} {base : Nat} (h : Keep (fun _ => False) w w') (hb : base ≤ w.heap.size) : Below base w w' := h.below hb (fun _ h => h.elim)
theorem Sc.base_le {w : World} {base T bl bc : Nat} {d : Int} {s : ByteArray} {p : Nat} {v : Value} {l : List TokL} {last : Int} (h : Sc w base T bl bc d s p v l last) : base ≤ w.heap.size := by
  have := Blk.lt h.b; have := h.hbl; omega

/-- No comment stands here. -/
theorem note_no (base T bl bc : Nat) (s : ByteArray) (p : Nat) (v : Value) (l : List TokL) (last : Int) (w : World) (h : Sc w base T bl bc 0 s p v l last) (hb : noteBegins ((bs s).drop p) = false) :
    Calls Tryz.prog 45 #[.pointer (some ⟨bl, 0, none⟩)] w fun e w' => e = .returned (.tuple #[.bool false, .int .i64 0]) ∧ Keep (fun _ => False) w w' := by
  have c1 := h.b.c1
  have HRS : Hid (∀ W, Keep (fun _ => False) w W → Calls Tryz.prog 80 #[.pointer (some ⟨bl, 0, none⟩)] W fun e w' => e = .returned (.string (s.extract p s.size)) ∧ Keep (fun _ => False) W w') := fun W hk => h.rest hk
  have HBG : Hid (∀ W, Calls Tryz.prog 79 #[.int .i64 0, .string (s.extract p s.size)] W fun e w' => e = .returned (.bool false) ∧ Keep (fun _ => False) W w') := by
    intro W
    have := begins_any (s.extract p s.size) W
    rw [bs_tail, hb] at this
    exact this
  go_enter Tryz.func45, Tryz.ntmps45
  go_wp2_with fail
  have c1d : w.drew.cell? ⟨bl, 1, none⟩ = some (.int .i64 0) := c1
  go_region_held3 (fun w' => w'.cell? ⟨bl, 1, none⟩ = some (.int .i64 0))
    (first | exact hk2.cell (hk1.cell c1d (fun h => h)) (fun h => h) | exact hk1.cell c1d (fun h => h) | go_keep)
    (first | (go_at_call 80; refine (HRS.out _ ((Keep.refl _ w).drew)).mono ?_; rintro e w1 ⟨rfl, hk1⟩) | (go_at_call 79; refine (HBG.out _).mono ?_; rintro e w2 ⟨rfl, hk2⟩))
  go_wp2_with fail
  go_ret2
  exact ⟨rfl, ((Keep.refl _ w).drew.trans hk1).trans hk2⟩

def posA (s : ByteArray) (p : Nat) : Nat × Nat × Nat := (p, lineAt s p, colAt s p)
theorem Sc.pos {w : World} {base T bl bc : Nat} {d : Int} {s : ByteArray} {p : Nat} {v : Value} {l : List TokL} {last : Int} (h : Sc w base T bl bc d s p v l last) {W : World} (hk : Keep (fun _ => False) w W) :
    Calls Tryz.prog 42 #[.pointer (some ⟨bc, 0, none⟩)] W fun e w' => e = .returned (.agg #[.int .i64 p, .int .i64 (lineAt s p), .int .i64 (colAt s p)]) ∧ Keep (fun _ => False) W w' :=
  pos_any bc s p W (hk.blk h.c (fun h => h))
theorem Sc.skip {w : World} {base T bl bc : Nat} {d : Int} {s : ByteArray} {p : Nat} {v : Value} {l : List TokL} {last : Int} (h : Sc w base T bl bc d s p v l last) (n : Nat) (hn : p + n ≤ s.size) :
    Calls Tryz.prog 78 #[.pointer (some ⟨bc, 0, none⟩), .int .i64 n] w fun e w' => e = .returned (.int .i64 n) ∧ Sc w' base T bl bc d s (p + n) v l last ∧ Keep (· = bc) w w' := by
  refine (skip_any bc s p n w h.c h.hs hn).mono ?_
  rintro e w' ⟨rfl, hc, hk⟩
  have hne2 := ownsRow_ne h.o h.c (by decide)
  exact ⟨rfl, ⟨hk.blk h.b h.ne, hc, ownsRow_keep h.o hk hne2, h.ne, h.hbl, h.hbc, h.T1, h.T2, h.hs, hn, h.hl, h.hlast⟩, hk⟩

/-- What a scanner's call does that lays one token. -/
def Lays1 (base T bl bc : Nat) (s : ByteArray) (w : World) (q : Nat) (l : List TokL) (w' : World) : Prop :=
  (∃ v', Sc w' base T bl bc 0 s q v' l (lineAt s q)) ∧ Below base w w'

set_option maxRecDepth 100000 in
set_option maxHeartbeats 1000000 in
/-- A comment stands here that isn't right. -/
theorem note_err (base T bl bc : Nat) (s : ByteArray) (p : Nat) (v : Value) (l : List TokL) (last : Int) (w : World) (h : Sc w base T bl bc 0 s p v l last) (hb : noteBegins ((bs s).drop p) = true) (t : Bs) (u e : Nat) (hr : noteRead ((bs s).drop p) = (t, u, e)) (he : e ≠ 0) :
    Calls Tryz.prog 45 #[.pointer (some ⟨bl, 0, none⟩)] w fun e' w' => e' = .returned (.tuple #[.bool true, .int .i64 e]) ∧ Keep (fun _ => False) w w' := by
  have c1 := h.b.c1
  have c0 := h.b.c0
  have HRS : Hid (∀ W, Keep (fun _ => False) w W → Calls Tryz.prog 80 #[.pointer (some ⟨bl, 0, none⟩)] W fun e w' => e = .returned (.string (s.extract p s.size)) ∧ Keep (fun _ => False) W w') := fun W hk => h.rest hk
  have HPS : Hid (∀ W, Keep (fun _ => False) w W → Calls Tryz.prog 42 #[.pointer (some ⟨bc, 0, none⟩)] W fun e w' => e = .returned (.agg #[.int .i64 p, .int .i64 (lineAt s p), .int .i64 (colAt s p)]) ∧ Keep (fun _ => False) W w') := fun W hk => h.pos hk
  have HBG : Hid (∀ W, Calls Tryz.prog 79 #[.int .i64 0, .string (s.extract p s.size)] W fun e w' => e = .returned (.bool true) ∧ Keep (fun _ => False) W w') := by
    intro W
    have := begins_any (s.extract p s.size) W
    rw [bs_tail, hb] at this
    exact this
  have HRD : Hid (∀ W, Calls Tryz.prog 81 #[.int .i64 0, .string (s.extract p s.size)] W fun e' w' => e' = .returned (.tuple #[.string ⟨t.toArray⟩, .int .i64 u, .int .i64 e]) ∧ Keep (fun _ => False) W w') := by
    intro W
    have := noteRead_any (s.extract p s.size) W (by have := h.hs; simp [ByteArray.size_extract]; omega)
    rw [bs_tail, hr] at this
    exact this
  have te : ((e : Int) != 0) = true := by rw [bne_iff_ne]; omega
  clear hb hr he
  go_enter Tryz.func45, Tryz.ntmps45
  go_wp2_with fail
  have c1d : w.drew.cell? ⟨bl, 1, none⟩ = some (.int .i64 0) := c1
  go_region_held3 (fun w' => w'.cell? ⟨bl, 1, none⟩ = some (.int .i64 0))
    (first | exact hk2.cell (hk1.cell c1d (fun h => h)) (fun h => h) | exact hk1.cell c1d (fun h => h) | go_keep)
    (first | (go_at_call 80; refine (HRS.out _ ((Keep.refl _ w).drew)).mono ?_; rintro e w1 ⟨rfl, hk1⟩) | (go_at_call 79; refine (HBG.out _).mono ?_; rintro e w2 ⟨rfl, hk2⟩))
  have hK2 : Keep (fun _ => False) w w2 := ((Keep.refl _ w).drew.trans hk1).trans hk2
  have c02 := hK2.cell c0 (fun h => h)
  have c12 := hK2.cell c1 (fun h => h)
  clear hk1 hk2 c1d c0 c1
  go_wp2_with fail
  refine (HPS.out _ hK2).mono ?_
  rintro e3 w3 ⟨rfl, hk3⟩
  have hK3 := hK2.trans hk3
  have c13 := hk3.cell c12 (fun h => h)
  have hlt3 : bl < w3.heap.size := by have := Blk.lt h.b; have := hK3.size; omega
  have nbl : bl ≠ w3.heap.size := by omega
  have hu26 := Tryz.underlying28
  go_wp2_with fail
  obtain ⟨W4, hW4⟩ : ∃ W, W = w3.alloc (.cells #[.int .i64 p, .int .i64 (lineAt s p), .int .i64 (colAt s p)] 28) := ⟨_, rfl⟩
  have hK4 : Keep (fun _ => False) w W4 := by rw [hW4]; exact hK3.alloc _
  have hB4 : Blk W4 w3.heap.size #[.int .i64 p, .int .i64 (lineAt s p), .int .i64 (colAt s p)] 28 := by rw [hW4]; exact Blk.new _ _ _
  rw [← hW4]
  clear hW4 c13 hlt3 nbl hk3 c02 c12
  have c14 : W4.drew.cell? ⟨bl, 1, none⟩ = some (.int .i64 0) := hK4.cell h.b.c1 (fun h => h)
  go_region_held3 (fun w' => w'.cell? ⟨bl, 1, none⟩ = some (.int .i64 0))
    (first | exact hk6.cell (hk5.cell c14 (fun h => h)) (fun h => h) | exact hk5.cell c14 (fun h => h) | go_keep)
    (first | (go_at_call 80; refine (HRS.out _ (hK4.drew)).mono ?_; rintro e w5 ⟨rfl, hk5⟩) | (go_at_call 81; refine (HRD.out _).mono ?_; rintro e w6 ⟨rfl, hk6⟩))
  go_wp2_with fail
  go_ret2
  exact ⟨rfl, (hK4.drew.trans hk5).trans hk6⟩
set_option maxRecDepth 100000 in
set_option maxHeartbeats 1000000 in
/-- A comment stands here. -/
theorem note_ok (base T bl bc : Nat) (s : ByteArray) (p : Nat) (v : Value) (l : List TokL) (last : Int) (w : World) (h : Sc w base T bl bc 0 s p v l last) (hb : noteBegins ((bs s).drop p) = true) (t : Bs) (u : Nat) (hr : noteRead ((bs s).drop p) = (t, u, 0)) (hl : l.length ≤ 900000) :
    Calls Tryz.prog 45 #[.pointer (some ⟨bl, 0, none⟩)] w fun e' w' => e' = .returned (.tuple #[.bool true, .int .i64 0]) ∧ Lays1 base T bl bc s w (p + u) (l ++ [⟨6, ⟨t.toArray⟩, 0, last == ((lineAt s p : Nat) : Int), posA s p⟩]) w' := by
  have c1 := h.b.c1
  have c0 := h.b.c0
  have HRS : Hid (∀ W, Keep (fun _ => False) w W → Calls Tryz.prog 80 #[.pointer (some ⟨bl, 0, none⟩)] W fun e w' => e = .returned (.string (s.extract p s.size)) ∧ Keep (fun _ => False) W w') := fun W hk => h.rest hk
  have HPS : Hid (∀ W, Keep (fun _ => False) w W → Calls Tryz.prog 42 #[.pointer (some ⟨bc, 0, none⟩)] W fun e w' => e = .returned (.agg #[.int .i64 p, .int .i64 (lineAt s p), .int .i64 (colAt s p)]) ∧ Keep (fun _ => False) W w') := fun W hk => h.pos hk
  have HBG : Hid (∀ W, Calls Tryz.prog 79 #[.int .i64 0, .string (s.extract p s.size)] W fun e w' => e = .returned (.bool true) ∧ Keep (fun _ => False) W w') := by
    intro W
    have := begins_any (s.extract p s.size) W
    rw [bs_tail, hb] at this
    exact this
  have HRD : Hid (∀ W, Calls Tryz.prog 81 #[.int .i64 0, .string (s.extract p s.size)] W fun e' w' => e' = .returned (.tuple #[.string ⟨t.toArray⟩, .int .i64 u, .int .i64 0]) ∧ Keep (fun _ => False) W w') := by
    intro W
    have := noteRead_any (s.extract p s.size) W (by have := h.hs; simp [ByteArray.size_extract]; omega)
    rw [bs_tail, hr] at this
    exact this
  have hu : p + u ≤ s.size := by
    have h1 := (noteRead_used _ _ _ hr).2
    rw [List.length_drop, bs_len] at h1
    have h2 := (noteRead_used _ _ _ hr).1
    omega
  clear hb hr
  go_enter Tryz.func45, Tryz.ntmps45
  go_wp2_with fail
  have c1d : w.drew.cell? ⟨bl, 1, none⟩ = some (.int .i64 0) := c1
  go_region_held3 (fun w' => w'.cell? ⟨bl, 1, none⟩ = some (.int .i64 0))
    (first | exact hk2.cell (hk1.cell c1d (fun h => h)) (fun h => h) | exact hk1.cell c1d (fun h => h) | go_keep)
    (first | (go_at_call 80; refine (HRS.out _ ((Keep.refl _ w).drew)).mono ?_; rintro e w1 ⟨rfl, hk1⟩) | (go_at_call 79; refine (HBG.out _).mono ?_; rintro e w2 ⟨rfl, hk2⟩))
  have hK2 : Keep (fun _ => False) w w2 := ((Keep.refl _ w).drew.trans hk1).trans hk2
  have c02 := hK2.cell c0 (fun h => h)
  have c12 := hK2.cell c1 (fun h => h)
  clear hk1 hk2 c1d c0 c1
  go_wp2_with fail
  refine (HPS.out _ hK2).mono ?_
  rintro e3 w3 ⟨rfl, hk3⟩
  have hK3 := hK2.trans hk3
  have c13 := hk3.cell c12 (fun h => h)
  have hlt3 : bl < w3.heap.size := by have := Blk.lt h.b; have := hK3.size; omega
  have nbl : bl ≠ w3.heap.size := by omega
  have hu26 := Tryz.underlying28
  go_wp2_with fail
  obtain ⟨W4, hW4⟩ : ∃ W, W = w3.alloc (.cells #[.int .i64 p, .int .i64 (lineAt s p), .int .i64 (colAt s p)] 28) := ⟨_, rfl⟩
  have hK4 : Keep (fun _ => False) w W4 := by rw [hW4]; exact hK3.alloc _
  have hB4 : Blk W4 w3.heap.size #[.int .i64 p, .int .i64 (lineAt s p), .int .i64 (colAt s p)] 28 := by rw [hW4]; exact Blk.new _ _ _
  rw [← hW4]
  clear hW4 c13 hlt3 nbl hk3 c02 c12
  have c14 : W4.drew.cell? ⟨bl, 1, none⟩ = some (.int .i64 0) := hK4.cell h.b.c1 (fun h => h)
  go_region_held3 (fun w' => w'.cell? ⟨bl, 1, none⟩ = some (.int .i64 0))
    (first | exact hk6.cell (hk5.cell c14 (fun h => h)) (fun h => h) | exact hk5.cell c14 (fun h => h) | go_keep)
    (first | (go_at_call 80; refine (HRS.out _ (hK4.drew)).mono ?_; rintro e w5 ⟨rfl, hk5⟩) | (go_at_call 81; refine (HRD.out _).mono ?_; rintro e w6 ⟨rfl, hk6⟩))
  have hK6 := (hK4.drew.trans hk5).trans hk6
  have hS6 := h.grow hK6
  have c06 := hS6.b.c0
  have hB6 : Blk w6 w3.heap.size #[.int .i64 p, .int .i64 (lineAt s p), .int .i64 (colAt s p)] 28 := (hk5.trans hk6).blk (Blk.drewN hB4 1) (fun h => h)
  clear hk5 hk6 c14 hB4 HRS HPS HBG HRD
  go_wp2_with fail
  refine (hS6.skip u hu).mono ?_
  rintro e7 w7 ⟨rfl, hS7, hk7⟩
  have hB7 : Blk w7 w3.heap.size #[.int .i64 p, .int .i64 (lineAt s p), .int .i64 (colAt s p)] 28 := hk7.blk hB6 (by intro e; have h1 := Blk.lt h.c; have h2 := hK3.size; omega)
  have d0 := hB7.at_ 0 (v := .int .i64 p) rfl
  have d1 := hB7.at_ 1 (v := .int .i64 (lineAt s p)) rfl
  have d2 := hB7.at_ 2 (v := .int .i64 (colAt s p)) rfl
  have hu38 := Tryz.underlying50
  go_wp2_with fail
  refine (add_any base T bl bc 0 s (p + u) v l last _ hS7 hl 6 ⟨t.toArray⟩ 0 false 0 0 0 p (lineAt s p) (colAt s p)).mono ?_
  rintro e8 w8 ⟨rfl, hS8, hb8⟩
  have HS8 := Lib.hid hS8; clear hS8
  go_wp2_with fail
  go_ret2
  exact ⟨rfl, HS8.out, ((hK6.belowB h.base_le).trans (hk7.below (by have := h.base_le; have := hK6.size; omega) (fun k hk => by rw [hk]; exact h.hbc))).trans hb8⟩

end Go.Proofs.YtgmmjhelcpgakaaGreatDoor
