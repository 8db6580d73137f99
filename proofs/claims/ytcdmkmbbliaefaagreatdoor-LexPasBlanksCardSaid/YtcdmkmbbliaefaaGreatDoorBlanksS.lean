/- Tokens' own texts, with blanks between them, are these tokens again: the plain law. -/
import Derived.Test.YtcdmkmbbliaefaaGreatDoorBareS
import Derived.Test.YtcdmkmbbliaefaaGreatDoorGreatS
namespace Go.Proofs.YtcdmkmbbliaefaaGreatDoor
open Go.RowKit
set_option linter.unusedVariables false
set_option linter.unusedSimpArgs false

theorem blank_not (b : UInt8) (h : blankB b = true) : nameB b = false ∧ digB b = false ∧ ([39, 39, 39, 39] : Bs).contains b = false ∧ (pasSigns.all fun g => !g.contains b) = true := by
  have h1 := all_u8 (p := fun b => !blankB b || (!nameB b && !digB b && !([39, 39, 39, 39] : Bs).contains b && (pasSigns.all fun g => !g.contains b))) (by decide +kernel) b
  rw [h] at h1
  simp only [Bool.not_true, Bool.false_or, Bool.and_eq_true, Bool.not_eq_true'] at h1
  exact ⟨h1.1.1.1, h1.1.1.2, h1.1.2, h1.2⟩
theorem span_extb (z0 : UInt8) (f : UInt8 → Bool) (h : f z0 = false) (m : Bs) : ∀ l : Bs, spanLen f (l ++ z0 :: m) = spanLen f l
  | [] => by unfold spanLen; rw [List.nil_append, List.takeWhile_cons_of_neg (by simp [h])]; rfl
  | a :: l => by
    have ih := span_extb z0 f h m l
    unfold spanLen at *
    by_cases ha : f a = true
    · rw [List.cons_append, List.takeWhile_cons_of_pos ha, List.takeWhile_cons_of_pos ha, List.length_cons, List.length_cons, ih]
    · rw [List.cons_append, List.takeWhile_cons_of_neg ha, List.takeWhile_cons_of_neg ha]
theorem prefix_extb (z0 : UInt8) (m : Bs) : ∀ (g l : Bs), g.contains z0 = false → g.isPrefixOf (l ++ z0 :: m) = g.isPrefixOf l
  | [], l, _ => by simp [List.isPrefixOf]
  | a :: g, [], h => by
    have ha : (a == z0) = false := by
      rw [List.contains_cons] at h
      simp only [Bool.or_eq_false_iff] at h
      rw [beq_eq_false_iff_ne]
      intro e; subst e; simp at h
    simp [List.isPrefixOf, ha]
  | a :: g, b :: l, h => by
    rw [List.contains_cons] at h
    simp only [Bool.or_eq_false_iff] at h
    rw [List.cons_append, List.isPrefixOf, List.isPrefixOf, prefix_extb z0 m g l h.2]
theorem find_extb (z0 : UInt8) (m l : Bs) : ∀ gs : List Bs, (∀ g ∈ gs, g.contains z0 = false) → gs.find? (fun g => g.isPrefixOf (l ++ z0 :: m)) = gs.find? (fun g => g.isPrefixOf l)
  | [], _ => rfl
  | g :: gs, h => by
    rw [List.find?_cons, List.find?_cons, prefix_extb z0 m g l (h g (by simp)), find_extb z0 m l gs (fun x hx => h x (by simp [hx]))]
theorem tokOf_extb (z0 : UInt8) (hb : blankB z0 = true) (l m : Bs) (hl : 0 < l.length) (h : (tokOf l).err = 0) : tokOf (l ++ z0 :: m) = tokOf l := by
  match l, hl with
  | c :: r, hl =>
    have hnb : noteBegins ((c :: r) ++ z0 :: m) = noteBegins (c :: r) := rfl
    unfold tokOf at *
    rw [hnb]
    by_cases h1 : noteBegins (c :: r) = true
    · rw [if_pos h1] at h ⊢
      rw [if_pos h1]
      have e0 : noteRead (c :: r) = noteGo r [] 1 := by unfold noteRead; rw [if_pos h1]; rfl
      have e1 : noteRead ((c :: r) ++ z0 :: m) = noteGo (r ++ z0 :: m) [] 1 := by unfold noteRead; rw [hnb, if_pos h1]; rfl
      have hr : noteRead ((c :: r) ++ z0 :: m) = noteRead (c :: r) := by
        rw [e0, e1]
        by_cases h2 : (noteRead (c :: r)).2.2 = 0
        · rw [e0] at h2
          exact noteGo_ext (z0 :: m) r.length r [] 1 (Nat.le_refl _) h2
        · rw [if_neg h2] at h; exact absurd h h2
      rw [hr]
    · rw [if_neg h1] at h ⊢
      rw [if_neg h1]
      unfold tokPlain at *
      simp only [List.cons_append] at h ⊢
      by_cases h2 : letterB c = true
      · rw [if_pos h2] at h ⊢
        rw [if_pos h2]
        unfold tokName
        have e1 := span_extb z0 nameB (blank_not z0 hb).1 m (c :: r)
        rw [List.cons_append] at e1
        have e2 : (c :: (r ++ z0 :: m)).take (spanLen nameB (c :: r)) = (c :: r).take (spanLen nameB (c :: r)) := by
          rw [← List.cons_append, List.take_append_of_le_length (spanLen_le _ _)]
        rw [e1, e2]
      rw [if_neg h2] at h ⊢
      rw [if_neg h2]
      by_cases h3 : digB c = true
      · rw [if_pos h3] at h ⊢
        rw [if_pos h3]
        unfold tokInt
        have e1 := span_extb z0 digB (blank_not z0 hb).2.1 m (c :: r)
        rw [List.cons_append] at e1
        have e2 : (c :: (r ++ z0 :: m)).take (spanLen digB (c :: r)) = (c :: r).take (spanLen digB (c :: r)) := by
          rw [← List.cons_append, List.take_append_of_le_length (spanLen_le _ _)]
        rw [e1, e2]
      rw [if_neg h3] at h ⊢
      rw [if_neg h3]
      by_cases h4 : c = 39
      · rw [if_pos h4] at h ⊢
        rw [if_pos h4]
        unfold tokQuoted at *
        have e1 := prefix_extb z0 m [39, 39, 39, 39] (c :: r) (blank_not z0 hb).2.2.1
        rw [List.cons_append] at e1
        rw [e1]
        by_cases h5 : ([39, 39, 39, 39] : Bs).isPrefixOf (c :: r) = true
        · rw [if_pos h5, if_pos h5]
        · rw [if_neg h5] at h ⊢
          rw [if_neg h5]
          match r, h with
          | x :: y :: z, h => rfl
          | [], h => cases h
          | [_], h => cases h
      rw [if_neg h4] at h ⊢
      rw [if_neg h4]
      by_cases h5 : c = 35
      · rw [if_pos h5] at h ⊢
        rw [if_pos h5]
        unfold tokNumbered
        simp only [List.drop_succ_cons, List.drop_zero]
        rw [span_extb z0 digB (blank_not z0 hb).2.1 m r, List.take_append_of_le_length (spanLen_le _ _)]
      rw [if_neg h5] at h ⊢
      rw [if_neg h5]
      unfold tokSign signOf
      have e1 := find_extb z0 m (c :: r) pasSigns (fun g hg => by have := List.all_eq_true.1 (blank_not z0 hb).2.2.2 g hg; simpa using this)
      rw [List.cons_append] at e1
      rw [e1]

/-! ### texts of tokens -/
def digC (n : Nat) : UInt8 := UInt8.ofNat (48 + n)
def digL (n : Nat) : Bs := if n < 10 then [digC (n)] else digL (n / 10) ++ [digC (n % 10)]
termination_by n
decreasing_by omega
def charL (n : Nat) : Bs := if n = 39 then [39, 39, 39, 39] else if 32 ≤ n ∧ n ≤ 126 then [39, UInt8.ofNat n, 39] else 35 :: digL n
def escL : Bs → Bs
  | [] => []
  | c :: l => if c = 92 ∨ c = 125 then 92 :: c :: escL l else c :: escL l
def noteL (l : Bs) : Bs := 123 :: (escL l ++ [125])
def tokL (kind : Nat) (text : Bs) (n : Int) : Bs :=
  if kind = 1 ∨ kind = 2 ∨ kind = 5 then text else if kind = 3 then digL n.toNat else if kind = 4 then charL n.toNat else if kind = 6 then noteL text else []
theorem dig_of (n : Nat) (h : n < 10) : digB (digC (n)) = true ∧ (digC (n)).toNat = 48 + n := by
  have h2 : (digC n).toNat = 48 + n := by unfold digC; rw [UInt8.toNat_ofNat']; omega
  refine ⟨?_, h2⟩
  unfold digB; rw [h2]; simp; omega
theorem digL_all (n : Nat) : ∀ c ∈ digL n, digB c = true := by
  induction n using digL.induct with
  | case1 n h => unfold digL; rw [if_pos h]; intro c hc; rw [List.mem_singleton.1 hc]; exact (dig_of n h).1
  | case2 n h ih =>
    unfold digL; rw [if_neg h]; intro c hc
    rw [List.mem_append] at hc
    rcases hc with hc | hc
    · exact ih c hc
    · rw [List.mem_singleton.1 hc]; exact (dig_of (n % 10) (by omega)).1
theorem digL_ne (n : Nat) : 0 < (digL n).length := by
  unfold digL; split <;> simp
theorem numGo_app : ∀ (l m : Bs) (a : Nat), numGo a (l ++ m) = (numGo a l).bind fun x => numGo x m
  | [], m, a => rfl
  | c :: l, m, a => by
    rw [List.cons_append, numGo, numGo]
    split
    · rfl
    · exact numGo_app l m _
theorem numGo_digL (n : Nat) (hn : n ≤ 9223372036854775807) : numGo 0 (digL n) = some n := by
  induction n using digL.induct with
  | case1 n h =>
    unfold digL; rw [if_pos h, numGo, (dig_of n h).2, if_neg (by omega), numGo]; congr 1; omega
  | case2 n h ih =>
    unfold digL; rw [if_neg h, numGo_app, ih (by omega)]
    show numGo (n / 10) _ = _
    rw [numGo, (dig_of (n % 10) (by omega)).2, if_neg (by omega), numGo]; congr 1; omega
theorem numGo_max : ∀ (l : Bs) (a n : Nat), numGo a l = some n → a ≤ 9223372036854775807 → n ≤ 9223372036854775807
  | [], a, n, h, ha => by rw [numGo] at h; injection h with h; omega
  | c :: l, a, n, h, ha => by
    rw [numGo] at h
    split at h
    · cases h
    · exact numGo_max l _ n h (by omega)
/-- A number of k digits has k digits at most. -/
theorem numGo_lt : ∀ (l : Bs) (a n : Nat), (∀ c ∈ l, digB c = true) → numGo a l = some n → n < (a + 1) * 10 ^ l.length
  | [], a, n, _, h => by rw [numGo] at h; injection h with h; simp; omega
  | c :: l, a, n, hd, h => by
    rw [numGo] at h
    have hc : 48 ≤ c.toNat ∧ c.toNat ≤ 57 := by have := hd c (by simp); unfold digB at this; simpa using this
    split at h
    · cases h
    · have := numGo_lt l _ n (fun x hx => hd x (by simp [hx])) h
      rw [List.length_cons, Nat.pow_succ]
      have h2 : (10 * a + (c.toNat - 48) + 1) * 10 ^ l.length ≤ ((a + 1) * 10) * 10 ^ l.length := Nat.mul_le_mul_right _ (by omega)
      have h3 : ((a + 1) * 10) * 10 ^ l.length = (a + 1) * (10 ^ l.length * 10) := by rw [Nat.mul_assoc, Nat.mul_comm 10]
      omega
theorem digL_len (k n : Nat) (hk : 0 < k) (h : n < 10 ^ k) : (digL n).length ≤ k := by
  induction n using digL.induct generalizing k with
  | case1 n h1 => unfold digL; rw [if_pos h1]; simp; omega
  | case2 n h1 ih =>
    unfold digL; rw [if_neg h1, List.length_append, List.length_singleton]
    obtain ⟨m, rfl⟩ : ∃ m, k = m + 1 := ⟨k - 1, by omega⟩
    rw [Nat.pow_succ] at h
    have hm : 0 < m := by
      rcases Nat.eq_zero_or_pos m with h0 | h0
      · subst h0; simp at h; omega
      · exact h0
    have := ih m hm (by omega)
    omega
/-- A comment's form is read as the comment. -/
theorem noteGo_esc : ∀ (l out : Bs) (i : Nat), (∀ c ∈ l, rightB c = true) → out.length + l.length ≤ 1024 → noteGo (escL l ++ [125]) out i = (out ++ l, i + (escL l).length + 1, 0)
  | [], out, i, _, _ => by unfold escL; rw [List.nil_append, noteGo_end, List.append_nil]; rfl
  | c :: l, out, i, hr, hl => by
    simp only [List.length_cons] at hl
    have h1 := hr c (by simp)
    have h2 : ∀ d ∈ l, rightB d = true := fun d hd => hr d (by simp [hd])
    unfold escL
    by_cases hc : c = 92 ∨ c = 125
    · rw [if_pos hc, List.cons_append, List.cons_append, noteGo_bs _ _ _ _ hc (by omega), noteGo_esc l (out ++ [c]) (i + 2) h2 (by simp; omega)]
      simp; omega
    · rw [if_neg hc, List.cons_append, noteGo_go _ _ _ _ (fun h => hc (.inr h)) (fun h => hc (.inl h)) h1 (by omega), noteGo_esc l (out ++ [c]) (i + 1) h2 (by simp; omega)]
      simp; omega
/-- What is read of a comment is right, not too long, and its form is as long as what was read. -/
theorem noteGo_good : ∀ (n : Nat) (l out : Bs) (i : Nat) (T : Bs) (u : Nat), l.length ≤ n → noteGo l out i = (T, u, 0) → (∀ c ∈ out, rightB c = true) → out.length ≤ 1024 →
    ∃ m, T = out ++ m ∧ (∀ c ∈ T, rightB c = true) ∧ T.length ≤ 1024 ∧ u = i + (escL m).length + 1
  | n, [], out, i, T, u, _, h, _, _ => by rw [noteGo_nil] at h; cases h
  | 0, c :: l, out, i, T, u, hn, h, _, _ => by simp at hn
  | n + 1, c :: l, out, i, T, u, hn, h, hr, ho => by
    simp only [List.length_cons] at hn
    by_cases h1 : c = 125
    · subst h1; rw [noteGo_end] at h
      simp only [Prod.mk.injEq] at h
      obtain ⟨rfl, rfl, _⟩ := h
      exact ⟨[], by simp, hr, ho, by simp [escL]⟩
    by_cases h2 : c = 92
    · subst h2
      match l, hn, h with
      | [], hn, h => rw [noteGo_bs0] at h; cases h
      | d :: l', hn, h =>
        simp only [List.length_cons] at hn
        by_cases h3 : d = 92 ∨ d = 125
        · by_cases h4 : out.length = 1024
          · rw [noteGo_bs_full _ _ _ _ h3 h4] at h; cases h
          · rw [noteGo_bs _ _ _ _ h3 h4] at h
            have hd : rightB d = true := by rcases h3 with rfl | rfl <;> decide
            obtain ⟨m, e1, e2, e3, e4⟩ := noteGo_good n l' _ _ T u (by omega) h (fun c hc => by simp at hc; rcases hc with hc | rfl; exact hr c hc; exact hd) (by simp; omega)
            refine ⟨d :: m, by rw [e1]; simp, e2, e3, ?_⟩
            rw [e4, escL, if_pos h3]; simp; omega
        · rw [noteGo_bs_bad _ _ _ _ h3] at h; cases h
    · cases hrc : rightB c with
      | true =>
        by_cases h4 : out.length = 1024
        · rw [noteGo_full _ _ _ _ h1 h2 hrc h4] at h; cases h
        · rw [noteGo_go _ _ _ _ h1 h2 hrc h4] at h
          obtain ⟨m, e1, e2, e3, e4⟩ := noteGo_good n l _ _ T u (by omega) h (fun d hd => by simp at hd; rcases hd with hd | rfl; exact hr d hd; exact hrc) (by simp; omega)
          refine ⟨c :: m, by rw [e1]; simp, e2, e3, ?_⟩
          rw [e4, escL, if_neg (fun h => h.elim h2 h1)]; simp; omega
      | false => rw [noteGo_bad _ _ _ _ h1 h2 hrc] at h; cases h

/-- A token whose text is read as this token; and is not much longer than what it was read of. -/
structure TextOk (F : Fd) : Prop where
  read : tokOf (tokL F.kind F.text F.n) = ⟨0, F.kind, F.text, F.n, (tokL F.kind F.text F.n).length⟩
  pos : 0 < (tokL F.kind F.text F.n).length
  head : ∀ c r, tokL F.kind F.text F.n = c :: r → blankB c = false
  len : (tokL F.kind F.text F.n).length ≤ F.len + 1
theorem letter_blank {c : UInt8} (h : letterB c = true) : blankB c = false ∧ c ≠ 123 := by
  have h1 := all_u8 (p := fun c => !letterB c || (!blankB c && c != 123)) (by decide +kernel) c
  rw [h] at h1; simpa using h1
theorem dig_blank {c : UInt8} (h : digB c = true) : blankB c = false ∧ c ≠ 123 ∧ letterB c = false := by
  have h1 := all_u8 (p := fun c => !digB c || (!blankB c && c != 123 && !letterB c)) (by decide +kernel) c
  rw [h] at h1; simp at h1; exact ⟨h1.1.1, h1.1.2, h1.2⟩
theorem noteBegins_cons (c : UInt8) (r : Bs) (h : c ≠ 123) : noteBegins (c :: r) = false := by
  unfold noteBegins; simpa using h
theorem ok_name (c : UInt8) (r : Bs) (hc : letterB c = true) (h : (tokName (c :: r)).err = 0) : TextOk (tokName (c :: r)) := by
  have hg := tokName_good c r hc h
  unfold tokName at h
  have hlen : (tokName (c :: r)).len = (tokName (c :: r)).text.length := by
    unfold tokName
    by_cases h2 : spanLen nameB (c :: r) ≤ 32
    · rw [if_pos h2]; show spanLen nameB (c :: r) = (lowL _).length; unfold lowL Lib.toLowerA; rw [List.length_map, List.length_take]; have := spanLen_le nameB (c :: r); omega
    · rw [if_neg h2] at h; cases h
  have hn : (tokName (c :: r)).n = 0 ∧ (tokName (c :: r)).err = 0 := by
    unfold tokName
    by_cases h2 : spanLen nameB (c :: r) ≤ 32
    · rw [if_pos h2]; exact ⟨rfl, rfl⟩
    · rw [if_neg h2] at h; cases h
  generalize tokName (c :: r) = F at *
  obtain ⟨d, q, e1, e2⟩ := hg.head
  have hk : tokL F.kind F.text F.n = F.text := by
    unfold tokL; rw [if_pos]; rw [hg.kind]; split <;> simp
  have hle : letterB d = true := by unfold letterB; rw [e2]; rfl
  have hlow : lowL F.text = F.text := by
    unfold lowL Lib.toLowerA
    have : ∀ x ∈ F.text, Lib.lowerB x = x := fun x hx => by
      have h3 := all_u8 (p := fun c => greatB c || Lib.lowerB c == c) (by decide +kernel) x
      rw [(hg.all x hx).2] at h3; simpa using h3
    rw [List.map_congr_left this, List.map_id']
  have hsp : spanLen nameB F.text = F.text.length := span_all nameB _ (fun x hx => (hg.all x hx).1)
  refine ⟨?_, by rw [hk, e1]; simp, ?_, by rw [hk]; omega⟩
  · rw [hk]
    have h4 : tokOf F.text = tokName F.text := by
      rw [e1]; unfold tokOf
      rw [if_neg (by rw [noteBegins_cons d q (letter_blank hle).2]; decide)]
      unfold tokPlain; simp only; rw [if_pos hle]
    rw [h4]; unfold tokName
    rw [hsp, if_pos hg.len, List.take_length, hlow, hn.1, ← hg.kind]
  · intro x y hxy
    rw [hk, e1] at hxy
    injection hxy with hxy _
    subst hxy
    exact (letter_blank hle).1
theorem ok_digits (n : Nat) (hn : n ≤ 9223372036854775807) : tokOf (digL n) = ⟨0, 3, [], n, (digL n).length⟩ ∧ ∀ c r, digL n = c :: r → blankB c = false := by
  have h1 := digL_all n
  have h2 := digL_ne n
  have h3 := numGo_digL n hn
  generalize digL n = l at *
  match l, h2 with
  | c :: r, _ =>
    obtain ⟨d1, d2, d3⟩ := dig_blank (h1 c (by simp))
    refine ⟨?_, fun x y h => by injection h with h _; subst h; exact d1⟩
    unfold tokOf
    rw [if_neg (by rw [noteBegins_cons c r d2]; decide)]
    unfold tokPlain; simp only
    rw [if_neg (by rw [d3]; decide), if_pos (h1 c (by simp))]
    unfold tokInt
    rw [span_all digB _ h1, List.take_length, h3]
def fdEq (F G : Fd) : Bool := F.err == G.err && F.kind == G.kind && F.text == G.text && F.n == G.n && F.len == G.len
theorem fdEq_eq {F G : Fd} (h : fdEq F G = true) : F = G := by
  unfold fdEq at h
  simp only [Bool.and_eq_true, beq_iff_eq] at h
  obtain ⟨⟨⟨⟨h1, h2⟩, h3⟩, h4⟩, h5⟩ := h
  cases F; cases G; simp at h1 h2 h3 h4 h5 ⊢; exact ⟨h1, h2, h3, h4, h5⟩
def digF : Nat → Nat → Bs
  | 0, _ => []
  | f + 1, n => if n < 10 then [digC (n)] else digF f (n / 10) ++ [digC (n % 10)]
theorem digF_eq : ∀ (f n : Nat), 0 < f → n < 10 ^ f → digF f n = digL n
  | 0, n, h0, h => by omega
  | f + 1, n, h0, h => by
    unfold digF digL
    by_cases h1 : n < 10
    · rw [if_pos h1, if_pos h1]
    · rw [if_neg h1, if_neg h1, digF_eq f (n / 10) (by rcases Nat.eq_zero_or_pos f with h2 | h2; subst h2; simp at h; omega; exact h2) (by rw [Nat.pow_succ] at h; omega)]
def charF (n : Nat) : Bs := if n = 39 then [39, 39, 39, 39] else if 32 ≤ n ∧ n ≤ 126 then [39, UInt8.ofNat n, 39] else 35 :: digF 3 n
theorem charF_eq (n : Nat) (h : n < 256) : charF n = charL n := by unfold charF charL; rw [digF_eq 3 n (by omega) (by omega)]
def charOk (n : Nat) : Bool := fdEq (tokOf (charF n)) ⟨0, 4, [], n, (charF n).length⟩ && decide (0 < (charF n).length) && ((charF n).head?.all fun c => !blankB c)
set_option maxRecDepth 100000 in
theorem ok_chars : ((List.range 256).all charOk) = true := by decide +kernel
theorem ok_char (n : Nat) (h : n < 256) : tokOf (charL n) = ⟨0, 4, [], n, (charL n).length⟩ ∧ 0 < (charL n).length ∧ ((charL n).head?.all fun c => !blankB c) = true := by
  have h1 := List.all_eq_true.1 ok_chars n (List.mem_range.2 h)
  unfold charOk at h1
  rw [charF_eq n h] at h1
  simp only [Bool.and_eq_true, decide_eq_true_eq] at h1
  exact ⟨fdEq_eq h1.1.1, h1.1.2, h1.2⟩
theorem ok_signs : (pasSigns.all fun g => fdEq (tokOf g) ⟨0, 5, g, 0, g.length⟩ && decide (0 < g.length) && (g.head?.all fun c => !blankB c)) = true := by decide +kernel
theorem head_all {l : Bs} (h : (l.head?.all fun c => !blankB c) = true) : ∀ c r, l = c :: r → blankB c = false := by
  intro c r e; subst e; simpa using h
/-! ### each token of a text -/
theorem tokL_mk (F : Fd) (hr : tokOf (tokL F.kind F.text F.n) = ⟨0, F.kind, F.text, F.n, (tokL F.kind F.text F.n).length⟩) (hp : 0 < (tokL F.kind F.text F.n).length) (hh : ∀ c r, tokL F.kind F.text F.n = c :: r → blankB c = false) (hl : (tokL F.kind F.text F.n).length ≤ F.len + 1) : TextOk F := ⟨hr, hp, hh, hl⟩
theorem ok_charF (n len : Nat) (hn : n < 256) (hl : (charL n).length ≤ len + 1) : TextOk ⟨0, 4, [], n, len⟩ := by
  obtain ⟨h1, h2, h3⟩ := ok_char n hn
  exact ⟨h1, h2, head_all h3, hl⟩
theorem ok_quoted (l : Bs) (h : (tokQuoted l).err = 0) : TextOk (tokQuoted l) := by
  unfold tokQuoted at *
  by_cases h1 : ([39, 39, 39, 39] : Bs).isPrefixOf l = true
  · rw [if_pos h1]; exact ok_charF 39 4 (by decide) (by decide)
  · rw [if_neg h1] at *
    match l, h with
    | _ :: c :: d :: r, h =>
      simp only at h ⊢
      by_cases h2 : plainB c = true ∧ d = 39
      · rw [if_pos h2]
        refine ok_charF c.toNat 3 c.toNat_lt ?_
        have h3 := h2.1
        unfold plainB at h3
        simp only [Bool.and_eq_true, decide_eq_true_eq, bne_iff_ne, ne_eq] at h3
        have h4 : c.toNat ≠ 39 := fun e => h3.2 (UInt8.toNat_inj.1 e)
        unfold charL
        rw [if_neg h4, if_pos h3.1]; simp
      · rw [if_neg h2] at h; cases h
    | [], h => cases h
    | [_], h => cases h
    | [_, _], h => cases h
theorem span_digs (l : Bs) : ∀ c ∈ l.take (spanLen digB l), digB c = true := span_take digB l
theorem ok_numbered (l : Bs) (h : (tokNumbered l).err = 0) : TextOk (tokNumbered l) := by
  unfold tokNumbered at *
  by_cases h1 : spanLen digB (l.drop 1) = 0 ∨ 3 < spanLen digB (l.drop 1)
  · rw [if_pos h1] at h; cases h
  · rw [if_neg h1] at *
    have hd := span_digs (l.drop 1)
    have hk : ((l.drop 1).take (spanLen digB (l.drop 1))).length = spanLen digB (l.drop 1) := by
      rw [List.length_take]; have := spanLen_le digB (l.drop 1); omega
    generalize spanLen digB (l.drop 1) = k at *
    generalize (l.drop 1).take k = m at *
    cases hn : numGo 0 m with
    | none => rw [hn] at h; cases h
    | some n =>
      rw [hn] at h
      simp only at h ⊢
      by_cases h3 : 255 < n
      · rw [if_pos h3] at h; cases h
      · rw [if_neg h3]
        refine ok_charF n (1 + k) (by omega) ?_
        have h4 := numGo_lt m 0 n hd hn
        rw [hk] at h4
        unfold charL
        split
        · have : 2 ≤ k := by
            rcases Nat.lt_or_ge k 2 with h5 | h5
            · have : k = 1 := by omega
              subst this; omega
            · exact h5
          simp; omega
        · split
          · simp; omega
          · have := digL_len k n (by omega) (by omega)
            rw [List.length_cons]; omega
theorem ok_int (l : Bs) (hp : 0 < spanLen digB l) (h : (tokInt l).err = 0) : TextOk (tokInt l) := by
  unfold tokInt at *
  have hd := span_digs l
  have hk : (l.take (spanLen digB l)).length = spanLen digB l := by
    rw [List.length_take]; have := spanLen_le digB l; omega
  generalize spanLen digB l = k at *
  generalize l.take k = m at *
  cases hn : numGo 0 m with
  | none => rw [hn] at h; cases h
  | some n =>
    have h4 := numGo_lt m 0 n hd hn
    rw [hk] at h4
    have hm := numGo_max m 0 n hn (by omega)
    obtain ⟨e1, e2⟩ := ok_digits n hm
    have e3 : tokL 3 [] (n : Int) = digL n := by unfold tokL; simp
    refine ⟨?_, ?_, ?_, ?_⟩
    · show tokOf (tokL 3 [] (n : Int)) = _
      rw [e3]; exact e1
    · show 0 < (tokL 3 [] (n : Int)).length
      rw [e3]; exact digL_ne n
    · show ∀ c r, tokL 3 [] (n : Int) = c :: r → _
      rw [e3]; exact e2
    · show (tokL 3 [] (n : Int)).length ≤ k + 1
      rw [e3]; have := digL_len k n hp (by omega); omega
theorem ok_sign (l : Bs) (h : (tokSign l).err = 0) : TextOk (tokSign l) := by
  unfold tokSign at *
  cases hg : signOf pasSigns l with
  | none => rw [hg] at h; cases h
  | some g =>
    have hm := List.mem_of_find?_eq_some (show pasSigns.find? _ = some g from hg)
    have h1 := List.all_eq_true.1 ok_signs g hm
    simp only [Bool.and_eq_true, decide_eq_true_eq] at h1
    have e3 : tokL 5 g 0 = g := by unfold tokL; simp
    refine ⟨?_, ?_, ?_, ?_⟩
    · show tokOf (tokL 5 g 0) = _
      rw [e3]; exact fdEq_eq h1.1.1
    · show 0 < (tokL 5 g 0).length
      rw [e3]; exact h1.1.2
    · show ∀ c r, tokL 5 g 0 = c :: r → _
      rw [e3]; exact head_all h1.2
    · show (tokL 5 g 0).length ≤ g.length + 1
      rw [e3]; omega
theorem ok_note (l : Bs) (hb : noteBegins l = true) (T : Bs) (u : Nat) (h : noteRead l = (T, u, 0)) : TextOk ⟨0, 6, T, 0, u⟩ := by
  have h0 := h
  unfold noteRead at h0
  rw [if_pos hb] at h0
  obtain ⟨m, e1, e2, e3, e4⟩ := noteGo_good _ (l.drop 1) [] 1 T u (Nat.le_refl _) h0 (by simp) (by simp)
  rw [List.nil_append] at e1
  subst e1
  have e5 : tokL 6 T 0 = noteL T := by unfold tokL; simp
  have e6 : noteBegins (noteL T) = true := rfl
  have e7 := noteGo_esc T [] 1 e2 (by simp; omega)
  have e8 : (noteL T).length = (escL T).length + 2 := by unfold noteL; simp
  refine ⟨?_, ?_, ?_, ?_⟩
  · show tokOf (tokL 6 T 0) = _
    rw [e5]
    unfold tokOf
    have e9 : noteRead (noteL T) = (T, (noteL T).length, 0) := by
      unfold noteRead; rw [if_pos e6]
      show noteGo (escL T ++ [125]) [] 1 = _
      rw [e7, e8]; simp; omega
    rw [if_pos e6, e9]; rfl
  · show 0 < (tokL 6 T 0).length
    rw [e5, e8]; omega
  · show ∀ c r, tokL 6 T 0 = c :: r → _
    rw [e5]; intro c r e; unfold noteL at e; injection e with e _; subst e; decide
  · show (tokL 6 T 0).length ≤ u + 1
    rw [e5, e8]; omega
theorem ok_tok (l : Bs) (hl : 0 < l.length) (h : (tokOf l).err = 0) : TextOk (tokOf l) := by
  unfold tokOf at *
  by_cases h1 : noteBegins l = true
  · rw [if_pos h1] at h ⊢
    by_cases h2 : (noteRead l).2.2 = 0
    · rw [if_pos h2]
      exact ok_note l h1 _ _ (by rw [← h2])
    · rw [if_neg h2] at h; exact absurd h h2
  · rw [if_neg h1] at h ⊢
    match l, hl with
    | c :: r, hl =>
      unfold tokPlain at *
      simp only at h ⊢
      by_cases h1 : letterB c = true
      · rw [if_pos h1] at h ⊢; exact ok_name c r h1 h
      rw [if_neg h1] at h ⊢
      by_cases h2 : digB c = true
      · rw [if_pos h2] at h ⊢; exact ok_int _ (span_pos digB c r h2) h
      rw [if_neg h2] at h ⊢
      by_cases h3 : c = 39
      · rw [if_pos h3] at h ⊢; exact ok_quoted _ h
      rw [if_neg h3] at h ⊢
      by_cases h4 : c = 35
      · rw [if_pos h4] at h ⊢; exact ok_numbered _ h
      rw [if_neg h4] at h ⊢; exact ok_sign _ h
/-- What a token may bear. -/
structure KindOk (F : Fd) : Prop where
  k : F.kind ≤ 6
  k3 : F.kind = 3 → ∃ m : Nat, F.n = (m : Int) ∧ m ≤ 9223372036854775807
  k4 : F.kind = 4 → ∃ m : Nat, F.n = (m : Int) ∧ m < 256
  sz : F.text.length ≤ 1024
theorem kind_char (n len : Nat) (h : n < 256) : KindOk ⟨0, 4, [], n, len⟩ := ⟨by show 4 ≤ 6; decide, (fun h => by cases h), fun _ => ⟨n, rfl, h⟩, by simp⟩
theorem kind_tok (l : Bs) (hl : 0 < l.length) (h : (tokOf l).err = 0) : KindOk (tokOf l) := by
  unfold tokOf at *
  by_cases h1 : noteBegins l = true
  · rw [if_pos h1] at h ⊢
    by_cases h2 : (noteRead l).2.2 = 0
    · rw [if_pos h2]
      have h0 : noteGo (l.drop 1) [] 1 = ((noteRead l).1, (noteRead l).2.1, 0) := by
        rw [← h2]; unfold noteRead; rw [if_pos h1]
      obtain ⟨m, e1, e2, e3, e4⟩ := noteGo_good _ (l.drop 1) [] 1 _ _ (Nat.le_refl _) h0 (by simp) (by simp)
      exact ⟨Nat.le_refl 6, (fun h => by cases h), (fun h => by cases h), e3⟩
    · rw [if_neg h2] at h; exact absurd h h2
  · rw [if_neg h1] at h ⊢
    match l, hl with
    | c :: r, hl =>
      unfold tokPlain at *
      simp only at h ⊢
      by_cases h1 : letterB c = true
      · rw [if_pos h1] at h ⊢
        have hg := tokName_good c r h1 h
        have hk := hg.kind
        have hle := hg.len
        refine ⟨by rw [hk]; split <;> decide, fun h => ?_, fun h => ?_, by omega⟩
        · rw [hk] at h; split at h <;> cases h
        · rw [hk] at h; split at h <;> cases h
      rw [if_neg h1] at h ⊢
      by_cases h2 : digB c = true
      · rw [if_pos h2] at h ⊢
        unfold tokInt at *
        cases hn : numGo 0 ((c :: r).take (spanLen digB (c :: r))) with
        | none => rw [hn] at h; cases h
        | some n => exact ⟨by show 3 ≤ 6; decide, fun _ => ⟨n, rfl, numGo_max _ 0 n hn (by omega)⟩, (fun h => by cases h), by simp⟩
      rw [if_neg h2] at h ⊢
      by_cases h3 : c = 39
      · rw [if_pos h3] at h ⊢
        unfold tokQuoted at *
        by_cases h1 : ([39, 39, 39, 39] : Bs).isPrefixOf (c :: r) = true
        · rw [if_pos h1]; exact kind_char 39 4 (by decide)
        · rw [if_neg h1] at *
          match r, h with
          | d :: e :: q, h =>
            simp only at h ⊢
            by_cases h2 : plainB d = true ∧ e = 39
            · rw [if_pos h2]; exact kind_char d.toNat 3 d.toNat_lt
            · rw [if_neg h2] at h; cases h
          | [], h => cases h
          | [_], h => cases h
      rw [if_neg h3] at h ⊢
      by_cases h4 : c = 35
      · rw [if_pos h4] at h ⊢
        unfold tokNumbered at *
        by_cases h1 : spanLen digB ((c :: r).drop 1) = 0 ∨ 3 < spanLen digB ((c :: r).drop 1)
        · rw [if_pos h1] at h; cases h
        · rw [if_neg h1] at *
          cases hn : numGo 0 (((c :: r).drop 1).take (spanLen digB ((c :: r).drop 1))) with
          | none => rw [hn] at h; cases h
          | some n =>
            rw [hn] at h
            simp only at h ⊢
            by_cases h3 : 255 < n
            · rw [if_pos h3] at h; cases h
            · rw [if_neg h3]; exact kind_char n _ (by omega)
      rw [if_neg h4] at h ⊢
      unfold tokSign at *
      cases hg : signOf pasSigns (c :: r) with
      | none => rw [hg] at h; cases h
      | some g =>
        have hm := List.mem_of_find?_eq_some (show pasSigns.find? _ = some g from hg)
        have h2 : ∀ g ∈ pasSigns, g.length ≤ 2 := by decide
        have h3 := h2 g hm
        exact ⟨by show 5 ≤ 6; decide, (fun h => by cases h), (fun h => by cases h), by show g.length ≤ 1024; omega⟩
/-! ### all tokens -/
def textOf (t : TokL) : Bs := tokL t.kind (bs t.text) t.n
theorem textOf_bare (t : TokL) : textOf (bare t) = textOf t := rfl
theorem textOf_bareF (F : Fd) : textOf (bareF F) = tokL F.kind F.text F.n := by unfold textOf bareF; simp [bs]
theorem textOf_end : textOf bareEnd = [] := rfl
def GoodT (t : TokL) : Prop := ∃ F, (TextOk F ∧ KindOk F) ∧ t = bareF F
theorem lexB_good : ∀ (f : Nat) (l : Bs) (p : Nat) (acc : List TokL), l.length < f → (lexB f l p acc).code = 0 →
    ∃ ts, (lexB f l p acc).toks = acc ++ (ts ++ [bareEnd]) ∧ (∀ t ∈ ts, GoodT t) ∧ (ts.map fun t => (textOf t).length + 5).sum ≤ 7 * l.length
  | 0, _, _, _, h, _ => by omega
  | f + 1, l, p, acc, hf, hc => by
    rw [lexB_succ] at hc ⊢
    by_cases h1 : spanLen blankB l < l.length
    · rw [if_pos h1] at hc ⊢
      by_cases h2 : (tokOf (l.drop (spanLen blankB l))).err = 0
      · rw [if_pos h2] at hc ⊢
        have hdl : 0 < (l.drop (spanLen blankB l)).length := by rw [List.length_drop]; omega
        obtain ⟨l1, l2⟩ := tokOf_len (l.drop (spanLen blankB l)) hdl h2
        have hok := ok_tok _ hdl h2
        rw [List.length_drop] at l2
        obtain ⟨ts, e1, e2, e3⟩ := lexB_good f _ _ _ (by rw [List.length_drop]; omega) hc
        refine ⟨bareF (tokOf (l.drop (spanLen blankB l))) :: ts, ?_, ?_, ?_⟩
        · rw [e1]; simp
        · intro t ht
          rw [List.mem_cons] at ht
          rcases ht with rfl | ht
          · exact ⟨_, ⟨hok, kind_tok _ hdl h2⟩, rfl⟩
          · exact e2 t ht
        · have h4 := hok.len
          rw [← textOf_bareF] at h4
          rw [List.length_drop] at e3
          rw [List.map_cons, List.sum_cons]
          omega
      · rw [if_neg h2] at hc; exact absurd hc h2
    · rw [if_neg h1]
      exact ⟨[], by simp, by simp, by simp⟩
def catT (bl : Nat → Bs) : Nat → List TokL → Bs
  | _, [] => []
  | k, t :: ts => bl k ++ (textOf t ++ catT bl (k + 1) ts)
theorem catT_map (bl : Nat → Bs) : ∀ (ts : List TokL) (k : Nat), catT bl k (ts.map bare) = catT bl k ts
  | [], _ => rfl
  | t :: ts, k => by rw [List.map_cons, catT, catT, catT_map bl ts, textOf_bare]
theorem catT_snoc (bl : Nat → Bs) (t : TokL) : ∀ (ts : List TokL) (k : Nat), catT bl k (ts ++ [t]) = catT bl k ts ++ (bl (k + ts.length) ++ textOf t)
  | [], k => by simp [catT]
  | a :: ts, k => by
    rw [List.cons_append, catT, catT, catT_snoc bl t ts, List.length_cons, show k + (ts.length + 1) = k + 1 + ts.length from by omega, List.append_assoc, List.append_assoc]
theorem catT_len (bl : Nat → Bs) (h : ∀ i, (bl i).length ≤ 5) : ∀ (ts : List TokL) (k : Nat), (catT bl k ts).length ≤ (ts.map fun t => (textOf t).length + 5).sum
  | [], _ => by simp [catT]
  | t :: ts, k => by
    rw [catT, List.length_append, List.length_append, List.map_cons, List.sum_cons]
    have := catT_len bl h ts (k + 1)
    have := h k
    omega
theorem span_two (f : UInt8 → Bool) : ∀ (u v : Bs), (∀ c ∈ u, f c = true) → (∀ c r, v = c :: r → f c = false) → spanLen f (u ++ v) = u.length
  | [], [], _, _ => rfl
  | [], c :: v, _, h => by unfold spanLen; rw [List.nil_append, List.takeWhile_cons_of_neg (by rw [h c v rfl]; decide)]
  | a :: u, v, h, h2 => by
    have := span_two f u v (fun c hc => h c (by simp [hc])) h2
    unfold spanLen at *
    rw [List.cons_append, List.takeWhile_cons_of_pos (h a (by simp)), List.length_cons, List.length_cons, this]
theorem lexB_cat (bl : Nat → Bs) (hbl : ∀ i, 0 < (bl i).length ∧ ∀ c ∈ bl i, blankB c = true) : ∀ (ts : List TokL) (k f p : Nat) (acc : List TokL), (∀ t ∈ ts, GoodT t) → (catT bl k (ts ++ [bareEnd])).length < f →
    lexB f (catT bl k (ts ++ [bareEnd])) p acc = ⟨acc ++ (ts ++ [bareEnd]), 0, 0⟩
  | [], k, f, p, acc, _, hf => by
    obtain ⟨f, rfl⟩ : ∃ g, f = g + 1 := ⟨f - 1, by omega⟩
    have e : catT bl k ([] ++ [bareEnd]) = bl k := by rw [List.nil_append, catT, catT, textOf_end]; simp
    rw [e, lexB_succ, if_neg (by rw [span_all blankB _ (hbl k).2]; omega)]
    simp
  | t :: ts, k, f, p, acc, hg, hf => by
    obtain ⟨f, rfl⟩ : ∃ g, f = g + 1 := ⟨f - 1, by omega⟩
    obtain ⟨F, ⟨hF, _⟩, rfl⟩ := hg t (by simp)
    rw [List.cons_append, catT] at hf ⊢
    have hr := hF.read
    have hp := hF.pos
    have hh := hF.head
    rw [← textOf_bareF] at hr hp hh
    obtain ⟨x, hx⟩ : ∃ x, x = textOf (bareF F) := ⟨_, rfl⟩
    obtain ⟨R, hR⟩ : ∃ R, R = catT bl (k + 1) (ts ++ [bareEnd]) := ⟨_, rfl⟩
    have hRb : ∃ c q, R = c :: q ∧ blankB c = true := by
      have hb := hbl (k + 1)
      have hRe : ∃ z, R = bl (k + 1) ++ z := by
        rw [hR]
        match ts with
        | [] => exact ⟨_, rfl⟩
        | a :: ts => exact ⟨_, rfl⟩
      obtain ⟨z, hz⟩ := hRe
      match hq : bl (k + 1), hb with
      | c :: q, hb =>
        rw [hq] at hz
        exact ⟨c, q ++ z, by rw [hz]; rfl, hb.2 c (by simp)⟩
      | [], hb => exact absurd hb.1 (by simp)
    obtain ⟨c, q, hcq, hcb⟩ := hRb
    rw [← hx] at hr hp hh hf ⊢
    rw [← hR] at hf ⊢
    have hsp : spanLen blankB (bl k ++ (x ++ R)) = (bl k).length := by
      refine span_two blankB _ _ (hbl k).2 ?_
      intro d r e
      match x, hp, hh with
      | y :: ys, _, hh =>
        injection e with e _
        subst e
        exact hh y ys rfl
    have hd : (bl k ++ (x ++ R)).drop (bl k).length = x ++ R := by simp
    have ht : tokOf (x ++ R) = ⟨0, F.kind, F.text, F.n, x.length⟩ := by
      rw [hcq, tokOf_extb c hcb x q hp (by rw [hr]), hr]
    have hd2 : (bl k ++ (x ++ R)).drop ((bl k).length + x.length) = R := by
      rw [← List.drop_drop, hd]; simp
    rw [lexB_succ, hsp, hd, ht, if_pos (by rw [List.length_append, List.length_append]; omega), if_pos rfl]
    simp only
    rw [hd2, hR, lexB_cat bl hbl ts (k + 1) f _ _ (fun a ha => hg a (by simp [ha])) (by rw [← hR]; rw [List.length_append, List.length_append] at hf; omega)]
    congr 1
    rw [List.append_assoc]; rfl
/-- Each token of a text without faults is one that a lexer may have made; their texts, blanks between them, are not long. -/
theorem lexAll_goodT (s : ByteArray) (hs : s.size ≤ 3000) (h0 : (lexAll s).code = 0) : ∃ ts, (lexAll s).toks.map bare = ts ++ [bareEnd] ∧ ∀ t ∈ ts, GoodT t := by
  have ls := lexAll_bare s (by omega)
  obtain ⟨ts, e1, e2, e3⟩ := lexB_good (s.size + 1) (bs s) 0 [] (by rw [bs_len]; omega) (by rw [← ls.code]; exact h0)
  rw [List.nil_append, ← ls.toks] at e1
  exact ⟨ts, e1, e2⟩
/-- The plain law. -/
theorem blanks_law (s : ByteArray) (hs : s.size ≤ 3000) (h0 : (lexAll s).code = 0) (bl : Nat → Bs) (hbl : ∀ i, 0 < (bl i).length ∧ (bl i).length ≤ 5 ∧ ∀ c ∈ bl i, blankB c = true) (T : ByteArray) (hT : bs T = catT bl 0 (lexAll s).toks) :
    T.size ≤ 21005 ∧ (lexAll T).code = 0 ∧ (lexAll T).toks.map bare = (lexAll s).toks.map bare := by
  have ls := lexAll_bare s (by omega)
  obtain ⟨ts, e1, e2, e3⟩ := lexB_good (s.size + 1) (bs s) 0 [] (by rw [bs_len]; omega) (by rw [← ls.code]; exact h0)
  rw [List.nil_append, ← ls.toks] at e1
  rw [← catT_map, e1] at hT
  have hlen := catT_len bl (fun i => (hbl i).2.1) (ts ++ [bareEnd]) 0
  have hsum : ((ts ++ [bareEnd]).map fun t => (textOf t).length + 5).sum = (ts.map fun t => (textOf t).length + 5).sum + 5 := by
    rw [List.map_append, List.sum_append]; simp [textOf_end]
  rw [hsum, ← hT, bs_len] at hlen
  rw [bs_len] at e3
  have hsz : T.size ≤ 21005 := by omega
  have lt := lexAll_bare T (by omega)
  have hc := lexB_cat bl (fun i => ⟨(hbl i).1, (hbl i).2.2⟩) ts 0 (T.size + 1) 0 [] e2 (by rw [← hT, bs_len]; omega)
  rw [← hT] at hc
  rw [hc] at lt
  exact ⟨hsz, lt.code, by rw [lt.toks, e1, List.nil_append]⟩
end Go.Proofs.YtcdmkmbbliaefaaGreatDoor
