/- Tokens without their places: the lexer on a list of bytes; two texts, one behind the other: the plain law. -/
import Derived.Test.YtcdmkmbbliaefaaGreatDoorLexS
namespace Go.Proofs.YtcdmkmbbliaefaaGreatDoor
open Go.RowKit
set_option linter.unusedVariables false
set_option linter.unusedSimpArgs false

/-- A token without its place. -/
def bare (t : TokL) : TokL := ⟨t.kind, t.text, t.n, false, (0, 0, 0)⟩
def bareF (F : Fd) : TokL := ⟨F.kind, ⟨F.text.toArray⟩, F.n, false, (0, 0, 0)⟩
def bareEnd : TokL := ⟨0, ⟨#[]⟩, 0, false, (0, 0, 0)⟩
structure BR where
  toks : List TokL
  code : Nat
  off : Nat
def lexB : Nat → Bs → Nat → List TokL → BR
  | 0, _, _, _ => ⟨[], 0, 0⟩
  | f + 1, l, p, acc =>
    if spanLen blankB l < l.length then
      if (tokOf (l.drop (spanLen blankB l))).err = 0 then
        lexB f (l.drop (spanLen blankB l + (tokOf (l.drop (spanLen blankB l))).len)) (p + spanLen blankB l + (tokOf (l.drop (spanLen blankB l))).len) (acc ++ [bareF (tokOf (l.drop (spanLen blankB l)))])
      else ⟨[], (tokOf (l.drop (spanLen blankB l))).err, p + spanLen blankB l⟩
    else ⟨acc ++ [bareEnd], 0, 0⟩
theorem lexB_succ (f : Nat) (l : Bs) (p : Nat) (acc : List TokL) : lexB (f + 1) l p acc =
    if spanLen blankB l < l.length then
      if (tokOf (l.drop (spanLen blankB l))).err = 0 then
        lexB f (l.drop (spanLen blankB l + (tokOf (l.drop (spanLen blankB l))).len)) (p + spanLen blankB l + (tokOf (l.drop (spanLen blankB l))).len) (acc ++ [bareF (tokOf (l.drop (spanLen blankB l)))])
      else ⟨[], (tokOf (l.drop (spanLen blankB l))).err, p + spanLen blankB l⟩
    else ⟨acc ++ [bareEnd], 0, 0⟩ := rfl
/-- The lexer's answer, without places. -/
structure Likes (R : LexR) (B : BR) : Prop where
  toks : R.toks.map bare = B.toks
  code : R.code = B.code
  off : R.code ≠ 0 → R.pos.1 = B.off
theorem lexGo_bare (s : ByteArray) : ∀ (f p : Nat) (last : Int) (acc : List TokL) (l : Bs) (acc' : List TokL), p ≤ s.size → l = (bs s).drop p → acc.map bare = acc' → Likes (lexGo s f p last acc) (lexB f l p acc')
  | 0, _, _, _, _, _, _, _, _ => ⟨rfl, rfl, fun h => absurd rfl h⟩
  | f + 1, p, last, acc, l, acc', hp, hl, ha => by
    have hll : l.length = s.size - p := by rw [hl, List.length_drop, bs_len]
    have hsp : spanAt blankB s p = spanLen blankB l := by rw [hl]; rfl
    have hdr : (bs s).drop (p + spanLen blankB l) = l.drop (spanLen blankB l) := by rw [hl, List.drop_drop]
    unfold lexGo lexB
    rw [hsp, hdr]
    by_cases h1 : spanLen blankB l < l.length
    · rw [if_pos h1, if_pos (by omega)]
      by_cases h2 : (tokOf (l.drop (spanLen blankB l))).err = 0
      · rw [if_pos h2, if_pos h2]
        obtain ⟨l1, l2⟩ := tokOf_len (l.drop (spanLen blankB l)) (by rw [List.length_drop]; omega) h2
        rw [List.length_drop] at l2
        refine lexGo_bare s f _ _ _ _ _ (by omega) ?_ ?_
        · rw [hl, List.drop_drop, Nat.add_assoc]
        · rw [List.map_append, ha]; rfl
      · rw [if_neg h2, if_neg h2]
        exact ⟨rfl, rfl, fun _ => rfl⟩
    · rw [if_neg h1, if_neg (by omega)]
      exact ⟨by rw [List.map_append, ha]; rfl, rfl, fun h => absurd rfl h⟩
theorem lexAll_bare (s : ByteArray) (hs : s.size ≤ 65536) : Likes (lexAll s) (lexB (s.size + 1) (bs s) 0 []) := by
  unfold lexAll
  rw [if_neg (by omega)]
  exact lexGo_bare s _ _ _ _ _ _ (Nat.zero_le _) rfl rfl
/-- More fuel, the same answer. -/
theorem lexB_fuel : ∀ (f g : Nat) (l : Bs) (p : Nat) (acc : List TokL), l.length < f → l.length < g → lexB f l p acc = lexB g l p acc
  | 0, _, _, _, _, h, _ => by omega
  | _ + 1, 0, _, _, _, _, h => by omega
  | f + 1, g + 1, l, p, acc, hf, hg => by
    unfold lexB
    by_cases h1 : spanLen blankB l < l.length
    · rw [if_pos h1, if_pos h1]
      by_cases h2 : (tokOf (l.drop (spanLen blankB l))).err = 0
      · rw [if_pos h2, if_pos h2]
        obtain ⟨l1, l2⟩ := tokOf_len (l.drop (spanLen blankB l)) (by rw [List.length_drop]; omega) h2
        rw [List.length_drop] at l2
        exact lexB_fuel f g _ _ _ (by rw [List.length_drop]; omega) (by rw [List.length_drop]; omega)
      · rw [if_neg h2, if_neg h2]
    · rw [if_neg h1, if_neg h1]
/-- What was read before stays ahead; where it began is added. -/
theorem lexB_acc : ∀ (f : Nat) (l : Bs) (p : Nat) (acc : List TokL), l.length < f →
    (lexB f l p acc).code = (lexB f l 0 []).code ∧ ((lexB f l 0 []).code = 0 → (lexB f l p acc).toks = acc ++ (lexB f l 0 []).toks) ∧ ((lexB f l 0 []).code ≠ 0 → (lexB f l p acc).off = p + (lexB f l 0 []).off ∧ (lexB f l p acc).toks = [])
  | 0, _, _, _, h => by omega
  | f + 1, l, p, acc, hf => by
    unfold lexB
    by_cases h1 : spanLen blankB l < l.length
    · rw [if_pos h1, if_pos h1]
      by_cases h2 : (tokOf (l.drop (spanLen blankB l))).err = 0
      · rw [if_pos h2, if_pos h2]
        obtain ⟨l1, l2⟩ := tokOf_len (l.drop (spanLen blankB l)) (by rw [List.length_drop]; omega) h2
        rw [List.length_drop] at l2
        have hd : (l.drop (spanLen blankB l + (tokOf (l.drop (spanLen blankB l))).len)).length < f := by rw [List.length_drop]; omega
        obtain ⟨a1, a2, a3⟩ := lexB_acc f _ (p + spanLen blankB l + (tokOf (l.drop (spanLen blankB l))).len) (acc ++ [bareF (tokOf (l.drop (spanLen blankB l)))]) hd
        obtain ⟨b1, b2, b3⟩ := lexB_acc f _ (0 + spanLen blankB l + (tokOf (l.drop (spanLen blankB l))).len) ([] ++ [bareF (tokOf (l.drop (spanLen blankB l)))]) hd
        refine ⟨by rw [a1, b1], fun h => ?_, fun h => ?_⟩
        · rw [b1] at h
          rw [a2 h, b2 h, List.nil_append, List.append_assoc]
        · rw [b1] at h
          rw [(a3 h).1, (b3 h).1]
          exact ⟨by omega, (a3 h).2⟩
      · rw [if_neg h2, if_neg h2]
        exact ⟨rfl, fun h => absurd h h2, fun _ => ⟨by show p + _ = p + (0 + _); omega, rfl⟩⟩
    · rw [if_neg h1, if_neg h1]
      exact ⟨rfl, fun _ => by simp, fun h => absurd rfl h⟩
/-! ### a token, and a blank behind it -/
theorem span_ext (f : UInt8 → Bool) (h : f 32 = false) (m : Bs) : ∀ l : Bs, spanLen f (l ++ 32 :: m) = spanLen f l
  | [] => by unfold spanLen; rw [List.nil_append, List.takeWhile_cons_of_neg (by simp [h])]; rfl
  | a :: l => by
    have ih := span_ext f h m l
    unfold spanLen at *
    by_cases ha : f a = true
    · rw [List.cons_append, List.takeWhile_cons_of_pos ha, List.takeWhile_cons_of_pos ha, List.length_cons, List.length_cons, ih]
    · rw [List.cons_append, List.takeWhile_cons_of_neg ha, List.takeWhile_cons_of_neg ha]
theorem prefix_ext (m : Bs) : ∀ (g l : Bs), g.contains 32 = false → g.isPrefixOf (l ++ 32 :: m) = g.isPrefixOf l
  | [], l, _ => by simp [List.isPrefixOf]
  | a :: g, [], h => by
    have ha : (a == 32) = false := by
      rw [List.contains_cons] at h
      simp only [Bool.or_eq_false_iff] at h
      rw [beq_eq_false_iff_ne]
      intro e; subst e; simp at h
    simp [List.isPrefixOf, ha]
  | a :: g, b :: l, h => by
    rw [List.contains_cons] at h
    simp only [Bool.or_eq_false_iff] at h
    rw [List.cons_append, List.isPrefixOf, List.isPrefixOf, prefix_ext m g l h.2]
theorem noteGo_ext (x : Bs) : ∀ (n : Nat) (l out : Bs) (i : Nat), l.length ≤ n → (noteGo l out i).2.2 = 0 → noteGo (l ++ x) out i = noteGo l out i
  | n, [], out, i, _, h => by rw [noteGo_nil] at h; cases h
  | 0, c :: l, out, i, hn, h => by simp at hn
  | n + 1, c :: l, out, i, hn, h => by
    simp only [List.length_cons] at hn
    by_cases h1 : c = 125
    · subst h1; rw [List.cons_append, noteGo_end, noteGo_end]
    by_cases h2 : c = 92
    · subst h2
      match l, hn, h with
      | [], hn, h => rw [noteGo_bs0] at h; cases h
      | d :: l', hn, h =>
        simp only [List.length_cons] at hn
        by_cases h3 : d = 92 ∨ d = 125
        · by_cases ho : out.length = 1024
          · rw [noteGo_bs_full _ _ _ _ h3 ho] at h; cases h
          · rw [noteGo_bs _ _ _ _ h3 ho] at h ⊢
            rw [List.cons_append, List.cons_append, noteGo_bs _ _ _ _ h3 ho]
            exact noteGo_ext x n l' _ _ (by omega) h
        · rw [noteGo_bs_bad _ _ _ _ h3] at h; cases h
    · cases hr : rightB c with
      | true =>
        by_cases ho : out.length = 1024
        · rw [noteGo_full _ _ _ _ h1 h2 hr ho] at h; cases h
        · rw [noteGo_go _ _ _ _ h1 h2 hr ho] at h ⊢
          rw [List.cons_append, noteGo_go _ _ _ _ h1 h2 hr ho]
          exact noteGo_ext x n l _ _ (by omega) h
      | false => rw [noteGo_bad _ _ _ _ h1 h2 hr] at h; cases h
theorem find_ext (m l : Bs) : ∀ gs : List Bs, (∀ g ∈ gs, g.contains 32 = false) → gs.find? (fun g => g.isPrefixOf (l ++ 32 :: m)) = gs.find? (fun g => g.isPrefixOf l)
  | [], _ => rfl
  | g :: gs, h => by
    rw [List.find?_cons, List.find?_cons, prefix_ext m g l (h g (by simp)), find_ext m l gs (fun x hx => h x (by simp [hx]))]
theorem tokOf_ext (l m : Bs) (hl : 0 < l.length) (h : (tokOf l).err = 0) : tokOf (l ++ 32 :: m) = tokOf l := by
  match l, hl with
  | c :: r, hl =>
    have hnb : noteBegins ((c :: r) ++ 32 :: m) = noteBegins (c :: r) := rfl
    unfold tokOf at *
    rw [hnb]
    by_cases h1 : noteBegins (c :: r) = true
    · rw [if_pos h1] at h ⊢
      rw [if_pos h1]
      have e0 : noteRead (c :: r) = noteGo r [] 1 := by unfold noteRead; rw [if_pos h1]; rfl
      have e1 : noteRead ((c :: r) ++ 32 :: m) = noteGo (r ++ 32 :: m) [] 1 := by unfold noteRead; rw [hnb, if_pos h1]; rfl
      have hr : noteRead ((c :: r) ++ 32 :: m) = noteRead (c :: r) := by
        rw [e0, e1]
        by_cases h2 : (noteRead (c :: r)).2.2 = 0
        · rw [e0] at h2
          exact noteGo_ext (32 :: m) r.length r [] 1 (Nat.le_refl _) h2
        · rw [if_neg h2] at h; exact absurd h h2
      rw [hr]
    · rw [if_neg h1] at h ⊢
      rw [if_neg h1]
      unfold tokPlain at *
      simp only [List.cons_append] at h ⊢
      by_cases h2 : letterB c = true
      · rw [if_pos h2] at h ⊢
        rw [if_pos h2]
        unfold tokName
        have e1 := span_ext nameB (by decide) m (c :: r)
        rw [List.cons_append] at e1
        have e2 : (c :: (r ++ 32 :: m)).take (spanLen nameB (c :: r)) = (c :: r).take (spanLen nameB (c :: r)) := by
          rw [← List.cons_append, List.take_append_of_le_length (spanLen_le _ _)]
        rw [e1, e2]
      rw [if_neg h2] at h ⊢
      rw [if_neg h2]
      by_cases h3 : digB c = true
      · rw [if_pos h3] at h ⊢
        rw [if_pos h3]
        unfold tokInt
        have e1 := span_ext digB (by decide) m (c :: r)
        rw [List.cons_append] at e1
        have e2 : (c :: (r ++ 32 :: m)).take (spanLen digB (c :: r)) = (c :: r).take (spanLen digB (c :: r)) := by
          rw [← List.cons_append, List.take_append_of_le_length (spanLen_le _ _)]
        rw [e1, e2]
      rw [if_neg h3] at h ⊢
      rw [if_neg h3]
      by_cases h4 : c = 39
      · rw [if_pos h4] at h ⊢
        rw [if_pos h4]
        unfold tokQuoted at *
        have e1 := prefix_ext m [39, 39, 39, 39] (c :: r) (by decide)
        rw [List.cons_append] at e1
        rw [e1]
        by_cases h5 : ([39, 39, 39, 39] : Bs).isPrefixOf (c :: r) = true
        · rw [if_pos h5, if_pos h5]
        · rw [if_neg h5] at h ⊢
          rw [if_neg h5]
          match r, h with
          | x :: y :: z, h => rfl
          | [], h => cases h
          | [_], h => cases h
      rw [if_neg h4] at h ⊢
      rw [if_neg h4]
      by_cases h5 : c = 35
      · rw [if_pos h5] at h ⊢
        rw [if_pos h5]
        unfold tokNumbered
        simp only [List.drop_succ_cons, List.drop_zero]
        rw [span_ext digB (by decide) m r, List.take_append_of_le_length (spanLen_le _ _)]
      rw [if_neg h5] at h ⊢
      rw [if_neg h5]
      unfold tokSign signOf
      have e1 := find_ext m (c :: r) pasSigns (by decide)
      rw [List.cons_append] at e1
      rw [e1]
/-- Behind a text that has tokens, and a blank: another text's answer, further on. -/
theorem lexB_join (m : Bs) : ∀ (f : Nat) (l : Bs) (p : Nat) (acc : List TokL), l.length < f → (lexB f l p acc).code = 0 →
    ∃ a, (lexB f l p acc).toks = a ++ [bareEnd] ∧ ∀ g, l.length + 1 + m.length < g → ∃ h, m.length < h ∧ lexB g (l ++ 32 :: m) p acc = lexB h m (p + l.length + 1) a
  | 0, _, _, _, h, _ => by omega
  | f + 1, l, p, acc, hf, hc => by
    rw [lexB_succ] at hc
    rw [lexB_succ]
    by_cases h1 : spanLen blankB l < l.length
    · rw [if_pos h1] at hc ⊢
      by_cases h2 : (tokOf (l.drop (spanLen blankB l))).err = 0
      · rw [if_pos h2] at hc ⊢
        have hdl : 0 < (l.drop (spanLen blankB l)).length := by rw [List.length_drop]; omega
        obtain ⟨l1, l2⟩ := tokOf_len (l.drop (spanLen blankB l)) hdl h2
        have l3 := l2
        rw [List.length_drop] at l3
        obtain ⟨a, e1, e2⟩ := lexB_join m f _ _ _ (by rw [List.length_drop]; omega) hc
        refine ⟨a, e1, fun g hg => ?_⟩
        obtain ⟨g', rfl⟩ : ∃ g', g = g' + 1 := ⟨g - 1, by omega⟩
        obtain ⟨h, hh, e3⟩ := e2 g' (by rw [List.length_drop]; omega)
        refine ⟨h, hh, ?_⟩
        have hs : spanLen blankB (l ++ 32 :: m) = spanLen blankB l := by
          obtain ⟨x, y, hxy⟩ : ∃ x y, l.drop (spanLen blankB l) = x :: y := by
            match hq : l.drop (spanLen blankB l), hdl with
            | x :: y, _ => exact ⟨x, y, rfl⟩
          have hx : blankB x = false := by
            refine spanLen_end blankB l x ?_
            have : (l.drop (spanLen blankB l))[0]? = some x := by rw [hxy]; rfl
            rw [List.getElem?_drop] at this; simpa using this
          have ht : l = l.take (spanLen blankB l) ++ x :: y := by rw [← hxy, List.take_append_drop]
          have hk : ∀ (u v : Bs), (∀ c ∈ u, blankB c = true) → spanLen blankB (u ++ x :: v) = u.length := by
            intro u v hu
            induction u with
            | nil => unfold spanLen; rw [List.nil_append, List.takeWhile_cons_of_neg (by simp [hx])]
            | cons b u ih =>
              unfold spanLen at *
              rw [List.cons_append, List.takeWhile_cons_of_pos (hu b (by simp)), List.length_cons, List.length_cons, ih (fun c hc => hu c (by simp [hc]))]
          have hb : ∀ c ∈ l.take (spanLen blankB l), blankB c = true := by
            intro c hc
            obtain ⟨k, hk, rfl⟩ := List.mem_iff_getElem.1 hc
            have hk2 : k < spanLen blankB l := by rw [List.length_take] at hk; omega
            obtain ⟨d, d1, d2⟩ := spanLen_at blankB l k hk2
            have : (l.take (spanLen blankB l))[k]? = some d := by rw [List.getElem?_take_of_lt hk2]; exact d1
            rw [List.getElem?_eq_getElem hk] at this
            injection this with this
            rw [this]; exact d2
          have h5 : l ++ 32 :: m = l.take (spanLen blankB l) ++ x :: (y ++ 32 :: m) := by
            conv => lhs; rw [ht]
            rw [List.append_assoc, List.cons_append]
          rw [h5, hk _ _ hb, List.length_take]; omega
        have hd : (l ++ 32 :: m).drop (spanLen blankB l) = l.drop (spanLen blankB l) ++ 32 :: m := List.drop_append_of_le_length (by omega)
        have ht := tokOf_ext (l.drop (spanLen blankB l)) m hdl h2
        have hd2 : (l ++ 32 :: m).drop (spanLen blankB l + (tokOf (l.drop (spanLen blankB l))).len) = l.drop (spanLen blankB l + (tokOf (l.drop (spanLen blankB l))).len) ++ 32 :: m := List.drop_append_of_le_length (by omega)
        rw [lexB_succ, hs, hd, ht, if_pos (by rw [List.length_append]; omega), if_pos h2, hd2, e3]
        rw [List.length_drop, show p + spanLen blankB l + (tokOf (l.drop (spanLen blankB l))).len + (l.length - (spanLen blankB l + (tokOf (l.drop (spanLen blankB l))).len)) + 1 = p + l.length + 1 from by omega]
      · rw [if_neg h2] at hc; exact absurd hc h2
    · rw [if_neg h1]
      refine ⟨acc, rfl, fun g hg => ?_⟩
      obtain ⟨g', rfl⟩ : ∃ g', g = g' + 1 := ⟨g - 1, by omega⟩
      refine ⟨g' + 1, by omega, ?_⟩
      have hle := spanLen_le blankB l
      have hsl : spanLen blankB l = l.length := by omega
      have hs : ∀ u : Bs, spanLen blankB u = u.length → spanLen blankB (u ++ 32 :: m) = u.length + 1 + spanLen blankB m := by
        intro u
        induction u with
        | nil => intro _; unfold spanLen; rw [List.nil_append, List.takeWhile_cons_of_pos (by decide), List.length_cons, List.length_nil]; omega
        | cons b u ih =>
          intro hu
          unfold spanLen at *
          by_cases hb : blankB b = true
          · rw [List.takeWhile_cons_of_pos hb, List.length_cons, List.length_cons] at hu
            rw [List.cons_append, List.takeWhile_cons_of_pos hb, List.length_cons, List.length_cons, ih (by omega)]; omega
          · rw [List.takeWhile_cons_of_neg hb] at hu; simp at hu
      have hs := hs l hsl
      have hlen : (l ++ 32 :: m).length = l.length + 1 + m.length := by rw [List.length_append, List.length_cons]; omega
      have hd : ∀ k, (l ++ 32 :: m).drop (l.length + 1 + k) = m.drop k := by
        intro k
        rw [show l.length + 1 + k = l.length + (k + 1) from by omega, List.drop_append, List.drop_eq_nil_of_le (by omega)]
        rw [show l.length + (k + 1) - l.length = k + 1 from by omega, List.drop_succ_cons, List.nil_append]
      rw [lexB_succ, lexB_succ, hs, hlen, hd]
      by_cases h2 : spanLen blankB m < m.length
      · rw [if_pos h2, if_pos (by omega)]
        by_cases h3 : (tokOf (m.drop (spanLen blankB m))).err = 0
        · rw [if_pos h3, if_pos h3]
          have e1 := hd (spanLen blankB m + (tokOf (m.drop (spanLen blankB m))).len)
          rw [show l.length + 1 + (spanLen blankB m + (tokOf (m.drop (spanLen blankB m))).len) = l.length + 1 + spanLen blankB m + (tokOf (m.drop (spanLen blankB m))).len from by omega] at e1
          rw [e1, show p + (l.length + 1 + spanLen blankB m) + (tokOf (m.drop (spanLen blankB m))).len = p + l.length + 1 + spanLen blankB m + (tokOf (m.drop (spanLen blankB m))).len from by omega]
        · rw [if_neg h3, if_neg h3, show p + (l.length + 1 + spanLen blankB m) = p + l.length + 1 + spanLen blankB m from by omega]
      · rw [if_neg h2, if_neg (by omega)]
/-- The two texts, joined by a blank. -/
theorem joins (s t : ByteArray) (hs : s.size ≤ 3000) (ht : t.size ≤ 3000) (u : ByteArray) (hu : bs u = bs s ++ 32 :: bs t) (h0 : (lexAll s).code = 0) :
    ∃ a, (lexAll s).toks.map bare = a ++ [bareEnd] ∧ (lexAll u).code = (lexAll t).code ∧ ((lexAll t).code ≠ 0 → (lexAll u).pos.1 = s.size + 1 + (lexAll t).pos.1) ∧ ((lexAll t).code = 0 → (lexAll u).toks.map bare = a ++ (lexAll t).toks.map bare) := by
  have hus : u.size = s.size + 1 + t.size := by rw [← bs_len, hu, List.length_append, List.length_cons, bs_len, bs_len]; omega
  have ls := lexAll_bare s (by omega)
  have lt := lexAll_bare t (by omega)
  have lu := lexAll_bare u (by omega)
  obtain ⟨a, e1, e2⟩ := lexB_join (bs t) (s.size + 1) (bs s) 0 [] (by rw [bs_len]; omega) (by rw [← ls.code]; exact h0)
  obtain ⟨h, hh, e3⟩ := e2 (u.size + 1) (by rw [bs_len, bs_len]; omega)
  rw [hu, e3, bs_len] at lu
  rw [bs_len] at hh
  obtain ⟨c1, c2, c3⟩ := lexB_acc h (bs t) (0 + s.size + 1) a (by rw [bs_len]; exact hh)
  have hf := lexB_fuel h (t.size + 1) (bs t) 0 [] (by rw [bs_len]; exact hh) (by rw [bs_len]; omega)
  rw [hf] at c1 c2 c3
  have hcode : (lexAll u).code = (lexAll t).code := by rw [lu.code, c1, lt.code]
  refine ⟨a, by rw [ls.toks, e1], hcode, fun hne => ?_, fun h0 => ?_⟩
  · have h5 : (lexAll u).code ≠ 0 := by rw [hcode]; exact hne
    rw [lu.off h5, (c3 (by rw [← lt.code]; exact hne)).1, lt.off hne]; omega
  · rw [lu.toks, c2 (by rw [← lt.code]; exact h0), lt.toks]
end Go.Proofs.YtcdmkmbbliaefaaGreatDoor
