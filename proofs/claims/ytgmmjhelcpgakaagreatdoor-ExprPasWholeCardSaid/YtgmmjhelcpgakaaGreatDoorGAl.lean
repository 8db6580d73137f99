/- Tokens without their places: the lexer on a list of bytes; two texts, one behind the other: the plain law. -/
import Derived.Test.YtgmmjhelcpgakaaGreatDoorGH
import Derived.Test.YtgmmjhelcpgakaaGreatDoorGL
import Derived.Test.YtgmmjhelcpgakaaGreatDoorGAj
namespace Go.Proofs.YtgmmjhelcpgakaaGreatDoor
open Go.RowKit
set_option linter.unusedVariables false
set_option linter.unusedSimpArgs false

/-- A token without its place. -/
def bare (t : TokL) : TokL := ⟨t.kind, t.text, t.n, false, (0, 0, 0)⟩
def bareF (F : Fd) : TokL := ⟨F.kind, ⟨F.text.toArray⟩, F.n, false, (0, 0, 0)⟩
def bareEnd : TokL := ⟨0, ⟨#[]⟩, 0, false, (0, 0, 0)⟩
structure BR where
  toks : List TokL
  code : Nat
  off : Nat
def lexB : Nat → Bs → Nat → List TokL → BR
  | 0, _, _, _ => ⟨[], 0, 0⟩
  | f + 1, l, p, acc =>
    if spanLen blankB l < l.length then
      if (tokOf (l.drop (spanLen blankB l))).err = 0 then
        lexB f (l.drop (spanLen blankB l + (tokOf (l.drop (spanLen blankB l))).len)) (p + spanLen blankB l + (tokOf (l.drop (spanLen blankB l))).len) (acc ++ [bareF (tokOf (l.drop (spanLen blankB l)))])
      else ⟨[], (tokOf (l.drop (spanLen blankB l))).err, p + spanLen blankB l⟩
    else ⟨acc ++ [bareEnd], 0, 0⟩
theorem lexB_succ (f : Nat) (l : Bs) (p : Nat) (acc : List TokL) : lexB (f + 1) l p acc =
    if spanLen blankB l < l.length then
      if (tokOf (l.drop (spanLen blankB l))).err = 0 then
        lexB f (l.drop (spanLen blankB l + (tokOf (l.drop (spanLen blankB l))).len)) (p + spanLen blankB l + (tokOf (l.drop (spanLen blankB l))).len) (acc ++ [bareF (tokOf (l.drop (spanLen blankB l)))])
      else ⟨[], (tokOf (l.drop (spanLen blankB l))).err, p + spanLen blankB l⟩
    else ⟨acc ++ [bareEnd], 0, 0⟩ := rfl
/-- The lexer's answer, without places. -/
structure Likes (R : LexR) (B : BR) : Prop where
  toks : R.toks.map bare = B.toks
  code : R.code = B.code
  off : R.code ≠ 0 → R.pos.1 = B.off
theorem lexGo_bare (s : ByteArray) : ∀ (f p : Nat) (last : Int) (acc : List TokL) (l : Bs) (acc' : List TokL), p ≤ s.size → l = (bs s).drop p → acc.map bare = acc' → Likes (lexGo s f p last acc) (lexB f l p acc')
  | 0, _, _, _, _, _, _, _, _ => ⟨rfl, rfl, fun h => absurd rfl h⟩
  | f + 1, p, last, acc, l, acc', hp, hl, ha => by
    have hll : l.length = s.size - p := by rw [hl, List.length_drop, bs_len]
    have hsp : spanAt blankB s p = spanLen blankB l := by rw [hl]; rfl
    have hdr : (bs s).drop (p + spanLen blankB l) = l.drop (spanLen blankB l) := by rw [hl, List.drop_drop]
    unfold lexGo lexB
    rw [hsp, hdr]
    by_cases h1 : spanLen blankB l < l.length
    · rw [if_pos h1, if_pos (by omega)]
      by_cases h2 : (tokOf (l.drop (spanLen blankB l))).err = 0
      · rw [if_pos h2, if_pos h2]
        obtain ⟨l1, l2⟩ := tokOf_len (l.drop (spanLen blankB l)) (by rw [List.length_drop]; omega) h2
        rw [List.length_drop] at l2
        refine lexGo_bare s f _ _ _ _ _ (by omega) ?_ ?_
        · rw [hl, List.drop_drop, Nat.add_assoc]
        · rw [List.map_append, ha]; rfl
      · rw [if_neg h2, if_neg h2]
        exact ⟨rfl, rfl, fun _ => rfl⟩
    · rw [if_neg h1, if_neg (by omega)]
      exact ⟨by rw [List.map_append, ha]; rfl, rfl, fun h => absurd rfl h⟩
theorem lexAll_bare (s : ByteArray) (hs : s.size ≤ 65536) : Likes (lexAll s) (lexB (s.size + 1) (bs s) 0 []) := by
  unfold lexAll
  rw [if_neg (by omega)]
  exact lexGo_bare s _ _ _ _ _ _ (Nat.zero_le _) rfl rfl
/-- More fuel, the same answer. -/
theorem lexB_fuel : ∀ (f g : Nat) (l : Bs) (p : Nat) (acc : List TokL), l.length < f → l.length < g → lexB f l p acc = lexB g l p acc
  | 0, _, _, _, _, h, _ => by omega
  | _ + 1, 0, _, _, _, _, h => by omega
  | f + 1, g + 1, l, p, acc, hf, hg => by
    unfold lexB
    by_cases h1 : spanLen blankB l < l.length
    · rw [if_pos h1, if_pos h1]
      by_cases h2 : (tokOf (l.drop (spanLen blankB l))).err = 0
      · rw [if_pos h2, if_pos h2]
        obtain ⟨l1, l2⟩ := tokOf_len (l.drop (spanLen blankB l)) (by rw [List.length_drop]; omega) h2
        rw [List.length_drop] at l2
        exact lexB_fuel f g _ _ _ (by rw [List.length_drop]; omega) (by rw [List.length_drop]; omega)
      · rw [if_neg h2, if_neg h2]
    · rw [if_neg h1, if_neg h1]
/-- What was read before stays ahead; where it began is added. -/
theorem lexB_acc : ∀ (f : Nat) (l : Bs) (p : Nat) (acc : List TokL), l.length < f →
    (lexB f l p acc).code = (lexB f l 0 []).code ∧ ((lexB f l 0 []).code = 0 → (lexB f l p acc).toks = acc ++ (lexB f l 0 []).toks) ∧ ((lexB f l 0 []).code ≠ 0 → (lexB f l p acc).off = p + (lexB f l 0 []).off ∧ (lexB f l p acc).toks = [])
  | 0, _, _, _, h => by omega
  | f + 1, l, p, acc, hf => by
    unfold lexB
    by_cases h1 : spanLen blankB l < l.length
    · rw [if_pos h1, if_pos h1]
      by_cases h2 : (tokOf (l.drop (spanLen blankB l))).err = 0
      · rw [if_pos h2, if_pos h2]
        obtain ⟨l1, l2⟩ := tokOf_len (l.drop (spanLen blankB l)) (by rw [List.length_drop]; omega) h2
        rw [List.length_drop] at l2
        have hd : (l.drop (spanLen blankB l + (tokOf (l.drop (spanLen blankB l))).len)).length < f := by rw [List.length_drop]; omega
        obtain ⟨a1, a2, a3⟩ := lexB_acc f _ (p + spanLen blankB l + (tokOf (l.drop (spanLen blankB l))).len) (acc ++ [bareF (tokOf (l.drop (spanLen blankB l)))]) hd
        obtain ⟨b1, b2, b3⟩ := lexB_acc f _ (0 + spanLen blankB l + (tokOf (l.drop (spanLen blankB l))).len) ([] ++ [bareF (tokOf (l.drop (spanLen blankB l)))]) hd
        refine ⟨by rw [a1, b1], fun h => ?_, fun h => ?_⟩
        · rw [b1] at h
          rw [a2 h, b2 h, List.nil_append, List.append_assoc]
        · rw [b1] at h
          rw [(a3 h).1, (b3 h).1]
          exact ⟨by omega, (a3 h).2⟩
      · rw [if_neg h2, if_neg h2]
        exact ⟨rfl, fun h => absurd h h2, fun _ => ⟨by show p + _ = p + (0 + _); omega, rfl⟩⟩
    · rw [if_neg h1, if_neg h1]
      exact ⟨rfl, fun _ => by simp, fun h => absurd rfl h⟩
/-! ### a token, and a blank behind it -/
theorem span_ext (f : UInt8 → Bool) (h : f 32 = false) (m : Bs) : ∀ l : Bs, spanLen f (l ++ 32 :: m) = spanLen f l
  | [] => by unfold spanLen; rw [List.nil_append, List.takeWhile_cons_of_neg (by simp [h])]; rfl
  | a :: l => by
    have ih := span_ext f h m l
    unfold spanLen at *
    by_cases ha : f a = true
    · rw [List.cons_append, List.takeWhile_cons_of_pos ha, List.takeWhile_cons_of_pos ha, List.length_cons, List.length_cons, ih]
    · rw [List.cons_append, List.takeWhile_cons_of_neg ha, List.takeWhile_cons_of_neg ha]
theorem prefix_ext (m : Bs) : ∀ (g l : Bs), g.contains 32 = false → g.isPrefixOf (l ++ 32 :: m) = g.isPrefixOf l
  | [], l, _ => by simp [List.isPrefixOf]
  | a :: g, [], h => by
    have ha : (a == 32) = false := by
      rw [List.contains_cons] at h
      simp only [Bool.or_eq_false_iff] at h
      rw [beq_eq_false_iff_ne]
      intro e; subst e; simp at h
    simp [List.isPrefixOf, ha]
  | a :: g, b :: l, h => by
    rw [List.contains_cons] at h
    simp only [Bool.or_eq_false_iff] at h
    rw [List.cons_append, List.isPrefixOf, List.isPrefixOf, prefix_ext m g l h.2]
theorem noteGo_ext (x : Bs) : ∀ (n : Nat) (l out : Bs) (i : Nat), l.length ≤ n → (noteGo l out i).2.2 = 0 → noteGo (l ++ x) out i = noteGo l out i
  | n, [], out, i, _, h => by rw [noteGo_nil] at h; cases h
  | 0, c :: l, out, i, hn, h => by simp at hn
  | n + 1, c :: l, out, i, hn, h => by
    simp only [List.length_cons] at hn
    by_cases h1 : c = 125
    · subst h1; rw [List.cons_append, noteGo_end, noteGo_end]
    by_cases h2 : c = 92
    · subst h2
      match l, hn, h with
      | [], hn, h => rw [noteGo_bs0] at h; cases h
      | d :: l', hn, h =>
        simp only [List.length_cons] at hn
        by_cases h3 : d = 92 ∨ d = 125
        · by_cases ho : out.length = 1024
          · rw [noteGo_bs_full _ _ _ _ h3 ho] at h; cases h
          · rw [noteGo_bs _ _ _ _ h3 ho] at h ⊢
            rw [List.cons_append, List.cons_append, noteGo_bs _ _ _ _ h3 ho]
            exact noteGo_ext x n l' _ _ (by omega) h
        · rw [noteGo_bs_bad _ _ _ _ h3] at h; cases h
    · cases hr : rightB c with
      | true =>
        by_cases ho : out.length = 1024
        · rw [noteGo_full _ _ _ _ h1 h2 hr ho] at h; cases h
        · rw [noteGo_go _ _ _ _ h1 h2 hr ho] at h ⊢
          rw [List.cons_append, noteGo_go _ _ _ _ h1 h2 hr ho]
          exact noteGo_ext x n l _ _ (by omega) h
      | false => rw [noteGo_bad _ _ _ _ h1 h2 hr] at h; cases h
theorem find_ext (m l : Bs) : ∀ gs : List Bs, (∀ g ∈ gs, g.contains 32 = false) → gs.find? (fun g => g.isPrefixOf (l ++ 32 :: m)) = gs.find? (fun g => g.isPrefixOf l)
  | [], _ => rfl
  | g :: gs, h => by
    rw [List.find?_cons, List.find?_cons, prefix_ext m g l (h g (by simp)), find_ext m l gs (fun x hx => h x (by simp [hx]))]
theorem tokOf_ext (l m : Bs) (hl : 0 < l.length) (h : (tokOf l).err = 0) : tokOf (l ++ 32 :: m) = tokOf l := by
  match l, hl with
  | c :: r, hl =>
    have hnb : noteBegins ((c :: r) ++ 32 :: m) = noteBegins (c :: r) := rfl
    unfold tokOf at *
    rw [hnb]
    by_cases h1 : noteBegins (c :: r) = true
    · rw [if_pos h1] at h ⊢
      rw [if_pos h1]
      have e0 : noteRead (c :: r) = noteGo r [] 1 := by unfold noteRead; rw [if_pos h1]; rfl
      have e1 : noteRead ((c :: r) ++ 32 :: m) = noteGo (r ++ 32 :: m) [] 1 := by unfold noteRead; rw [hnb, if_pos h1]; rfl
      have hr : noteRead ((c :: r) ++ 32 :: m) = noteRead (c :: r) := by
        rw [e0, e1]
        by_cases h2 : (noteRead (c :: r)).2.2 = 0
        · rw [e0] at h2
          exact noteGo_ext (32 :: m) r.length r [] 1 (Nat.le_refl _) h2
        · rw [if_neg h2] at h; exact absurd h h2
      rw [hr]
    · rw [if_neg h1] at h ⊢
      rw [if_neg h1]
      unfold tokPlain at *
      simp only [List.cons_append] at h ⊢
      by_cases h2 : letterB c = true
      · rw [if_pos h2] at h ⊢
        rw [if_pos h2]
        unfold tokName
        have e1 := span_ext nameB (by decide) m (c :: r)
        rw [List.cons_append] at e1
        have e2 : (c :: (r ++ 32 :: m)).take (spanLen nameB (c :: r)) = (c :: r).take (spanLen nameB (c :: r)) := by
          rw [← List.cons_append, List.take_append_of_le_length (spanLen_le _ _)]
        rw [e1, e2]
      rw [if_neg h2] at h ⊢
      rw [if_neg h2]
      by_cases h3 : digB c = true
      · rw [if_pos h3] at h ⊢
        rw [if_pos h3]
        unfold tokInt
        have e1 := span_ext digB (by decide) m (c :: r)
        rw [List.cons_append] at e1
        have e2 : (c :: (r ++ 32 :: m)).take (spanLen digB (c :: r)) = (c :: r).take (spanLen digB (c :: r)) := by
          rw [← List.cons_append, List.take_append_of_le_length (spanLen_le _ _)]
        rw [e1, e2]
      rw [if_neg h3] at h ⊢
      rw [if_neg h3]
      by_cases h4 : c = 39
      · rw [if_pos h4] at h ⊢
        rw [if_pos h4]
        unfold tokQuoted at *
        have e1 := prefix_ext m [39, 39, 39, 39] (c :: r) (by decide)
        rw [List.cons_append] at e1
        rw [e1]
        by_cases h5 : ([39, 39, 39, 39] : Bs).isPrefixOf (c :: r) = true
        · rw [if_pos h5, if_pos h5]
        · rw [if_neg h5] at h ⊢
          rw [if_neg h5]
          match r, h with
          | x :: y :: z, h => rfl
          | [], h => cases h
          | [_], h => cases h
      rw [if_neg h4] at h ⊢
      rw [if_neg h4]
      by_cases h5 : c = 35
      · rw [if_pos h5] at h ⊢
        rw [if_pos h5]
        unfold tokNumbered
        simp only [List.drop_succ_cons, List.drop_zero]
        rw [span_ext digB (by decide) m r, List.take_append_of_le_length (spanLen_le _ _)]
      rw [if_neg h5] at h ⊢
      rw [if_neg h5]
      unfold tokSign signOf
      have e1 := find_ext m (c :: r) pasSigns (by decide)
      rw [List.cons_append] at e1
      rw [e1]
/-- Behind a text that has tokens, and a blank: another text's answer, further on. -/
theorem lexB_join (m : Bs) : ∀ (f : Nat) (l : Bs) (p : Nat) (acc : List TokL), l.length < f → (lexB f l p acc).code = 0 →
    ∃ a, (lexB f l p acc).toks = a ++ [bareEnd] ∧ ∀ g, l.length + 1 + m.length < g → ∃ h, m.length < h ∧ lexB g (l ++ 32 :: m) p acc = lexB h m (p + l.length + 1) a
  | 0, _, _, _, h, _ => by omega
  | f + 1, l, p, acc, hf, hc => by
    rw [lexB_succ] at hc
    rw [lexB_succ]
    by_cases h1 : spanLen blankB l < l.length
    · rw [if_pos h1] at hc ⊢
      by_cases h2 : (tokOf (l.drop (spanLen blankB l))).err = 0
      · rw [if_pos h2] at hc ⊢
        have hdl : 0 < (l.drop (spanLen blankB l)).length := by rw [List.length_drop]; omega
        obtain ⟨l1, l2⟩ := tokOf_len (l.drop (spanLen blankB l)) hdl h2
        have l3 := l2
        rw [List.length_drop] at l3
        obtain ⟨a, e1, e2⟩ := lexB_join m f _ _ _ (by rw [List.length_drop]; omega) hc
        refine ⟨a, e1, fun g hg => ?_⟩
        obtain ⟨g', rfl⟩ : ∃ g', g = g' + 1 := ⟨g - 1, by omega⟩
        obtain ⟨h, hh, e3⟩ := e2 g' (by rw [List.length_drop]; omega)
        refine ⟨h, hh, ?_⟩
        have hs : spanLen blankB (l ++ 32 :: m) = spanLen blankB l := by
          obtain ⟨x, y, hxy⟩ : ∃ x y, l.drop (spanLen blankB l) = x :: y := by
            match hq : l.drop (spanLen blankB l), hdl with
            | x :: y, _ => exact ⟨x, y, rfl⟩
          have hx : blankB x = false := by
            refine spanLen_end blankB l x ?_
            have : (l.drop (spanLen blankB l))[0]? = some x := by rw [hxy]; rfl
            rw [List.getElem?_drop] at this; simpa using this
          have ht : l = l.take (spanLen blankB l) ++ x :: y := by rw [← hxy, List.take_append_drop]
          have hk : ∀ (u v : Bs), (∀ c ∈ u, blankB c = true) → spanLen blankB (u ++ x :: v) = u.length := by
            intro u v hu
            induction u with
            | nil => unfold spanLen; rw [List.nil_append, List.takeWhile_cons_of_neg (by simp [hx])]
            | cons b u ih =>
              unfold spanLen at *
              rw [List.cons_append, List.takeWhile_cons_of_pos (hu b (by simp)), List.length_cons, List.length_cons, ih (fun c hc => hu c (by simp [hc]))]
          have hb : ∀ c ∈ l.take (spanLen blankB l), blankB c = true := by
            intro c hc
            obtain ⟨k, hk, rfl⟩ := List.mem_iff_getElem.1 hc
            have hk2 : k < spanLen blankB l := by rw [List.length_take] at hk; omega
            obtain ⟨d, d1, d2⟩ := spanLen_at blankB l k hk2
            have : (l.take (spanLen blankB l))[k]? = some d := by rw [List.getElem?_take_of_lt hk2]; exact d1
            rw [List.getElem?_eq_getElem hk] at this
            injection this with this
            rw [this]; exact d2
          have h5 : l ++ 32 :: m = l.take (spanLen blankB l) ++ x :: (y ++ 32 :: m) := by
            conv => lhs; rw [ht]
            rw [List.append_assoc, List.cons_append]
          rw [h5, hk _ _ hb, List.length_take]; omega
        have hd : (l ++ 32 :: m).drop (spanLen blankB l) = l.drop (spanLen blankB l) ++ 32 :: m := List.drop_append_of_le_length (by omega)
        have ht := tokOf_ext (l.drop (spanLen blankB l)) m hdl h2
        have hd2 : (l ++ 32 :: m).drop (spanLen blankB l + (tokOf (l.drop (spanLen blankB l))).len) = l.drop (spanLen blankB l + (tokOf (l.drop (spanLen blankB l))).len) ++ 32 :: m := List.drop_append_of_le_length (by omega)
        rw [lexB_succ, hs, hd, ht, if_pos (by rw [List.length_append]; omega), if_pos h2, hd2, e3]
        rw [List.length_drop, show p + spanLen blankB l + (tokOf (l.drop (spanLen blankB l))).len + (l.length - (spanLen blankB l + (tokOf (l.drop (spanLen blankB l))).len)) + 1 = p + l.length + 1 from by omega]
      · rw [if_neg h2] at hc; exact absurd hc h2
    · rw [if_neg h1]
      refine ⟨acc, rfl, fun g hg => ?_⟩
      obtain ⟨g', rfl⟩ : ∃ g', g = g' + 1 := ⟨g - 1, by omega⟩
      refine ⟨g' + 1, by omega, ?_⟩
      have hle := spanLen_le blankB l
      have hsl : spanLen blankB l = l.length := by omega
      have hs : ∀ u : Bs, spanLen blankB u = u.length → spanLen blankB (u ++ 32 :: m) = u.length + 1 + spanLen blankB m := by
        intro u
        induction u with
        | nil => intro _; unfold spanLen; rw [List.nil_append, List.takeWhile_cons_of_pos (by decide), List.length_cons, List.length_nil]; omega
        | cons b u ih =>
          intro hu
          unfold spanLen at *
          by_cases hb : blankB b = true
          · rw [List.takeWhile_cons_of_pos hb, List.length_cons, List.length_cons] at hu
            rw [List.cons_append, List.takeWhile_cons_of_pos hb, List.length_cons, List.length_cons, ih (by omega)]; omega
          · rw [List.takeWhile_cons_of_neg hb] at hu; simp at hu
      have hs := hs l hsl
      have hlen : (l ++ 32 :: m).length = l.length + 1 + m.length := by rw [List.length_append, List.length_cons]; omega
      have hd : ∀ k, (l ++ 32 :: m).drop (l.length + 1 + k) = m.drop k := by
        intro k
        rw [show l.length + 1 + k = l.length + (k + 1) from by omega, List.drop_append, List.drop_eq_nil_of_le (by omega)]
        rw [show l.length + (k + 1) - l.length = k + 1 from by omega, List.drop_succ_cons, List.nil_append]
      rw [lexB_succ, lexB_succ, hs, hlen, hd]
      by_cases h2 : spanLen blankB m < m.length
      · rw [if_pos h2, if_pos (by omega)]
        by_cases h3 : (tokOf (m.drop (spanLen blankB m))).err = 0
        · rw [if_pos h3, if_pos h3]
          have e1 := hd (spanLen blankB m + (tokOf (m.drop (spanLen blankB m))).len)
          rw [show l.length + 1 + (spanLen blankB m + (tokOf (m.drop (spanLen blankB m))).len) = l.length + 1 + spanLen blankB m + (tokOf (m.drop (spanLen blankB m))).len from by omega] at e1
          rw [e1, show p + (l.length + 1 + spanLen blankB m) + (tokOf (m.drop (spanLen blankB m))).len = p + l.length + 1 + spanLen blankB m + (tokOf (m.drop (spanLen blankB m))).len from by omega]
        · rw [if_neg h3, if_neg h3, show p + (l.length + 1 + spanLen blankB m) = p + l.length + 1 + spanLen blankB m from by omega]
      · rw [if_neg h2, if_neg (by omega)]
/-- The two texts, joined by a blank. -/
theorem joins (s t : ByteArray) (hs : s.size ≤ 3000) (ht : t.size ≤ 3000) (u : ByteArray) (hu : bs u = bs s ++ 32 :: bs t) (h0 : (lexAll s).code = 0) :
    ∃ a, (lexAll s).toks.map bare = a ++ [bareEnd] ∧ (lexAll u).code = (lexAll t).code ∧ ((lexAll t).code ≠ 0 → (lexAll u).pos.1 = s.size + 1 + (lexAll t).pos.1) ∧ ((lexAll t).code = 0 → (lexAll u).toks.map bare = a ++ (lexAll t).toks.map bare) := by
  have hus : u.size = s.size + 1 + t.size := by rw [← bs_len, hu, List.length_append, List.length_cons, bs_len, bs_len]; omega
  have ls := lexAll_bare s (by omega)
  have lt := lexAll_bare t (by omega)
  have lu := lexAll_bare u (by omega)
  obtain ⟨a, e1, e2⟩ := lexB_join (bs t) (s.size + 1) (bs s) 0 [] (by rw [bs_len]; omega) (by rw [← ls.code]; exact h0)
  obtain ⟨h, hh, e3⟩ := e2 (u.size + 1) (by rw [bs_len, bs_len]; omega)
  rw [hu, e3, bs_len] at lu
  rw [bs_len] at hh
  obtain ⟨c1, c2, c3⟩ := lexB_acc h (bs t) (0 + s.size + 1) a (by rw [bs_len]; exact hh)
  have hf := lexB_fuel h (t.size + 1) (bs t) 0 [] (by rw [bs_len]; exact hh) (by rw [bs_len]; omega)
  rw [hf] at c1 c2 c3
  have hcode : (lexAll u).code = (lexAll t).code := by rw [lu.code, c1, lt.code]
  refine ⟨a, by rw [ls.toks, e1], hcode, fun hne => ?_, fun h0 => ?_⟩
  · have h5 : (lexAll u).code ≠ 0 := by rw [hcode]; exact hne
    rw [lu.off h5, (c3 (by rw [← lt.code]; exact hne)).1, lt.off hne]; omega
  · rw [lu.toks, c2 (by rw [← lt.code]; exact h0), lt.toks]
end Go.Proofs.YtgmmjhelcpgakaaGreatDoor
/- Names and words in great letters: the plain law. -/
namespace Go.Proofs.YtgmmjhelcpgakaaGreatDoor
open Go.RowKit
set_option linter.unusedVariables false
set_option linter.unusedSimpArgs false

theorem all_u8 {p : UInt8 → Bool} (h : ∀ n : Fin 256, p (UInt8.ofNat n.val) = true) (c : UInt8) : p c = true := by
  have := h ⟨c.toNat, UInt8.toNat_lt c⟩
  simpa using this
def upB (c : UInt8) : UInt8 := if smallB c = true then c - 97 + 65 else c
def upL (l : Bs) : Bs := l.map upB
structure GoodWord (l : Bs) (kind : Nat) : Prop where
  len : l.length ≤ 32
  head : ∃ c r, l = c :: r ∧ smallB c = true
  all : ∀ c ∈ l, nameB c = true ∧ greatB c = false
  kind : kind = if isWord l = true then 2 else 1
theorem up_low (c : UInt8) (h : greatB c = false) : Lib.lowerB (upB c) = c := by
  have h1 := all_u8 (p := fun c => greatB c || Lib.lowerB (upB c) == c) (by decide +kernel) c
  simp [h] at h1
  exact h1
theorem up_name (c : UInt8) (h : nameB c = true) : nameB (upB c) = true := by
  have h1 := all_u8 (p := fun c => !nameB c || nameB (upB c)) (by decide +kernel) c
  simp [h] at h1
  exact h1
theorem up_head (c : UInt8) (h : smallB c = true) : letterB (upB c) = true ∧ blankB (upB c) = false ∧ upB c ≠ 123 := by
  have h1 := all_u8 (p := fun c => !smallB c || (letterB (upB c) && !blankB (upB c) && upB c != 123)) (by decide +kernel) c
  simp [h] at h1
  exact ⟨h1.1.1, h1.1.2, h1.2⟩
theorem low_name (c : UInt8) (h : nameB c = true) : nameB (Lib.lowerB c) = true ∧ greatB (Lib.lowerB c) = false := by
  have h1 := all_u8 (p := fun c => !nameB c || (nameB (Lib.lowerB c) && !greatB (Lib.lowerB c))) (by decide +kernel) c
  simp [h] at h1
  exact h1
theorem low_head (c : UInt8) (h : letterB c = true) : smallB (Lib.lowerB c) = true := by
  have h1 := all_u8 (p := fun c => !letterB c || smallB (Lib.lowerB c)) (by decide +kernel) c
  simp [h] at h1
  exact h1
theorem span_all (f : UInt8 → Bool) : ∀ l : Bs, (∀ c ∈ l, f c = true) → spanLen f l = l.length
  | [], _ => rfl
  | a :: l, h => by
    unfold spanLen
    rw [List.takeWhile_cons_of_pos (h a (by simp)), List.length_cons, List.length_cons]
    have := span_all f l (fun c hc => h c (by simp [hc]))
    unfold spanLen at this
    rw [this]
theorem span_take (f : UInt8 → Bool) (l : Bs) : ∀ c ∈ l.take (spanLen f l), f c = true := by
  intro c hc
  obtain ⟨k, hk, rfl⟩ := List.mem_iff_getElem.1 hc
  have hk2 : k < spanLen f l := by rw [List.length_take] at hk; omega
  obtain ⟨c, h1, h2⟩ := spanLen_at f l k hk2
  have : (l.take (spanLen f l))[k]? = some c := by rw [List.getElem?_take_of_lt hk2]; exact h1
  rw [List.getElem?_eq_getElem hk] at this
  injection this with this
  rw [this]; exact h2
theorem tokName_good (c : UInt8) (r : Bs) (hc : letterB c = true) (h : (tokName (c :: r)).err = 0) : GoodWord (tokName (c :: r)).text (tokName (c :: r)).kind := by
  unfold tokName at *
  by_cases h2 : spanLen nameB (c :: r) ≤ 32
  · rw [if_pos h2]
    refine ⟨?_, ?_, ?_, rfl⟩
    · show (lowL _).length ≤ 32
      unfold lowL Lib.toLowerA
      rw [List.length_map, List.length_take]; omega
    · have hp := span_pos nameB c r (letter_name hc)
      obtain ⟨n, hn⟩ : ∃ n, spanLen nameB (c :: r) = n + 1 := ⟨spanLen nameB (c :: r) - 1, by omega⟩
      refine ⟨Lib.lowerB c, (r.take n).map Lib.lowerB, ?_, low_head c hc⟩
      show lowL _ = _
      unfold lowL Lib.toLowerA
      rw [hn, List.take_succ_cons, List.map_cons]
    · intro d hd
      have hd' : d ∈ lowL ((c :: r).take (spanLen nameB (c :: r))) := hd
      unfold lowL Lib.toLowerA at hd'
      obtain ⟨e, he, rfl⟩ := List.mem_map.1 hd'
      exact low_name e (span_take nameB _ e he)
  · rw [if_neg h2] at h; cases h
theorem tokQuoted_kind (l : Bs) (h : (tokQuoted l).err = 0) : (tokQuoted l).kind = 4 := by
  unfold tokQuoted at *
  by_cases h1 : ([39, 39, 39, 39] : Bs).isPrefixOf l = true
  · rw [if_pos h1]
  · rw [if_neg h1] at *
    match l, h with
    | _ :: c :: d :: r, h =>
      simp only at h ⊢
      by_cases h2 : plainB c = true ∧ d = 39
      · rw [if_pos h2]
      · rw [if_neg h2] at h; cases h
    | [], h => cases h
    | [_], h => cases h
    | [_, _], h => cases h
theorem tokNumbered_kind (l : Bs) (h : (tokNumbered l).err = 0) : (tokNumbered l).kind = 4 := by
  unfold tokNumbered at *
  by_cases h1 : spanLen digB (l.drop 1) = 0 ∨ 3 < spanLen digB (l.drop 1)
  · rw [if_pos h1] at h; cases h
  · rw [if_neg h1] at *
    split at h
    · rename_i n hn
      by_cases h3 : 255 < n
      · rw [if_pos h3] at h; cases h
      · show (if 255 < n then fail 7 else (⟨0, 4, [], n, 1 + spanLen digB (l.drop 1)⟩ : Fd)).kind = 4
        rw [if_neg h3]
    · cases h
theorem tokOf_good (l : Bs) (h : (tokOf l).err = 0) (hk : (tokOf l).kind = 1 ∨ (tokOf l).kind = 2) : GoodWord (tokOf l).text (tokOf l).kind := by
  unfold tokOf at *
  by_cases h1 : noteBegins l = true
  · rw [if_pos h1] at h hk ⊢
    by_cases h2 : (noteRead l).2.2 = 0
    · rw [if_pos h2] at hk; rcases hk with hk | hk <;> cases hk
    · rw [if_neg h2] at h; exact absurd h h2
  · rw [if_neg h1] at h hk ⊢
    match l, h, hk with
    | [], h, hk => cases h
    | c :: r, h, hk =>
      unfold tokPlain at *
      simp only at h hk ⊢
      by_cases h1 : letterB c = true
      · rw [if_pos h1] at h hk ⊢; exact tokName_good c r h1 h
      rw [if_neg h1] at h hk ⊢
      by_cases h2 : digB c = true
      · rw [if_pos h2] at h hk
        unfold tokInt at h hk
        split at h
        · rename_i n hn
          rw [hn] at hk
          rcases hk with hk | hk <;> cases hk
        · cases h
      rw [if_neg h2] at h hk ⊢
      by_cases h3 : c = 39
      · rw [if_pos h3] at h hk; rw [tokQuoted_kind _ h] at hk; rcases hk with hk | hk <;> cases hk
      rw [if_neg h3] at h hk ⊢
      by_cases h4 : c = 35
      · rw [if_pos h4] at h hk; rw [tokNumbered_kind _ h] at hk; rcases hk with hk | hk <;> cases hk
      rw [if_neg h4] at h hk
      unfold tokSign at h hk
      split at h
      · rename_i g hg
        rw [hg] at hk
        rcases hk with hk | hk <;> cases hk
      · cases h
def Worded (t : TokL) : Prop := t.kind = 1 ∨ t.kind = 2 → GoodWord (bs t.text) t.kind
theorem lexGo_good (s : ByteArray) : ∀ (f p : Nat) (last : Int) (acc : List TokL), (∀ t ∈ acc, Worded t) → ∀ t ∈ (lexGo s f p last acc).toks, Worded t
  | 0, _, _, _, _ => by intro t ht; simp [lexGo] at ht
  | f + 1, p, last, acc, ha => by
    unfold lexGo
    by_cases h1 : p + spanAt blankB s p < s.size
    · rw [if_pos h1]
      by_cases h2 : (tokOf ((bs s).drop (p + spanAt blankB s p))).err = 0
      · rw [if_pos h2]
        refine lexGo_good s f _ _ _ ?_
        intro t ht
        rcases List.mem_append.1 ht with ht | ht
        · exact ha t ht
        · rw [List.mem_singleton] at ht
          subst ht
          intro hk
          have := tokOf_good _ h2 hk
          unfold tokAt
          simpa [bs] using this
      · rw [if_neg h2]; intro t ht; cases ht
    · rw [if_neg h1]
      intro t ht
      rcases List.mem_append.1 ht with ht | ht
      · exact ha t ht
      · rw [List.mem_singleton] at ht
        subst ht
        intro hk
        rcases hk with hk | hk <;> cases hk
theorem lexAll_good (s : ByteArray) : ∀ t ∈ (lexAll s).toks, Worded t := by
  unfold lexAll
  by_cases h : 65536 < s.size
  · rw [if_pos h]; intro t ht; cases ht
  · rw [if_neg h]; exact lexGo_good s _ _ _ _ (fun t ht => by cases ht)
theorem lexGo_count (s : ByteArray) : ∀ (f p : Nat) (last : Int) (acc : List TokL), p ≤ s.size → (lexGo s f p last acc).toks.length ≤ acc.length + (s.size - p) + 1
  | 0, _, _, _, _ => by simp [lexGo]
  | f + 1, p, last, acc, hp => by
    unfold lexGo
    have hle := spanAt_le blankB s p hp
    by_cases h1 : p + spanAt blankB s p < s.size
    · rw [if_pos h1]
      by_cases h2 : (tokOf ((bs s).drop (p + spanAt blankB s p))).err = 0
      · rw [if_pos h2]
        have hl : ((bs s).drop (p + spanAt blankB s p)).length = s.size - (p + spanAt blankB s p) := by rw [List.length_drop, bs_len]
        obtain ⟨l1, l2⟩ := tokOf_len _ (by rw [hl]; omega) h2
        rw [hl] at l2
        refine Nat.le_trans (lexGo_count s f _ _ _ (by omega)) ?_
        rw [List.length_append, List.length_singleton]
        omega
      · rw [if_neg h2]; simp
    · rw [if_neg h1]
      show (acc ++ _).length ≤ _
      rw [List.length_append, List.length_singleton]; omega
theorem lexAll_count (s : ByteArray) : (lexAll s).toks.length ≤ s.size + 1 := by
  unfold lexAll
  by_cases h : 65536 < s.size
  · rw [if_pos h]; exact Nat.zero_le _
  · rw [if_neg h]; have := lexGo_count s (s.size + 1) 0 (-1) [] (Nat.zero_le _); simpa using this
/-- In great letters it is the same word. -/
theorem good_lex (l : Bs) (kind : Nat) (h : GoodWord l kind) : ∃ a b, lexAll ⟨(upL l).toArray⟩ = ⟨[a, b], 0, (0, 0, 0)⟩ ∧ a.kind = kind ∧ a.text = ⟨l.toArray⟩ := by
  obtain ⟨S, hS⟩ : ∃ S : ByteArray, S = ⟨(upL l).toArray⟩ := ⟨_, rfl⟩
  rw [← hS]
  have hb : bs S = upL l := by rw [hS]; simp [bs]
  have hlen : (upL l).length = l.length := by unfold upL; rw [List.length_map]
  have hsz : S.size = l.length := by rw [← hlen, ← hb, bs_len]
  obtain ⟨c, r, hl, hc⟩ := h.head
  have hu : upL l = upB c :: upL r := by rw [hl]; rfl
  obtain ⟨u1, u2, u3⟩ := up_head c hc
  have hpos : 0 < l.length := by rw [hl]; simp
  have hle := h.len
  have hsp : spanLen nameB (upL l) = l.length := by
    rw [span_all nameB, hlen]
    intro d hd
    unfold upL at hd
    obtain ⟨e, he, rfl⟩ := List.mem_map.1 hd
    exact up_name e (h.all e he).1
  have hlow : lowL (upL l) = l := by
    unfold lowL Lib.toLowerA upL
    rw [List.map_map]
    refine (List.map_congr_left (g := id) ?_).trans (List.map_id l)
    intro d hd
    exact up_low d (h.all d hd).2
  have htk : (upL l).take l.length = upL l := by rw [← hlen, List.take_length]
  have hbl : spanAt blankB S 0 = 0 := by
    unfold spanAt spanLen
    rw [List.drop_zero, hb, hu, List.takeWhile_cons_of_neg (by simp [u2])]; rfl
  have htok : tokOf ((bs S).drop (0 + spanAt blankB S 0)) = ⟨0, kind, l, 0, l.length⟩ := by
    rw [hbl, List.drop_zero, hb]
    unfold tokOf noteBegins
    have hn : ((upL l).head? == some 123) = false := by rw [hu]; simpa using u3
    rw [hn, if_neg (by decide)]
    have h1 : tokPlain (upL l) = tokName (upL l) := by
      rw [hu]; unfold tokPlain; simp only; rw [if_pos u1]
    rw [h1]
    unfold tokName
    rw [hsp, if_pos hle, htk, hlow, ← h.kind]
  have hend : spanAt blankB S l.length = 0 := by
    unfold spanAt spanLen
    rw [hb, ← hlen, List.drop_length]; rfl
  obtain ⟨n, hn⟩ : ∃ n, l.length = n + 1 := ⟨l.length - 1, by omega⟩
  refine ⟨tokAt S 0 (-1) ⟨0, kind, l, 0, l.length⟩, endAt S l.length (lineAt S l.length : Nat), ?_, rfl, rfl⟩
  unfold lexAll
  rw [if_neg (by omega)]
  unfold lexGo
  rw [if_pos (by rw [hbl, hsz]; omega), htok, if_pos rfl, hbl, hsz, hn]
  unfold lexGo
  rw [show 0 + 0 + (n + 1) = l.length from by omega, hend, if_neg (by rw [hsz]; omega)]
  simp only [List.nil_append, List.cons_append, Nat.add_zero]
  rw [hn]
end Go.Proofs.YtgmmjhelcpgakaaGreatDoor
/- Tokens' own texts, with blanks between them, are these tokens again: the plain law. -/
namespace Go.Proofs.YtgmmjhelcpgakaaGreatDoor
open Go.RowKit
set_option linter.unusedVariables false
set_option linter.unusedSimpArgs false

theorem blank_not (b : UInt8) (h : blankB b = true) : nameB b = false ∧ digB b = false ∧ ([39, 39, 39, 39] : Bs).contains b = false ∧ (pasSigns.all fun g => !g.contains b) = true := by
  have h1 := all_u8 (p := fun b => !blankB b || (!nameB b && !digB b && !([39, 39, 39, 39] : Bs).contains b && (pasSigns.all fun g => !g.contains b))) (by decide +kernel) b
  rw [h] at h1
  simp only [Bool.not_true, Bool.false_or, Bool.and_eq_true, Bool.not_eq_true'] at h1
  exact ⟨h1.1.1.1, h1.1.1.2, h1.1.2, h1.2⟩
theorem span_extb (z0 : UInt8) (f : UInt8 → Bool) (h : f z0 = false) (m : Bs) : ∀ l : Bs, spanLen f (l ++ z0 :: m) = spanLen f l
  | [] => by unfold spanLen; rw [List.nil_append, List.takeWhile_cons_of_neg (by simp [h])]; rfl
  | a :: l => by
    have ih := span_extb z0 f h m l
    unfold spanLen at *
    by_cases ha : f a = true
    · rw [List.cons_append, List.takeWhile_cons_of_pos ha, List.takeWhile_cons_of_pos ha, List.length_cons, List.length_cons, ih]
    · rw [List.cons_append, List.takeWhile_cons_of_neg ha, List.takeWhile_cons_of_neg ha]
theorem prefix_extb (z0 : UInt8) (m : Bs) : ∀ (g l : Bs), g.contains z0 = false → g.isPrefixOf (l ++ z0 :: m) = g.isPrefixOf l
  | [], l, _ => by simp [List.isPrefixOf]
  | a :: g, [], h => by
    have ha : (a == z0) = false := by
      rw [List.contains_cons] at h
      simp only [Bool.or_eq_false_iff] at h
      rw [beq_eq_false_iff_ne]
      intro e; subst e; simp at h
    simp [List.isPrefixOf, ha]
  | a :: g, b :: l, h => by
    rw [List.contains_cons] at h
    simp only [Bool.or_eq_false_iff] at h
    rw [List.cons_append, List.isPrefixOf, List.isPrefixOf, prefix_extb z0 m g l h.2]
theorem find_extb (z0 : UInt8) (m l : Bs) : ∀ gs : List Bs, (∀ g ∈ gs, g.contains z0 = false) → gs.find? (fun g => g.isPrefixOf (l ++ z0 :: m)) = gs.find? (fun g => g.isPrefixOf l)
  | [], _ => rfl
  | g :: gs, h => by
    rw [List.find?_cons, List.find?_cons, prefix_extb z0 m g l (h g (by simp)), find_extb z0 m l gs (fun x hx => h x (by simp [hx]))]
theorem tokOf_extb (z0 : UInt8) (hb : blankB z0 = true) (l m : Bs) (hl : 0 < l.length) (h : (tokOf l).err = 0) : tokOf (l ++ z0 :: m) = tokOf l := by
  match l, hl with
  | c :: r, hl =>
    have hnb : noteBegins ((c :: r) ++ z0 :: m) = noteBegins (c :: r) := rfl
    unfold tokOf at *
    rw [hnb]
    by_cases h1 : noteBegins (c :: r) = true
    · rw [if_pos h1] at h ⊢
      rw [if_pos h1]
      have e0 : noteRead (c :: r) = noteGo r [] 1 := by unfold noteRead; rw [if_pos h1]; rfl
      have e1 : noteRead ((c :: r) ++ z0 :: m) = noteGo (r ++ z0 :: m) [] 1 := by unfold noteRead; rw [hnb, if_pos h1]; rfl
      have hr : noteRead ((c :: r) ++ z0 :: m) = noteRead (c :: r) := by
        rw [e0, e1]
        by_cases h2 : (noteRead (c :: r)).2.2 = 0
        · rw [e0] at h2
          exact noteGo_ext (z0 :: m) r.length r [] 1 (Nat.le_refl _) h2
        · rw [if_neg h2] at h; exact absurd h h2
      rw [hr]
    · rw [if_neg h1] at h ⊢
      rw [if_neg h1]
      unfold tokPlain at *
      simp only [List.cons_append] at h ⊢
      by_cases h2 : letterB c = true
      · rw [if_pos h2] at h ⊢
        rw [if_pos h2]
        unfold tokName
        have e1 := span_extb z0 nameB (blank_not z0 hb).1 m (c :: r)
        rw [List.cons_append] at e1
        have e2 : (c :: (r ++ z0 :: m)).take (spanLen nameB (c :: r)) = (c :: r).take (spanLen nameB (c :: r)) := by
          rw [← List.cons_append, List.take_append_of_le_length (spanLen_le _ _)]
        rw [e1, e2]
      rw [if_neg h2] at h ⊢
      rw [if_neg h2]
      by_cases h3 : digB c = true
      · rw [if_pos h3] at h ⊢
        rw [if_pos h3]
        unfold tokInt
        have e1 := span_extb z0 digB (blank_not z0 hb).2.1 m (c :: r)
        rw [List.cons_append] at e1
        have e2 : (c :: (r ++ z0 :: m)).take (spanLen digB (c :: r)) = (c :: r).take (spanLen digB (c :: r)) := by
          rw [← List.cons_append, List.take_append_of_le_length (spanLen_le _ _)]
        rw [e1, e2]
      rw [if_neg h3] at h ⊢
      rw [if_neg h3]
      by_cases h4 : c = 39
      · rw [if_pos h4] at h ⊢
        rw [if_pos h4]
        unfold tokQuoted at *
        have e1 := prefix_extb z0 m [39, 39, 39, 39] (c :: r) (blank_not z0 hb).2.2.1
        rw [List.cons_append] at e1
        rw [e1]
        by_cases h5 : ([39, 39, 39, 39] : Bs).isPrefixOf (c :: r) = true
        · rw [if_pos h5, if_pos h5]
        · rw [if_neg h5] at h ⊢
          rw [if_neg h5]
          match r, h with
          | x :: y :: z, h => rfl
          | [], h => cases h
          | [_], h => cases h
      rw [if_neg h4] at h ⊢
      rw [if_neg h4]
      by_cases h5 : c = 35
      · rw [if_pos h5] at h ⊢
        rw [if_pos h5]
        unfold tokNumbered
        simp only [List.drop_succ_cons, List.drop_zero]
        rw [span_extb z0 digB (blank_not z0 hb).2.1 m r, List.take_append_of_le_length (spanLen_le _ _)]
      rw [if_neg h5] at h ⊢
      rw [if_neg h5]
      unfold tokSign signOf
      have e1 := find_extb z0 m (c :: r) pasSigns (fun g hg => by have := List.all_eq_true.1 (blank_not z0 hb).2.2.2 g hg; simpa using this)
      rw [List.cons_append] at e1
      rw [e1]

/-! ### texts of tokens -/
def digC (n : Nat) : UInt8 := UInt8.ofNat (48 + n)
def digL (n : Nat) : Bs := if n < 10 then [digC (n)] else digL (n / 10) ++ [digC (n % 10)]
termination_by n
decreasing_by omega
def charL (n : Nat) : Bs := if n = 39 then [39, 39, 39, 39] else if 32 ≤ n ∧ n ≤ 126 then [39, UInt8.ofNat n, 39] else 35 :: digL n
def escL : Bs → Bs
  | [] => []
  | c :: l => if c = 92 ∨ c = 125 then 92 :: c :: escL l else c :: escL l
def noteL (l : Bs) : Bs := 123 :: (escL l ++ [125])
def tokL (kind : Nat) (text : Bs) (n : Int) : Bs :=
  if kind = 1 ∨ kind = 2 ∨ kind = 5 then text else if kind = 3 then digL n.toNat else if kind = 4 then charL n.toNat else if kind = 6 then noteL text else []
theorem dig_of (n : Nat) (h : n < 10) : digB (digC (n)) = true ∧ (digC (n)).toNat = 48 + n := by
  have h2 : (digC n).toNat = 48 + n := by unfold digC; rw [UInt8.toNat_ofNat']; omega
  refine ⟨?_, h2⟩
  unfold digB; rw [h2]; simp; omega
theorem digL_all (n : Nat) : ∀ c ∈ digL n, digB c = true := by
  induction n using digL.induct with
  | case1 n h => unfold digL; rw [if_pos h]; intro c hc; rw [List.mem_singleton.1 hc]; exact (dig_of n h).1
  | case2 n h ih =>
    unfold digL; rw [if_neg h]; intro c hc
    rw [List.mem_append] at hc
    rcases hc with hc | hc
    · exact ih c hc
    · rw [List.mem_singleton.1 hc]; exact (dig_of (n % 10) (by omega)).1
theorem digL_ne (n : Nat) : 0 < (digL n).length := by
  unfold digL; split <;> simp
theorem numGo_app : ∀ (l m : Bs) (a : Nat), numGo a (l ++ m) = (numGo a l).bind fun x => numGo x m
  | [], m, a => rfl
  | c :: l, m, a => by
    rw [List.cons_append, numGo, numGo]
    split
    · rfl
    · exact numGo_app l m _
theorem numGo_digL (n : Nat) (hn : n ≤ 9223372036854775807) : numGo 0 (digL n) = some n := by
  induction n using digL.induct with
  | case1 n h =>
    unfold digL; rw [if_pos h, numGo, (dig_of n h).2, if_neg (by omega), numGo]; congr 1; omega
  | case2 n h ih =>
    unfold digL; rw [if_neg h, numGo_app, ih (by omega)]
    show numGo (n / 10) _ = _
    rw [numGo, (dig_of (n % 10) (by omega)).2, if_neg (by omega), numGo]; congr 1; omega
theorem numGo_max : ∀ (l : Bs) (a n : Nat), numGo a l = some n → a ≤ 9223372036854775807 → n ≤ 9223372036854775807
  | [], a, n, h, ha => by rw [numGo] at h; injection h with h; omega
  | c :: l, a, n, h, ha => by
    rw [numGo] at h
    split at h
    · cases h
    · exact numGo_max l _ n h (by omega)
/-- A number of k digits has k digits at most. -/
theorem numGo_lt : ∀ (l : Bs) (a n : Nat), (∀ c ∈ l, digB c = true) → numGo a l = some n → n < (a + 1) * 10 ^ l.length
  | [], a, n, _, h => by rw [numGo] at h; injection h with h; simp; omega
  | c :: l, a, n, hd, h => by
    rw [numGo] at h
    have hc : 48 ≤ c.toNat ∧ c.toNat ≤ 57 := by have := hd c (by simp); unfold digB at this; simpa using this
    split at h
    · cases h
    · have := numGo_lt l _ n (fun x hx => hd x (by simp [hx])) h
      rw [List.length_cons, Nat.pow_succ]
      have h2 : (10 * a + (c.toNat - 48) + 1) * 10 ^ l.length ≤ ((a + 1) * 10) * 10 ^ l.length := Nat.mul_le_mul_right _ (by omega)
      have h3 : ((a + 1) * 10) * 10 ^ l.length = (a + 1) * (10 ^ l.length * 10) := by rw [Nat.mul_assoc, Nat.mul_comm 10]
      omega
theorem digL_len (k n : Nat) (hk : 0 < k) (h : n < 10 ^ k) : (digL n).length ≤ k := by
  induction n using digL.induct generalizing k with
  | case1 n h1 => unfold digL; rw [if_pos h1]; simp; omega
  | case2 n h1 ih =>
    unfold digL; rw [if_neg h1, List.length_append, List.length_singleton]
    obtain ⟨m, rfl⟩ : ∃ m, k = m + 1 := ⟨k - 1, by omega⟩
    rw [Nat.pow_succ] at h
    have hm : 0 < m := by
      rcases Nat.eq_zero_or_pos m with h0 | h0
      · subst h0; simp at h; omega
      · exact h0
    have := ih m hm (by omega)
    omega
/-- A comment's form is read as the comment. -/
theorem noteGo_esc : ∀ (l out : Bs) (i : Nat), (∀ c ∈ l, rightB c = true) → out.length + l.length ≤ 1024 → noteGo (escL l ++ [125]) out i = (out ++ l, i + (escL l).length + 1, 0)
  | [], out, i, _, _ => by unfold escL; rw [List.nil_append, noteGo_end, List.append_nil]; rfl
  | c :: l, out, i, hr, hl => by
    simp only [List.length_cons] at hl
    have h1 := hr c (by simp)
    have h2 : ∀ d ∈ l, rightB d = true := fun d hd => hr d (by simp [hd])
    unfold escL
    by_cases hc : c = 92 ∨ c = 125
    · rw [if_pos hc, List.cons_append, List.cons_append, noteGo_bs _ _ _ _ hc (by omega), noteGo_esc l (out ++ [c]) (i + 2) h2 (by simp; omega)]
      simp; omega
    · rw [if_neg hc, List.cons_append, noteGo_go _ _ _ _ (fun h => hc (.inr h)) (fun h => hc (.inl h)) h1 (by omega), noteGo_esc l (out ++ [c]) (i + 1) h2 (by simp; omega)]
      simp; omega
/-- What is read of a comment is right, not too long, and its form is as long as what was read. -/
theorem noteGo_good : ∀ (n : Nat) (l out : Bs) (i : Nat) (T : Bs) (u : Nat), l.length ≤ n → noteGo l out i = (T, u, 0) → (∀ c ∈ out, rightB c = true) → out.length ≤ 1024 →
    ∃ m, T = out ++ m ∧ (∀ c ∈ T, rightB c = true) ∧ T.length ≤ 1024 ∧ u = i + (escL m).length + 1
  | n, [], out, i, T, u, _, h, _, _ => by rw [noteGo_nil] at h; cases h
  | 0, c :: l, out, i, T, u, hn, h, _, _ => by simp at hn
  | n + 1, c :: l, out, i, T, u, hn, h, hr, ho => by
    simp only [List.length_cons] at hn
    by_cases h1 : c = 125
    · subst h1; rw [noteGo_end] at h
      simp only [Prod.mk.injEq] at h
      obtain ⟨rfl, rfl, _⟩ := h
      exact ⟨[], by simp, hr, ho, by simp [escL]⟩
    by_cases h2 : c = 92
    · subst h2
      match l, hn, h with
      | [], hn, h => rw [noteGo_bs0] at h; cases h
      | d :: l', hn, h =>
        simp only [List.length_cons] at hn
        by_cases h3 : d = 92 ∨ d = 125
        · by_cases h4 : out.length = 1024
          · rw [noteGo_bs_full _ _ _ _ h3 h4] at h; cases h
          · rw [noteGo_bs _ _ _ _ h3 h4] at h
            have hd : rightB d = true := by rcases h3 with rfl | rfl <;> decide
            obtain ⟨m, e1, e2, e3, e4⟩ := noteGo_good n l' _ _ T u (by omega) h (fun c hc => by simp at hc; rcases hc with hc | rfl; exact hr c hc; exact hd) (by simp; omega)
            refine ⟨d :: m, by rw [e1]; simp, e2, e3, ?_⟩
            rw [e4, escL, if_pos h3]; simp; omega
        · rw [noteGo_bs_bad _ _ _ _ h3] at h; cases h
    · cases hrc : rightB c with
      | true =>
        by_cases h4 : out.length = 1024
        · rw [noteGo_full _ _ _ _ h1 h2 hrc h4] at h; cases h
        · rw [noteGo_go _ _ _ _ h1 h2 hrc h4] at h
          obtain ⟨m, e1, e2, e3, e4⟩ := noteGo_good n l _ _ T u (by omega) h (fun d hd => by simp at hd; rcases hd with hd | rfl; exact hr d hd; exact hrc) (by simp; omega)
          refine ⟨c :: m, by rw [e1]; simp, e2, e3, ?_⟩
          rw [e4, escL, if_neg (fun h => h.elim h2 h1)]; simp; omega
      | false => rw [noteGo_bad _ _ _ _ h1 h2 hrc] at h; cases h

/-- A token whose text is read as this token; and is not much longer than what it was read of. -/
structure TextOk (F : Fd) : Prop where
  read : tokOf (tokL F.kind F.text F.n) = ⟨0, F.kind, F.text, F.n, (tokL F.kind F.text F.n).length⟩
  pos : 0 < (tokL F.kind F.text F.n).length
  head : ∀ c r, tokL F.kind F.text F.n = c :: r → blankB c = false
  len : (tokL F.kind F.text F.n).length ≤ F.len + 1
theorem letter_blank {c : UInt8} (h : letterB c = true) : blankB c = false ∧ c ≠ 123 := by
  have h1 := all_u8 (p := fun c => !letterB c || (!blankB c && c != 123)) (by decide +kernel) c
  rw [h] at h1; simpa using h1
theorem dig_blank {c : UInt8} (h : digB c = true) : blankB c = false ∧ c ≠ 123 ∧ letterB c = false := by
  have h1 := all_u8 (p := fun c => !digB c || (!blankB c && c != 123 && !letterB c)) (by decide +kernel) c
  rw [h] at h1; simp at h1; exact ⟨h1.1.1, h1.1.2, h1.2⟩
theorem noteBegins_cons (c : UInt8) (r : Bs) (h : c ≠ 123) : noteBegins (c :: r) = false := by
  unfold noteBegins; simpa using h
theorem ok_name (c : UInt8) (r : Bs) (hc : letterB c = true) (h : (tokName (c :: r)).err = 0) : TextOk (tokName (c :: r)) := by
  have hg := tokName_good c r hc h
  unfold tokName at h
  have hlen : (tokName (c :: r)).len = (tokName (c :: r)).text.length := by
    unfold tokName
    by_cases h2 : spanLen nameB (c :: r) ≤ 32
    · rw [if_pos h2]; show spanLen nameB (c :: r) = (lowL _).length; unfold lowL Lib.toLowerA; rw [List.length_map, List.length_take]; have := spanLen_le nameB (c :: r); omega
    · rw [if_neg h2] at h; cases h
  have hn : (tokName (c :: r)).n = 0 ∧ (tokName (c :: r)).err = 0 := by
    unfold tokName
    by_cases h2 : spanLen nameB (c :: r) ≤ 32
    · rw [if_pos h2]; exact ⟨rfl, rfl⟩
    · rw [if_neg h2] at h; cases h
  generalize tokName (c :: r) = F at *
  obtain ⟨d, q, e1, e2⟩ := hg.head
  have hk : tokL F.kind F.text F.n = F.text := by
    unfold tokL; rw [if_pos]; rw [hg.kind]; split <;> simp
  have hle : letterB d = true := by unfold letterB; rw [e2]; rfl
  have hlow : lowL F.text = F.text := by
    unfold lowL Lib.toLowerA
    have : ∀ x ∈ F.text, Lib.lowerB x = x := fun x hx => by
      have h3 := all_u8 (p := fun c => greatB c || Lib.lowerB c == c) (by decide +kernel) x
      rw [(hg.all x hx).2] at h3; simpa using h3
    rw [List.map_congr_left this, List.map_id']
  have hsp : spanLen nameB F.text = F.text.length := span_all nameB _ (fun x hx => (hg.all x hx).1)
  refine ⟨?_, by rw [hk, e1]; simp, ?_, by rw [hk]; omega⟩
  · rw [hk]
    have h4 : tokOf F.text = tokName F.text := by
      rw [e1]; unfold tokOf
      rw [if_neg (by rw [noteBegins_cons d q (letter_blank hle).2]; decide)]
      unfold tokPlain; simp only; rw [if_pos hle]
    rw [h4]; unfold tokName
    rw [hsp, if_pos hg.len, List.take_length, hlow, hn.1, ← hg.kind]
  · intro x y hxy
    rw [hk, e1] at hxy
    injection hxy with hxy _
    subst hxy
    exact (letter_blank hle).1
theorem ok_digits (n : Nat) (hn : n ≤ 9223372036854775807) : tokOf (digL n) = ⟨0, 3, [], n, (digL n).length⟩ ∧ ∀ c r, digL n = c :: r → blankB c = false := by
  have h1 := digL_all n
  have h2 := digL_ne n
  have h3 := numGo_digL n hn
  generalize digL n = l at *
  match l, h2 with
  | c :: r, _ =>
    obtain ⟨d1, d2, d3⟩ := dig_blank (h1 c (by simp))
    refine ⟨?_, fun x y h => by injection h with h _; subst h; exact d1⟩
    unfold tokOf
    rw [if_neg (by rw [noteBegins_cons c r d2]; decide)]
    unfold tokPlain; simp only
    rw [if_neg (by rw [d3]; decide), if_pos (h1 c (by simp))]
    unfold tokInt
    rw [span_all digB _ h1, List.take_length, h3]
def fdEq (F G : Fd) : Bool := F.err == G.err && F.kind == G.kind && F.text == G.text && F.n == G.n && F.len == G.len
theorem fdEq_eq {F G : Fd} (h : fdEq F G = true) : F = G := by
  unfold fdEq at h
  simp only [Bool.and_eq_true, beq_iff_eq] at h
  obtain ⟨⟨⟨⟨h1, h2⟩, h3⟩, h4⟩, h5⟩ := h
  cases F; cases G; simp at h1 h2 h3 h4 h5 ⊢; exact ⟨h1, h2, h3, h4, h5⟩
def digF : Nat → Nat → Bs
  | 0, _ => []
  | f + 1, n => if n < 10 then [digC (n)] else digF f (n / 10) ++ [digC (n % 10)]
theorem digF_eq : ∀ (f n : Nat), 0 < f → n < 10 ^ f → digF f n = digL n
  | 0, n, h0, h => by omega
  | f + 1, n, h0, h => by
    unfold digF digL
    by_cases h1 : n < 10
    · rw [if_pos h1, if_pos h1]
    · rw [if_neg h1, if_neg h1, digF_eq f (n / 10) (by rcases Nat.eq_zero_or_pos f with h2 | h2; subst h2; simp at h; omega; exact h2) (by rw [Nat.pow_succ] at h; omega)]
def charF (n : Nat) : Bs := if n = 39 then [39, 39, 39, 39] else if 32 ≤ n ∧ n ≤ 126 then [39, UInt8.ofNat n, 39] else 35 :: digF 3 n
theorem charF_eq (n : Nat) (h : n < 256) : charF n = charL n := by unfold charF charL; rw [digF_eq 3 n (by omega) (by omega)]
def charOk (n : Nat) : Bool := fdEq (tokOf (charF n)) ⟨0, 4, [], n, (charF n).length⟩ && decide (0 < (charF n).length) && ((charF n).head?.all fun c => !blankB c)
set_option maxRecDepth 100000 in
theorem ok_chars : ((List.range 256).all charOk) = true := by decide +kernel
theorem ok_char (n : Nat) (h : n < 256) : tokOf (charL n) = ⟨0, 4, [], n, (charL n).length⟩ ∧ 0 < (charL n).length ∧ ((charL n).head?.all fun c => !blankB c) = true := by
  have h1 := List.all_eq_true.1 ok_chars n (List.mem_range.2 h)
  unfold charOk at h1
  rw [charF_eq n h] at h1
  simp only [Bool.and_eq_true, decide_eq_true_eq] at h1
  exact ⟨fdEq_eq h1.1.1, h1.1.2, h1.2⟩
theorem ok_signs : (pasSigns.all fun g => fdEq (tokOf g) ⟨0, 5, g, 0, g.length⟩ && decide (0 < g.length) && (g.head?.all fun c => !blankB c)) = true := by decide +kernel
theorem head_all {l : Bs} (h : (l.head?.all fun c => !blankB c) = true) : ∀ c r, l = c :: r → blankB c = false := by
  intro c r e; subst e; simpa using h
/-! ### each token of a text -/
theorem tokL_mk (F : Fd) (hr : tokOf (tokL F.kind F.text F.n) = ⟨0, F.kind, F.text, F.n, (tokL F.kind F.text F.n).length⟩) (hp : 0 < (tokL F.kind F.text F.n).length) (hh : ∀ c r, tokL F.kind F.text F.n = c :: r → blankB c = false) (hl : (tokL F.kind F.text F.n).length ≤ F.len + 1) : TextOk F := ⟨hr, hp, hh, hl⟩
theorem ok_charF (n len : Nat) (hn : n < 256) (hl : (charL n).length ≤ len + 1) : TextOk ⟨0, 4, [], n, len⟩ := by
  obtain ⟨h1, h2, h3⟩ := ok_char n hn
  exact ⟨h1, h2, head_all h3, hl⟩
theorem ok_quoted (l : Bs) (h : (tokQuoted l).err = 0) : TextOk (tokQuoted l) := by
  unfold tokQuoted at *
  by_cases h1 : ([39, 39, 39, 39] : Bs).isPrefixOf l = true
  · rw [if_pos h1]; exact ok_charF 39 4 (by decide) (by decide)
  · rw [if_neg h1] at *
    match l, h with
    | _ :: c :: d :: r, h =>
      simp only at h ⊢
      by_cases h2 : plainB c = true ∧ d = 39
      · rw [if_pos h2]
        refine ok_charF c.toNat 3 c.toNat_lt ?_
        have h3 := h2.1
        unfold plainB at h3
        simp only [Bool.and_eq_true, decide_eq_true_eq, bne_iff_ne, ne_eq] at h3
        have h4 : c.toNat ≠ 39 := fun e => h3.2 (UInt8.toNat_inj.1 e)
        unfold charL
        rw [if_neg h4, if_pos h3.1]; simp
      · rw [if_neg h2] at h; cases h
    | [], h => cases h
    | [_], h => cases h
    | [_, _], h => cases h
theorem span_digs (l : Bs) : ∀ c ∈ l.take (spanLen digB l), digB c = true := span_take digB l
theorem ok_numbered (l : Bs) (h : (tokNumbered l).err = 0) : TextOk (tokNumbered l) := by
  unfold tokNumbered at *
  by_cases h1 : spanLen digB (l.drop 1) = 0 ∨ 3 < spanLen digB (l.drop 1)
  · rw [if_pos h1] at h; cases h
  · rw [if_neg h1] at *
    have hd := span_digs (l.drop 1)
    have hk : ((l.drop 1).take (spanLen digB (l.drop 1))).length = spanLen digB (l.drop 1) := by
      rw [List.length_take]; have := spanLen_le digB (l.drop 1); omega
    generalize spanLen digB (l.drop 1) = k at *
    generalize (l.drop 1).take k = m at *
    cases hn : numGo 0 m with
    | none => rw [hn] at h; cases h
    | some n =>
      rw [hn] at h
      simp only at h ⊢
      by_cases h3 : 255 < n
      · rw [if_pos h3] at h; cases h
      · rw [if_neg h3]
        refine ok_charF n (1 + k) (by omega) ?_
        have h4 := numGo_lt m 0 n hd hn
        rw [hk] at h4
        unfold charL
        split
        · have : 2 ≤ k := by
            rcases Nat.lt_or_ge k 2 with h5 | h5
            · have : k = 1 := by omega
              subst this; omega
            · exact h5
          simp; omega
        · split
          · simp; omega
          · have := digL_len k n (by omega) (by omega)
            rw [List.length_cons]; omega
theorem ok_int (l : Bs) (hp : 0 < spanLen digB l) (h : (tokInt l).err = 0) : TextOk (tokInt l) := by
  unfold tokInt at *
  have hd := span_digs l
  have hk : (l.take (spanLen digB l)).length = spanLen digB l := by
    rw [List.length_take]; have := spanLen_le digB l; omega
  generalize spanLen digB l = k at *
  generalize l.take k = m at *
  cases hn : numGo 0 m with
  | none => rw [hn] at h; cases h
  | some n =>
    have h4 := numGo_lt m 0 n hd hn
    rw [hk] at h4
    have hm := numGo_max m 0 n hn (by omega)
    obtain ⟨e1, e2⟩ := ok_digits n hm
    have e3 : tokL 3 [] (n : Int) = digL n := by unfold tokL; simp
    refine ⟨?_, ?_, ?_, ?_⟩
    · show tokOf (tokL 3 [] (n : Int)) = _
      rw [e3]; exact e1
    · show 0 < (tokL 3 [] (n : Int)).length
      rw [e3]; exact digL_ne n
    · show ∀ c r, tokL 3 [] (n : Int) = c :: r → _
      rw [e3]; exact e2
    · show (tokL 3 [] (n : Int)).length ≤ k + 1
      rw [e3]; have := digL_len k n hp (by omega); omega
theorem ok_sign (l : Bs) (h : (tokSign l).err = 0) : TextOk (tokSign l) := by
  unfold tokSign at *
  cases hg : signOf pasSigns l with
  | none => rw [hg] at h; cases h
  | some g =>
    have hm := List.mem_of_find?_eq_some (show pasSigns.find? _ = some g from hg)
    have h1 := List.all_eq_true.1 ok_signs g hm
    simp only [Bool.and_eq_true, decide_eq_true_eq] at h1
    have e3 : tokL 5 g 0 = g := by unfold tokL; simp
    refine ⟨?_, ?_, ?_, ?_⟩
    · show tokOf (tokL 5 g 0) = _
      rw [e3]; exact fdEq_eq h1.1.1
    · show 0 < (tokL 5 g 0).length
      rw [e3]; exact h1.1.2
    · show ∀ c r, tokL 5 g 0 = c :: r → _
      rw [e3]; exact head_all h1.2
    · show (tokL 5 g 0).length ≤ g.length + 1
      rw [e3]; omega
theorem ok_note (l : Bs) (hb : noteBegins l = true) (T : Bs) (u : Nat) (h : noteRead l = (T, u, 0)) : TextOk ⟨0, 6, T, 0, u⟩ := by
  have h0 := h
  unfold noteRead at h0
  rw [if_pos hb] at h0
  obtain ⟨m, e1, e2, e3, e4⟩ := noteGo_good _ (l.drop 1) [] 1 T u (Nat.le_refl _) h0 (by simp) (by simp)
  rw [List.nil_append] at e1
  subst e1
  have e5 : tokL 6 T 0 = noteL T := by unfold tokL; simp
  have e6 : noteBegins (noteL T) = true := rfl
  have e7 := noteGo_esc T [] 1 e2 (by simp; omega)
  have e8 : (noteL T).length = (escL T).length + 2 := by unfold noteL; simp
  refine ⟨?_, ?_, ?_, ?_⟩
  · show tokOf (tokL 6 T 0) = _
    rw [e5]
    unfold tokOf
    have e9 : noteRead (noteL T) = (T, (noteL T).length, 0) := by
      unfold noteRead; rw [if_pos e6]
      show noteGo (escL T ++ [125]) [] 1 = _
      rw [e7, e8]; simp; omega
    rw [if_pos e6, e9]; rfl
  · show 0 < (tokL 6 T 0).length
    rw [e5, e8]; omega
  · show ∀ c r, tokL 6 T 0 = c :: r → _
    rw [e5]; intro c r e; unfold noteL at e; injection e with e _; subst e; decide
  · show (tokL 6 T 0).length ≤ u + 1
    rw [e5, e8]; omega
theorem ok_tok (l : Bs) (hl : 0 < l.length) (h : (tokOf l).err = 0) : TextOk (tokOf l) := by
  unfold tokOf at *
  by_cases h1 : noteBegins l = true
  · rw [if_pos h1] at h ⊢
    by_cases h2 : (noteRead l).2.2 = 0
    · rw [if_pos h2]
      exact ok_note l h1 _ _ (by rw [← h2])
    · rw [if_neg h2] at h; exact absurd h h2
  · rw [if_neg h1] at h ⊢
    match l, hl with
    | c :: r, hl =>
      unfold tokPlain at *
      simp only at h ⊢
      by_cases h1 : letterB c = true
      · rw [if_pos h1] at h ⊢; exact ok_name c r h1 h
      rw [if_neg h1] at h ⊢
      by_cases h2 : digB c = true
      · rw [if_pos h2] at h ⊢; exact ok_int _ (span_pos digB c r h2) h
      rw [if_neg h2] at h ⊢
      by_cases h3 : c = 39
      · rw [if_pos h3] at h ⊢; exact ok_quoted _ h
      rw [if_neg h3] at h ⊢
      by_cases h4 : c = 35
      · rw [if_pos h4] at h ⊢; exact ok_numbered _ h
      rw [if_neg h4] at h ⊢; exact ok_sign _ h
/-- What a token may bear. -/
structure KindOk (F : Fd) : Prop where
  k : F.kind ≤ 6
  k3 : F.kind = 3 → ∃ m : Nat, F.n = (m : Int) ∧ m ≤ 9223372036854775807
  k4 : F.kind = 4 → ∃ m : Nat, F.n = (m : Int) ∧ m < 256
  sz : F.text.length ≤ 1024
theorem kind_char (n len : Nat) (h : n < 256) : KindOk ⟨0, 4, [], n, len⟩ := ⟨by show 4 ≤ 6; decide, (fun h => by cases h), fun _ => ⟨n, rfl, h⟩, by simp⟩
theorem kind_tok (l : Bs) (hl : 0 < l.length) (h : (tokOf l).err = 0) : KindOk (tokOf l) := by
  unfold tokOf at *
  by_cases h1 : noteBegins l = true
  · rw [if_pos h1] at h ⊢
    by_cases h2 : (noteRead l).2.2 = 0
    · rw [if_pos h2]
      have h0 : noteGo (l.drop 1) [] 1 = ((noteRead l).1, (noteRead l).2.1, 0) := by
        rw [← h2]; unfold noteRead; rw [if_pos h1]
      obtain ⟨m, e1, e2, e3, e4⟩ := noteGo_good _ (l.drop 1) [] 1 _ _ (Nat.le_refl _) h0 (by simp) (by simp)
      exact ⟨Nat.le_refl 6, (fun h => by cases h), (fun h => by cases h), e3⟩
    · rw [if_neg h2] at h; exact absurd h h2
  · rw [if_neg h1] at h ⊢
    match l, hl with
    | c :: r, hl =>
      unfold tokPlain at *
      simp only at h ⊢
      by_cases h1 : letterB c = true
      · rw [if_pos h1] at h ⊢
        have hg := tokName_good c r h1 h
        have hk := hg.kind
        have hle := hg.len
        refine ⟨by rw [hk]; split <;> decide, fun h => ?_, fun h => ?_, by omega⟩
        · rw [hk] at h; split at h <;> cases h
        · rw [hk] at h; split at h <;> cases h
      rw [if_neg h1] at h ⊢
      by_cases h2 : digB c = true
      · rw [if_pos h2] at h ⊢
        unfold tokInt at *
        cases hn : numGo 0 ((c :: r).take (spanLen digB (c :: r))) with
        | none => rw [hn] at h; cases h
        | some n => exact ⟨by show 3 ≤ 6; decide, fun _ => ⟨n, rfl, numGo_max _ 0 n hn (by omega)⟩, (fun h => by cases h), by simp⟩
      rw [if_neg h2] at h ⊢
      by_cases h3 : c = 39
      · rw [if_pos h3] at h ⊢
        unfold tokQuoted at *
        by_cases h1 : ([39, 39, 39, 39] : Bs).isPrefixOf (c :: r) = true
        · rw [if_pos h1]; exact kind_char 39 4 (by decide)
        · rw [if_neg h1] at *
          match r, h with
          | d :: e :: q, h =>
            simp only at h ⊢
            by_cases h2 : plainB d = true ∧ e = 39
            · rw [if_pos h2]; exact kind_char d.toNat 3 d.toNat_lt
            · rw [if_neg h2] at h; cases h
          | [], h => cases h
          | [_], h => cases h
      rw [if_neg h3] at h ⊢
      by_cases h4 : c = 35
      · rw [if_pos h4] at h ⊢
        unfold tokNumbered at *
        by_cases h1 : spanLen digB ((c :: r).drop 1) = 0 ∨ 3 < spanLen digB ((c :: r).drop 1)
        · rw [if_pos h1] at h; cases h
        · rw [if_neg h1] at *
          cases hn : numGo 0 (((c :: r).drop 1).take (spanLen digB ((c :: r).drop 1))) with
          | none => rw [hn] at h; cases h
          | some n =>
            rw [hn] at h
            simp only at h ⊢
            by_cases h3 : 255 < n
            · rw [if_pos h3] at h; cases h
            · rw [if_neg h3]; exact kind_char n _ (by omega)
      rw [if_neg h4] at h ⊢
      unfold tokSign at *
      cases hg : signOf pasSigns (c :: r) with
      | none => rw [hg] at h; cases h
      | some g =>
        have hm := List.mem_of_find?_eq_some (show pasSigns.find? _ = some g from hg)
        have h2 : ∀ g ∈ pasSigns, g.length ≤ 2 := by decide
        have h3 := h2 g hm
        exact ⟨by show 5 ≤ 6; decide, (fun h => by cases h), (fun h => by cases h), by show g.length ≤ 1024; omega⟩
/-! ### all tokens -/
def textOf (t : TokL) : Bs := tokL t.kind (bs t.text) t.n
theorem textOf_bare (t : TokL) : textOf (bare t) = textOf t := rfl
theorem textOf_bareF (F : Fd) : textOf (bareF F) = tokL F.kind F.text F.n := by unfold textOf bareF; simp [bs]
theorem textOf_end : textOf bareEnd = [] := rfl
def GoodT (t : TokL) : Prop := ∃ F, (TextOk F ∧ KindOk F) ∧ t = bareF F
theorem lexB_good : ∀ (f : Nat) (l : Bs) (p : Nat) (acc : List TokL), l.length < f → (lexB f l p acc).code = 0 →
    ∃ ts, (lexB f l p acc).toks = acc ++ (ts ++ [bareEnd]) ∧ (∀ t ∈ ts, GoodT t) ∧ (ts.map fun t => (textOf t).length + 5).sum ≤ 7 * l.length
  | 0, _, _, _, h, _ => by omega
  | f + 1, l, p, acc, hf, hc => by
    rw [lexB_succ] at hc ⊢
    by_cases h1 : spanLen blankB l < l.length
    · rw [if_pos h1] at hc ⊢
      by_cases h2 : (tokOf (l.drop (spanLen blankB l))).err = 0
      · rw [if_pos h2] at hc ⊢
        have hdl : 0 < (l.drop (spanLen blankB l)).length := by rw [List.length_drop]; omega
        obtain ⟨l1, l2⟩ := tokOf_len (l.drop (spanLen blankB l)) hdl h2
        have hok := ok_tok _ hdl h2
        rw [List.length_drop] at l2
        obtain ⟨ts, e1, e2, e3⟩ := lexB_good f _ _ _ (by rw [List.length_drop]; omega) hc
        refine ⟨bareF (tokOf (l.drop (spanLen blankB l))) :: ts, ?_, ?_, ?_⟩
        · rw [e1]; simp
        · intro t ht
          rw [List.mem_cons] at ht
          rcases ht with rfl | ht
          · exact ⟨_, ⟨hok, kind_tok _ hdl h2⟩, rfl⟩
          · exact e2 t ht
        · have h4 := hok.len
          rw [← textOf_bareF] at h4
          rw [List.length_drop] at e3
          rw [List.map_cons, List.sum_cons]
          omega
      · rw [if_neg h2] at hc; exact absurd hc h2
    · rw [if_neg h1]
      exact ⟨[], by simp, by simp, by simp⟩
def catT (bl : Nat → Bs) : Nat → List TokL → Bs
  | _, [] => []
  | k, t :: ts => bl k ++ (textOf t ++ catT bl (k + 1) ts)
theorem catT_map (bl : Nat → Bs) : ∀ (ts : List TokL) (k : Nat), catT bl k (ts.map bare) = catT bl k ts
  | [], _ => rfl
  | t :: ts, k => by rw [List.map_cons, catT, catT, catT_map bl ts, textOf_bare]
theorem catT_snoc (bl : Nat → Bs) (t : TokL) : ∀ (ts : List TokL) (k : Nat), catT bl k (ts ++ [t]) = catT bl k ts ++ (bl (k + ts.length) ++ textOf t)
  | [], k => by simp [catT]
  | a :: ts, k => by
    rw [List.cons_append, catT, catT, catT_snoc bl t ts, List.length_cons, show k + (ts.length + 1) = k + 1 + ts.length from by omega, List.append_assoc, List.append_assoc]
theorem catT_len (bl : Nat → Bs) (h : ∀ i, (bl i).length ≤ 5) : ∀ (ts : List TokL) (k : Nat), (catT bl k ts).length ≤ (ts.map fun t => (textOf t).length + 5).sum
  | [], _ => by simp [catT]
  | t :: ts, k => by
    rw [catT, List.length_append, List.length_append, List.map_cons, List.sum_cons]
    have := catT_len bl h ts (k + 1)
    have := h k
    omega
theorem span_two (f : UInt8 → Bool) : ∀ (u v : Bs), (∀ c ∈ u, f c = true) → (∀ c r, v = c :: r → f c = false) → spanLen f (u ++ v) = u.length
  | [], [], _, _ => rfl
  | [], c :: v, _, h => by unfold spanLen; rw [List.nil_append, List.takeWhile_cons_of_neg (by rw [h c v rfl]; decide)]
  | a :: u, v, h, h2 => by
    have := span_two f u v (fun c hc => h c (by simp [hc])) h2
    unfold spanLen at *
    rw [List.cons_append, List.takeWhile_cons_of_pos (h a (by simp)), List.length_cons, List.length_cons, this]
theorem lexB_cat (bl : Nat → Bs) (hbl : ∀ i, 0 < (bl i).length ∧ ∀ c ∈ bl i, blankB c = true) : ∀ (ts : List TokL) (k f p : Nat) (acc : List TokL), (∀ t ∈ ts, GoodT t) → (catT bl k (ts ++ [bareEnd])).length < f →
    lexB f (catT bl k (ts ++ [bareEnd])) p acc = ⟨acc ++ (ts ++ [bareEnd]), 0, 0⟩
  | [], k, f, p, acc, _, hf => by
    obtain ⟨f, rfl⟩ : ∃ g, f = g + 1 := ⟨f - 1, by omega⟩
    have e : catT bl k ([] ++ [bareEnd]) = bl k := by rw [List.nil_append, catT, catT, textOf_end]; simp
    rw [e, lexB_succ, if_neg (by rw [span_all blankB _ (hbl k).2]; omega)]
    simp
  | t :: ts, k, f, p, acc, hg, hf => by
    obtain ⟨f, rfl⟩ : ∃ g, f = g + 1 := ⟨f - 1, by omega⟩
    obtain ⟨F, ⟨hF, _⟩, rfl⟩ := hg t (by simp)
    rw [List.cons_append, catT] at hf ⊢
    have hr := hF.read
    have hp := hF.pos
    have hh := hF.head
    rw [← textOf_bareF] at hr hp hh
    obtain ⟨x, hx⟩ : ∃ x, x = textOf (bareF F) := ⟨_, rfl⟩
    obtain ⟨R, hR⟩ : ∃ R, R = catT bl (k + 1) (ts ++ [bareEnd]) := ⟨_, rfl⟩
    have hRb : ∃ c q, R = c :: q ∧ blankB c = true := by
      have hb := hbl (k + 1)
      have hRe : ∃ z, R = bl (k + 1) ++ z := by
        rw [hR]
        match ts with
        | [] => exact ⟨_, rfl⟩
        | a :: ts => exact ⟨_, rfl⟩
      obtain ⟨z, hz⟩ := hRe
      match hq : bl (k + 1), hb with
      | c :: q, hb =>
        rw [hq] at hz
        exact ⟨c, q ++ z, by rw [hz]; rfl, hb.2 c (by simp)⟩
      | [], hb => exact absurd hb.1 (by simp)
    obtain ⟨c, q, hcq, hcb⟩ := hRb
    rw [← hx] at hr hp hh hf ⊢
    rw [← hR] at hf ⊢
    have hsp : spanLen blankB (bl k ++ (x ++ R)) = (bl k).length := by
      refine span_two blankB _ _ (hbl k).2 ?_
      intro d r e
      match x, hp, hh with
      | y :: ys, _, hh =>
        injection e with e _
        subst e
        exact hh y ys rfl
    have hd : (bl k ++ (x ++ R)).drop (bl k).length = x ++ R := by simp
    have ht : tokOf (x ++ R) = ⟨0, F.kind, F.text, F.n, x.length⟩ := by
      rw [hcq, tokOf_extb c hcb x q hp (by rw [hr]), hr]
    have hd2 : (bl k ++ (x ++ R)).drop ((bl k).length + x.length) = R := by
      rw [← List.drop_drop, hd]; simp
    rw [lexB_succ, hsp, hd, ht, if_pos (by rw [List.length_append, List.length_append]; omega), if_pos rfl]
    simp only
    rw [hd2, hR, lexB_cat bl hbl ts (k + 1) f _ _ (fun a ha => hg a (by simp [ha])) (by rw [← hR]; rw [List.length_append, List.length_append] at hf; omega)]
    congr 1
    rw [List.append_assoc]; rfl
/-- Each token of a text without faults is one that a lexer may have made; their texts, blanks between them, are not long. -/
theorem lexAll_goodT (s : ByteArray) (hs : s.size ≤ 3000) (h0 : (lexAll s).code = 0) : ∃ ts, (lexAll s).toks.map bare = ts ++ [bareEnd] ∧ ∀ t ∈ ts, GoodT t := by
  have ls := lexAll_bare s (by omega)
  obtain ⟨ts, e1, e2, e3⟩ := lexB_good (s.size + 1) (bs s) 0 [] (by rw [bs_len]; omega) (by rw [← ls.code]; exact h0)
  rw [List.nil_append, ← ls.toks] at e1
  exact ⟨ts, e1, e2⟩
/-- The plain law. -/
theorem blanks_law (s : ByteArray) (hs : s.size ≤ 3000) (h0 : (lexAll s).code = 0) (bl : Nat → Bs) (hbl : ∀ i, 0 < (bl i).length ∧ (bl i).length ≤ 5 ∧ ∀ c ∈ bl i, blankB c = true) (T : ByteArray) (hT : bs T = catT bl 0 (lexAll s).toks) :
    T.size ≤ 21005 ∧ (lexAll T).code = 0 ∧ (lexAll T).toks.map bare = (lexAll s).toks.map bare := by
  have ls := lexAll_bare s (by omega)
  obtain ⟨ts, e1, e2, e3⟩ := lexB_good (s.size + 1) (bs s) 0 [] (by rw [bs_len]; omega) (by rw [← ls.code]; exact h0)
  rw [List.nil_append, ← ls.toks] at e1
  rw [← catT_map, e1] at hT
  have hlen := catT_len bl (fun i => (hbl i).2.1) (ts ++ [bareEnd]) 0
  have hsum : ((ts ++ [bareEnd]).map fun t => (textOf t).length + 5).sum = (ts.map fun t => (textOf t).length + 5).sum + 5 := by
    rw [List.map_append, List.sum_append]; simp [textOf_end]
  rw [hsum, ← hT, bs_len] at hlen
  rw [bs_len] at e3
  have hsz : T.size ≤ 21005 := by omega
  have lt := lexAll_bare T (by omega)
  have hc := lexB_cat bl (fun i => ⟨(hbl i).1, (hbl i).2.2⟩) ts 0 (T.size + 1) 0 [] e2 (by rw [← hT, bs_len]; omega)
  rw [← hT] at hc
  rw [hc] at lt
  exact ⟨hsz, lt.code, by rw [lt.toks, e1, List.nil_append]⟩
end Go.Proofs.YtgmmjhelcpgakaaGreatDoor
/- Where the tokens of a text stand: the plain law. -/
namespace Go.Proofs.YtgmmjhelcpgakaaGreatDoor
open Go.RowKit
set_option linter.unusedVariables false
set_option linter.unusedSimpArgs false

theorem lineAt_mono (s : ByteArray) (p q : Nat) (h : p ≤ q) : lineAt s p ≤ lineAt s q := by
  unfold lineAt lineL
  have h1 : ((bs s).take q).take p = (bs s).take p := by rw [List.take_take, Nat.min_eq_left h]
  rw [← h1]
  exact (List.take_sublist p _).count_le 10
/-- The tokens stand one behind the other, all ahead of p. -/
structure Rowed (s : ByteArray) (p : Nat) (l : List TokL) : Prop where
  all : ∀ t ∈ l, ∃ q, q ≤ s.size ∧ t.pos = posA s q ∧ q < p
  pw : l.Pairwise (fun a b => a.pos.1 < b.pos.1)
  hd : ∀ t, l.head? = some t → t.same = false
theorem Rowed.nil (s : ByteArray) (p : Nat) : Rowed s p [] := ⟨fun t h => (by cases h), List.Pairwise.nil, fun t h => (by cases h)⟩
theorem Rowed.snoc {s : ByteArray} {p q : Nat} {l : List TokL} {last : Int} (h : Rowed s p l) (hl : l = [] → last = -1) (t : TokL) (ht : t.pos = posA s q) (hs : t.same = (last == ((lineAt s q : Nat) : Int))) (hq : q ≤ s.size) (hpq : p ≤ q) (p' : Nat) (hp' : q < p') : Rowed s p' (l ++ [t]) := by
  refine ⟨?_, ?_, ?_⟩
  · intro u hu
    rcases List.mem_append.1 hu with hu | hu
    · obtain ⟨x, h1, h2, h3⟩ := h.all u hu
      exact ⟨x, h1, h2, by omega⟩
    · rw [List.mem_singleton] at hu; subst hu; exact ⟨q, hq, ht, hp'⟩
  · rw [List.pairwise_append]
    refine ⟨h.pw, List.pairwise_singleton _ _, ?_⟩
    intro a ha b hb
    rw [List.mem_singleton] at hb; subst hb
    obtain ⟨x, h1, h2, h3⟩ := h.all a ha
    rw [h2, ht]
    show x < q
    omega
  · intro u hu
    cases l with
    | nil =>
      simp at hu
      subst hu
      rw [hs, hl rfl, beq_eq_false_iff_ne]; omega
    | cons a r =>
      simp at hu
      subst hu
      exact h.hd a rfl
structure Places (s : ByteArray) (R : LexR) : Prop where
  bad : R.code ≠ 0 → R.toks = [] ∧ ∃ q, q ≤ s.size ∧ R.pos = posA s q
  good : R.code = 0 → Rowed s (s.size + 1) R.toks ∧ ∃ i e, R.toks = i ++ [e] ∧ e.kind = 0 ∧ e.pos.1 = s.size
theorem lexGo_places (s : ByteArray) : ∀ (f p : Nat) (last : Int) (acc : List TokL), p ≤ s.size → s.size - p < f → Rowed s p acc → (acc = [] → last = -1) → Places s (lexGo s f p last acc)
  | 0, _, _, _, _, hf, _, _ => by omega
  | f + 1, p, last, acc, hp, hf, hr, hl => by
    unfold lexGo
    have hle := spanAt_le blankB s p hp
    by_cases h1 : p + spanAt blankB s p < s.size
    · rw [if_pos h1]
      by_cases h2 : (tokOf ((bs s).drop (p + spanAt blankB s p))).err = 0
      · rw [if_pos h2]
        have hln : ((bs s).drop (p + spanAt blankB s p)).length = s.size - (p + spanAt blankB s p) := by rw [List.length_drop, bs_len]
        obtain ⟨l1, l2⟩ := tokOf_len _ (by rw [hln]; omega) h2
        rw [hln] at l2
        refine lexGo_places s f _ _ _ (by omega) (by omega) (hr.snoc hl _ rfl rfl (by omega) (by omega) _ (by omega)) (fun h => by simp at h)
      · rw [if_neg h2]
        exact ⟨fun _ => ⟨rfl, _, hle, rfl⟩, fun h => absurd h h2⟩
    · rw [if_neg h1]
      have hq : p + spanAt blankB s p = s.size := by omega
      rw [hq]
      exact ⟨fun h => absurd rfl h, fun _ => ⟨hr.snoc hl (endAt s s.size last) rfl rfl (Nat.le_refl _) hp _ (by omega), acc, endAt s s.size last, rfl, rfl, rfl⟩⟩
theorem lexAll_places (s : ByteArray) (hs : s.size ≤ 65536) : Places s (lexAll s) := by
  unfold lexAll
  rw [if_neg (by omega)]
  exact lexGo_places s _ _ _ _ (Nat.zero_le _) (by omega) (Rowed.nil _ _) (fun _ => rfl)
theorem Rowed.at_ {s : ByteArray} {p : Nat} {l : List TokL} (h : Rowed s p l) (i : Nat) (t : TokL) (ht : l[i]? = some t) : ∃ q, q ≤ s.size ∧ t.pos = (q, lineAt s q, colAt s q) := by
  obtain ⟨q, h1, h2, _⟩ := h.all t (List.mem_of_getElem? ht)
  exact ⟨q, h1, h2⟩
theorem Rowed.step {s : ByteArray} {p : Nat} {l : List TokL} (h : Rowed s p l) (i : Nat) (a b : TokL) (ha : l[i]? = some a) (hb : l[i + 1]? = some b) : a.pos.1 < b.pos.1 ∧ a.pos.2.1 ≤ b.pos.2.1 := by
  have hi : i + 1 < l.length := (List.getElem?_eq_some_iff.1 hb).1
  have h1 := List.pairwise_iff_getElem.1 h.pw i (i + 1) (by omega) hi (by omega)
  rw [List.getElem?_eq_getElem (by omega)] at ha
  rw [List.getElem?_eq_getElem hi] at hb
  injection ha with ha
  injection hb with hb
  rw [ha, hb] at h1
  obtain ⟨x, _, h3, _⟩ := h.all a (by rw [← ha]; exact List.getElem_mem _)
  obtain ⟨y, _, h5, _⟩ := h.all b (by rw [← hb]; exact List.getElem_mem _)
  rw [h3, h5] at h1
  rw [h3, h5]
  exact ⟨h1, lineAt_mono s x y (Nat.le_of_lt h1)⟩
end Go.Proofs.YtgmmjhelcpgakaaGreatDoor
/- Two laws of expressions on texts, in plain words: brackets around all of it change nothing; a beginning that stops ahead of a token, and a sign of two operands, is none. -/
namespace Go.Proofs.YtgmmjhelcpgakaaGreatDoor
open Go.RowKit
set_option linter.unusedVariables false
set_option linter.unusedSimpArgs false

/-! ### a text that ends behind a token -/
theorem spanLen_take (f : UInt8 → Bool) : ∀ (l : Bs) (m : Nat), spanLen f l ≤ m → spanLen f (l.take m) = spanLen f l
  | [], m, _ => by simp
  | a :: l, m, h => by
    by_cases ha : f a = true
    · unfold spanLen at h ⊢
      rw [List.takeWhile_cons_of_pos ha, List.length_cons] at h ⊢
      obtain ⟨m, rfl⟩ : ∃ k, m = k + 1 := ⟨m - 1, by omega⟩
      rw [List.take_succ_cons, List.takeWhile_cons_of_pos ha, List.length_cons]
      have := spanLen_take f l m (by unfold spanLen; omega)
      unfold spanLen at this
      rw [this]
    · unfold spanLen
      rw [List.takeWhile_cons_of_neg ha]
      cases m with
      | zero => rfl
      | succ m => rw [List.take_succ_cons, List.takeWhile_cons_of_neg ha]
theorem prefix_take : ∀ (g l : Bs) (m : Nat), g.length ≤ m → g.isPrefixOf (l.take m) = g.isPrefixOf l
  | [], l, m, _ => by simp [List.isPrefixOf]
  | a :: g, [], m, _ => by simp
  | a :: g, b :: l, m, h => by
    rw [List.length_cons] at h
    obtain ⟨m, rfl⟩ : ∃ k, m = k + 1 := ⟨m - 1, by omega⟩
    rw [List.take_succ_cons, List.isPrefixOf, List.isPrefixOf, prefix_take g l m (by omega)]
theorem prefix_take_no (g l : Bs) (m : Nat) (h : g.isPrefixOf l = false) : g.isPrefixOf (l.take m) = false := by
  cases h2 : g.isPrefixOf (l.take m) with
  | false => rfl
  | true =>
    have h3 := (List.isPrefixOf_iff_prefix.1 h2).trans (List.take_prefix m l)
    rw [List.isPrefixOf_iff_prefix.2 h3] at h; cases h
theorem sign_take (l : Bs) (m : Nat) (g : Bs) (hm : g.length ≤ m) : ∀ gs : List Bs, gs.find? (fun g => g.isPrefixOf l) = some g → gs.find? (fun g => g.isPrefixOf (l.take m)) = some g
  | [], h => by cases h
  | a :: gs, h => by
    rw [List.find?_cons] at h ⊢
    cases h1 : a.isPrefixOf l with
    | true =>
      rw [h1] at h
      injection h with h
      subst h
      rw [prefix_take a l m hm, h1]
    | false =>
      rw [h1] at h
      rw [prefix_take_no a l m h1]
      exact sign_take l m g hm gs h
theorem noteGo_lt : ∀ (n : Nat) (l out : Bs) (i : Nat) (T : Bs) (u : Nat), l.length ≤ n → noteGo l out i = (T, u, 0) → i < u
  | n, [], out, i, T, u, _, h => by rw [noteGo_nil] at h; cases h
  | 0, c :: l, out, i, T, u, hn, h => by simp at hn
  | n + 1, c :: l, out, i, T, u, hn, h => by
    simp only [List.length_cons] at hn
    by_cases h1 : c = 125
    · subst h1; rw [noteGo_end] at h; simp only [Prod.mk.injEq] at h; omega
    by_cases h2 : c = 92
    · subst h2
      match l, hn, h with
      | [], hn, h => rw [noteGo_bs0] at h; cases h
      | d :: l', hn, h =>
        simp only [List.length_cons] at hn
        by_cases h3 : d = 92 ∨ d = 125
        · by_cases h4 : out.length = 1024
          · rw [noteGo_bs_full _ _ _ _ h3 h4] at h; cases h
          · rw [noteGo_bs _ _ _ _ h3 h4] at h
            have := noteGo_lt n l' _ _ T u (by omega) h; omega
        · rw [noteGo_bs_bad _ _ _ _ h3] at h; cases h
    · cases hrc : rightB c with
      | true =>
        by_cases h4 : out.length = 1024
        · rw [noteGo_full _ _ _ _ h1 h2 hrc h4] at h; cases h
        · rw [noteGo_go _ _ _ _ h1 h2 hrc h4] at h
          have := noteGo_lt n l _ _ T u (by omega) h; omega
      | false => rw [noteGo_bad _ _ _ _ h1 h2 hrc] at h; cases h
theorem noteGo_take : ∀ (n : Nat) (l out : Bs) (i : Nat) (T : Bs) (u m : Nat), l.length ≤ n → noteGo l out i = (T, u, 0) → u ≤ i + m → noteGo (l.take m) out i = (T, u, 0)
  | n, [], out, i, T, u, m, _, h, _ => by rw [noteGo_nil] at h; cases h
  | 0, c :: l, out, i, T, u, m, hn, h, _ => by simp at hn
  | n + 1, c :: l, out, i, T, u, m, hn, h, hm => by
    have hlt := noteGo_lt _ _ _ _ _ _ (Nat.le_refl _) h
    simp only [List.length_cons] at hn
    obtain ⟨m, rfl⟩ : ∃ k, m = k + 1 := ⟨m - 1, by omega⟩
    rw [List.take_succ_cons]
    by_cases h1 : c = 125
    · subst h1; rw [noteGo_end] at h ⊢; exact h
    by_cases h2 : c = 92
    · subst h2
      match l, hn, h with
      | [], hn, h => rw [noteGo_bs0] at h; cases h
      | d :: l', hn, h =>
        simp only [List.length_cons] at hn
        by_cases h3 : d = 92 ∨ d = 125
        · by_cases h4 : out.length = 1024
          · rw [noteGo_bs_full _ _ _ _ h3 h4] at h; cases h
          · rw [noteGo_bs _ _ _ _ h3 h4] at h
            have := noteGo_lt _ _ _ _ _ _ (Nat.le_refl _) h
            obtain ⟨m, rfl⟩ : ∃ k, m = k + 1 := ⟨m - 1, by omega⟩
            rw [List.take_succ_cons, noteGo_bs _ _ _ _ h3 h4]
            exact noteGo_take n l' _ _ T u m (by omega) h (by omega)
        · rw [noteGo_bs_bad _ _ _ _ h3] at h; cases h
    · cases hrc : rightB c with
      | true =>
        by_cases h4 : out.length = 1024
        · rw [noteGo_full _ _ _ _ h1 h2 hrc h4] at h; cases h
        · rw [noteGo_go _ _ _ _ h1 h2 hrc h4] at h ⊢
          exact noteGo_take n l _ _ T u m (by omega) h (by omega)
      | false => rw [noteGo_bad _ _ _ _ h1 h2 hrc] at h; cases h
/-- A text that is cut behind its first token. -/
theorem tokOf_take (l : Bs) (m : Nat) (hl : 0 < l.length) (h : (tokOf l).err = 0) (hm : (tokOf l).len ≤ m) : tokOf (l.take m) = tokOf l := by
  have hlen := (tokOf_len l hl h).1
  obtain ⟨m, rfl⟩ : ∃ k, m = k + 1 := ⟨m - 1, by omega⟩
  match l, hl with
  | c :: r, hl =>
    have hnb : noteBegins (c :: r.take m) = noteBegins (c :: r) := rfl
    rw [List.take_succ_cons]
    unfold tokOf at *
    rw [hnb]
    by_cases h1 : noteBegins (c :: r) = true
    · rw [if_pos h1] at h hm ⊢
      rw [if_pos h1]
      by_cases h2 : (noteRead (c :: r)).2.2 = 0
      · rw [if_pos h2] at hm ⊢
        have e0 : noteGo r [] 1 = ((noteRead (c :: r)).1, (noteRead (c :: r)).2.1, 0) := by rw [← h2]; unfold noteRead; rw [if_pos h1]; rfl
        have e1 : noteRead (c :: r.take m) = noteRead (c :: r) := by
          have e2 := noteGo_take _ r [] 1 _ _ m (Nat.le_refl _) e0 (by have : (noteRead (c :: r)).2.1 ≤ m + 1 := hm; omega)
          have e3 : noteRead (c :: r.take m) = noteGo (r.take m) [] 1 := by unfold noteRead; rw [hnb, if_pos h1]; rfl
          rw [e3, e2, ← h2]
        rw [e1, if_pos h2]
      · rw [if_neg h2] at h; exact absurd h h2
    · rw [if_neg h1] at h hm ⊢
      rw [if_neg h1]
      unfold tokPlain at *
      simp only at h hm ⊢
      by_cases h2 : letterB c = true
      · rw [if_pos h2] at h hm ⊢
        rw [if_pos h2]
        unfold tokName at *
        by_cases h3 : spanLen nameB (c :: r) ≤ 32
        · rw [if_pos h3] at hm
          have hm : spanLen nameB (c :: r) ≤ m + 1 := hm
          have e1 := spanLen_take nameB (c :: r) (m + 1) hm
          rw [List.take_succ_cons] at e1
          rw [e1]
          have e2 : (c :: r.take m).take (spanLen nameB (c :: r)) = (c :: r).take (spanLen nameB (c :: r)) := by
            rw [← List.take_succ_cons, List.take_take, Nat.min_eq_left hm]
          rw [e2]
        · rw [if_neg h3] at h; cases h
      rw [if_neg h2] at h hm ⊢
      rw [if_neg h2]
      by_cases h3 : digB c = true
      · rw [if_pos h3] at h hm ⊢
        rw [if_pos h3]
        unfold tokInt at *
        cases hn : numGo 0 ((c :: r).take (spanLen digB (c :: r))) with
        | none => rw [hn] at h; cases h
        | some n =>
          rw [hn] at hm
          have hm : spanLen digB (c :: r) ≤ m + 1 := hm
          have e1 := spanLen_take digB (c :: r) (m + 1) hm
          rw [List.take_succ_cons] at e1
          have e2 : (c :: r.take m).take (spanLen digB (c :: r)) = (c :: r).take (spanLen digB (c :: r)) := by
            rw [← List.take_succ_cons, List.take_take, Nat.min_eq_left hm]
          rw [e1, e2, hn]
      rw [if_neg h3] at h hm ⊢
      rw [if_neg h3]
      by_cases h4 : c = 39
      · rw [if_pos h4] at h hm ⊢
        rw [if_pos h4]
        unfold tokQuoted at *
        by_cases h5 : ([39, 39, 39, 39] : Bs).isPrefixOf (c :: r) = true
        · rw [if_pos h5] at hm ⊢
          have e1 := prefix_take [39, 39, 39, 39] (c :: r) (m + 1) hm
          rw [List.take_succ_cons] at e1
          rw [e1, if_pos h5]
        · rw [if_neg h5] at h hm ⊢
          have e1 := prefix_take_no [39, 39, 39, 39] (c :: r) (m + 1) (Bool.eq_false_iff.2 h5)
          rw [List.take_succ_cons] at e1
          rw [e1, if_neg (by decide)]
          match r, h, hm with
          | x :: y :: z, h, hm =>
            simp only at h hm ⊢
            by_cases h6 : plainB x = true ∧ y = 39
            · rw [if_pos h6] at hm
              have hm : 3 ≤ m + 1 := hm
              obtain ⟨m, rfl⟩ : ∃ k, m = k + 2 := ⟨m - 2, by omega⟩
              rfl
            · rw [if_neg h6] at h; cases h
          | [], h, _ => cases h
          | [_], h, _ => cases h
      rw [if_neg h4] at h hm ⊢
      rw [if_neg h4]
      by_cases h5 : c = 35
      · rw [if_pos h5] at h hm ⊢
        rw [if_pos h5]
        unfold tokNumbered at *
        simp only [List.drop_succ_cons, List.drop_zero] at h hm ⊢
        by_cases h6 : spanLen digB r = 0 ∨ 3 < spanLen digB r
        · rw [if_pos h6] at h; cases h
        · rw [if_neg h6] at h hm ⊢
          cases hn : numGo 0 (r.take (spanLen digB r)) with
          | none => rw [hn] at h; cases h
          | some n =>
            rw [hn] at h hm
            simp only at h hm
            by_cases h7 : 255 < n
            · rw [if_pos h7] at h; cases h
            · rw [if_neg h7] at hm
              have hm : 1 + spanLen digB r ≤ m + 1 := hm
              have e1 := spanLen_take digB r m (by omega)
              have e2 : (r.take m).take (spanLen digB r) = r.take (spanLen digB r) := by rw [List.take_take, Nat.min_eq_left (by omega)]
              rw [e1, e2, hn, if_neg h6]
      rw [if_neg h5] at h hm ⊢
      rw [if_neg h5]
      unfold tokSign signOf at *
      cases hg : pasSigns.find? (fun g => g.isPrefixOf (c :: r)) with
      | none => rw [hg] at h; cases h
      | some g =>
        rw [hg] at hm
        have e1 := sign_take (c :: r) (m + 1) g hm pasSigns hg
        rw [List.take_succ_cons] at e1
        rw [e1]
/-- Where the tokens of a text begin, and where it ends. -/
def cuts : Nat → Bs → List Nat
  | 0, _ => []
  | f + 1, l =>
    if spanLen blankB l < l.length then
      if (tokOf (l.drop (spanLen blankB l))).err = 0 then
        spanLen blankB l :: (cuts f (l.drop (spanLen blankB l + (tokOf (l.drop (spanLen blankB l))).len))).map (· + (spanLen blankB l + (tokOf (l.drop (spanLen blankB l))).len))
      else []
    else [l.length]
theorem lexGo_cuts (s : ByteArray) : ∀ (f p : Nat) (last : Int) (acc : List TokL) (l : Bs), p ≤ s.size → l = (bs s).drop p → (lexGo s f p last acc).code = 0 → s.size - p < f →
    (lexGo s f p last acc).toks.map (·.pos.1) = acc.map (·.pos.1) ++ (cuts f l).map (· + p)
  | 0, _, _, _, _, _, _, _, h => by omega
  | f + 1, p, last, acc, l, hp, hl, hc, hf => by
    have hll : l.length = s.size - p := by rw [hl, List.length_drop, bs_len]
    have hsp : spanAt blankB s p = spanLen blankB l := by rw [hl]; rfl
    have hdr : (bs s).drop (p + spanLen blankB l) = l.drop (spanLen blankB l) := by rw [hl, List.drop_drop]
    have hle := spanLen_le blankB l
    unfold lexGo at hc ⊢
    rw [hsp, hdr] at hc ⊢
    unfold cuts
    by_cases h1 : spanLen blankB l < l.length
    · rw [if_pos (by omega)] at hc ⊢
      rw [if_pos h1]
      by_cases h2 : (tokOf (l.drop (spanLen blankB l))).err = 0
      · rw [if_pos h2] at hc ⊢
        rw [if_pos h2]
        obtain ⟨l1, l2⟩ := tokOf_len (l.drop (spanLen blankB l)) (by rw [List.length_drop]; omega) h2
        rw [List.length_drop] at l2
        rw [lexGo_cuts s f _ _ _ (l.drop (spanLen blankB l + (tokOf (l.drop (spanLen blankB l))).len)) (by omega) (by rw [hl, List.drop_drop, Nat.add_assoc]) hc (by omega)]
        have e : ∀ n X : Nat, ∀ C : List Nat, C.map (· + (p + n + X)) = (C.map (· + (n + X))).map (· + p) := by
          intro n X C
          rw [List.map_map]
          exact List.map_congr_left fun x _ => by show x + _ = x + _ + p; omega
        rw [List.map_append, List.append_assoc, e]
        show _ ++ ((p + spanLen blankB l) :: _) = _ ++ ((spanLen blankB l + p) :: _)
        rw [Nat.add_comm p]
        rfl
      · rw [if_neg h2] at hc; exact absurd hc h2
    · rw [if_neg (by omega), if_neg h1]
      rw [List.map_append]
      congr 1
      show [p + spanLen blankB l] = [l.length + p]
      congr 1; omega
theorem cuts_le : ∀ (f : Nat) (l : Bs) (q : Nat), q ∈ cuts f l → q ≤ l.length
  | 0, _, _, h => by unfold cuts at h; cases h
  | f + 1, l, q, h => by
    unfold cuts at h
    by_cases h1 : spanLen blankB l < l.length
    · rw [if_pos h1] at h
      by_cases h2 : (tokOf (l.drop (spanLen blankB l))).err = 0
      · rw [if_pos h2] at h
        obtain ⟨l1, l2⟩ := tokOf_len (l.drop (spanLen blankB l)) (by rw [List.length_drop]; omega) h2
        rw [List.length_drop] at l2
        rcases List.mem_cons.1 h with rfl | h
        · omega
        · obtain ⟨x, hx, rfl⟩ := List.mem_map.1 h
          have := cuts_le f _ x hx
          rw [List.length_drop] at this
          show x + _ ≤ _; omega
      · rw [if_neg h2] at h; cases h
    · rw [if_neg h1] at h
      rw [List.mem_singleton.1 h]; exact Nat.le_refl _
theorem span_take_lt (f : UInt8 → Bool) : ∀ (l : Bs) (m : Nat), m ≤ spanLen f l → spanLen f (l.take m) = m
  | [], m, h => by unfold spanLen at h; simp at h; subst h; rfl
  | a :: l, 0, h => rfl
  | a :: l, m + 1, h => by
    unfold spanLen at h
    by_cases ha : f a = true
    · rw [List.takeWhile_cons_of_pos ha, List.length_cons] at h
      rw [List.take_succ_cons]
      unfold spanLen
      rw [List.takeWhile_cons_of_pos ha, List.length_cons]
      have := span_take_lt f l m (by unfold spanLen; omega)
      unfold spanLen at this
      rw [this]
    · rw [List.takeWhile_cons_of_neg ha] at h; simp at h
/-- A text that is cut ahead of one of its tokens has tokens. -/
theorem lexB_cut : ∀ (f : Nat) (l : Bs) (q : Nat), q ∈ cuts f l → ∀ (g p : Nat) (acc : List TokL), q < g → (lexB g (l.take q) p acc).code = 0
  | 0, _, _, h, _, _, _, _ => by unfold cuts at h; cases h
  | f + 1, l, q, h, g, p, acc, hg => by
    have hql := cuts_le _ _ _ h
    obtain ⟨g, rfl⟩ : ∃ k, g = k + 1 := ⟨g - 1, by omega⟩
    have hll : (l.take q).length = q := by rw [List.length_take, Nat.min_eq_left hql]
    rw [lexB_succ, hll]
    have hle := spanLen_le blankB l
    have blank : q ≤ spanLen blankB l → (if spanLen blankB (l.take q) < q then
        if (tokOf ((l.take q).drop (spanLen blankB (l.take q)))).err = 0 then
          lexB g ((l.take q).drop (spanLen blankB (l.take q) + (tokOf ((l.take q).drop (spanLen blankB (l.take q)))).len)) (p + spanLen blankB (l.take q) + (tokOf ((l.take q).drop (spanLen blankB (l.take q)))).len) (acc ++ [bareF (tokOf ((l.take q).drop (spanLen blankB (l.take q))))])
        else ⟨[], (tokOf ((l.take q).drop (spanLen blankB (l.take q)))).err, p + spanLen blankB (l.take q)⟩
      else (⟨acc ++ [bareEnd], 0, 0⟩ : BR)).code = 0 := fun hq => by rw [span_take_lt blankB l q hq, if_neg (by omega)]
    unfold cuts at h
    by_cases h1 : spanLen blankB l < l.length
    · rw [if_pos h1] at h
      by_cases h2 : (tokOf (l.drop (spanLen blankB l))).err = 0
      · rw [if_pos h2] at h
        have hdl : 0 < (l.drop (spanLen blankB l)).length := by rw [List.length_drop]; omega
        obtain ⟨l1, l2⟩ := tokOf_len (l.drop (spanLen blankB l)) hdl h2
        rw [List.length_drop] at l2
        rcases List.mem_cons.1 h with rfl | h
        · exact blank (Nat.le_refl _)
        · obtain ⟨x, hx, rfl⟩ := List.mem_map.1 h
          have hxl := cuts_le _ _ _ hx
          rw [List.length_drop] at hxl
          have e1 : spanLen blankB (l.take (x + (spanLen blankB l + (tokOf (l.drop (spanLen blankB l))).len))) = spanLen blankB l := spanLen_take blankB l _ (by omega)
          have e2 : (l.take (x + (spanLen blankB l + (tokOf (l.drop (spanLen blankB l))).len))).drop (spanLen blankB l) = (l.drop (spanLen blankB l)).take (x + (tokOf (l.drop (spanLen blankB l))).len) := by
            rw [List.drop_take]; congr 1; omega
          have e3 := tokOf_take (l.drop (spanLen blankB l)) (x + (tokOf (l.drop (spanLen blankB l))).len) hdl h2 (by omega)
          have e4 : (l.take (x + (spanLen blankB l + (tokOf (l.drop (spanLen blankB l))).len))).drop (spanLen blankB l + (tokOf (l.drop (spanLen blankB l))).len) = (l.drop (spanLen blankB l + (tokOf (l.drop (spanLen blankB l))).len)).take x := by
            rw [List.drop_take]; congr 1; omega
          show (if spanLen blankB (l.take (x + (spanLen blankB l + (tokOf (l.drop (spanLen blankB l))).len))) < x + (spanLen blankB l + (tokOf (l.drop (spanLen blankB l))).len) then _ else (⟨acc ++ [bareEnd], 0, 0⟩ : BR)).code = 0
          rw [e1, e2, e3, e4, if_pos (by omega), if_pos h2]
          exact lexB_cut f _ x hx g _ _ (by omega)
      · rw [if_neg h2] at h; cases h
    · rw [if_neg h1] at h
      exact blank (by rw [List.mem_singleton.1 h]; omega)
/-! ### two texts, joined -/
theorem joins' (s t u : ByteArray) (hu : bs u = bs s ++ 32 :: bs t) (hus : u.size ≤ 65536) (h0 : (lexAll s).code = 0) (h1 : (lexAll t).code = 0) :
    ∃ a, (lexAll s).toks.map bare = a ++ [bareEnd] ∧ (lexAll u).code = 0 ∧ (lexAll u).toks.map bare = a ++ (lexAll t).toks.map bare := by
  have hus2 : u.size = s.size + 1 + t.size := by rw [← bs_len, hu, List.length_append, List.length_cons, bs_len, bs_len]; omega
  have ls := lexAll_bare s (by omega)
  have lt := lexAll_bare t (by omega)
  have lu := lexAll_bare u (by omega)
  obtain ⟨a, e1, e2⟩ := lexB_join (bs t) (s.size + 1) (bs s) 0 [] (by rw [bs_len]; omega) (by rw [← ls.code]; exact h0)
  obtain ⟨h, hh, e3⟩ := e2 (u.size + 1) (by rw [bs_len, bs_len]; omega)
  rw [hu, e3, bs_len] at lu
  rw [bs_len] at hh
  obtain ⟨c1, c2, c3⟩ := lexB_acc h (bs t) (0 + s.size + 1) a (by rw [bs_len]; exact hh)
  have hf := lexB_fuel h (t.size + 1) (bs t) 0 [] (by rw [bs_len]; exact hh) (by rw [bs_len]; omega)
  rw [hf] at c1 c2 c3
  have hcode : (lexAll u).code = 0 := by rw [lu.code, c1, ← lt.code]; exact h1
  exact ⟨a, by rw [ls.toks, e1], hcode, by rw [lu.toks, c2 (by rw [← lt.code]; exact h1), lt.toks]⟩
/-- All tokens that are read are none of the end. -/
theorem Dv.kinds {l : List TokL} {g : Tg} {i : Nat} {e : Ex} {j : Nat} (h : Dv l g i e j) : ∀ k, i ≤ k → k < j → (tk l k).kind ≠ 0 := by
  have sg : ∀ {k s}, isT l k s = true → (tk l k).kind ≠ 0 := fun h => by have := isT_kind h; omega
  have sgn : ∀ k i, (signAt k l i).1 ≠ 0 → ∀ q, i ≤ q → q < i + (signAt k l i).2 → (tk l q).kind ≠ 0 := by
    intro k i h q h1 h2
    have h3 := (signAt_len k l i h).2
    have key : ∀ s, isT l i s = true → ∀ q, i ≤ q → q < i + 1 → (tk l q).kind ≠ 0 := fun s hs q a b => (show q = i by omega) ▸ sg hs
    have key2 : ∀ s s', (isT l i s && isT l (i + 1) s') = true → ∀ q, i ≤ q → q < i + 2 → (tk l q).kind ≠ 0 := fun s s' hs q a b => by
      rw [Bool.and_eq_true] at hs
      rcases Nat.lt_or_ge i q with h | h
      · obtain rfl : q = i + 1 := by omega
        exact sg hs.2
      · obtain rfl : q = i := by omega
        exact sg hs.1
    have pick : ∀ (c : Bool) (a b : Nat × Nat) (P : Nat × Nat → Prop), (c = true → P a) → (c = false → P b) → P (if c = true then a else b) := by
      intro c a b P h1 h2; cases c <;> simp_all
    revert h h2
    unfold signAt
    split
    · repeat (refine pick _ _ _ (fun x => x.1 ≠ 0 → q < i + x.2 → (tk l q).kind ≠ 0) (fun h _ hq => key _ h q h1 hq) fun _ => ?_)
      exact fun h => absurd rfl h
    · split
      · refine pick _ _ _ (fun x => x.1 ≠ 0 → q < i + x.2 → (tk l q).kind ≠ 0) (fun h _ hq => key _ h q h1 hq) fun _ => ?_
        refine pick _ _ _ (fun x => x.1 ≠ 0 → q < i + x.2 → (tk l q).kind ≠ 0) (fun h _ hq => key _ h q h1 hq) fun _ => ?_
        refine pick _ _ _ (fun x => x.1 ≠ 0 → q < i + x.2 → (tk l q).kind ≠ 0) (fun h _ hq => key2 _ _ h q h1 hq) fun _ => ?_
        exact pick _ _ _ (fun x => x.1 ≠ 0 → q < i + x.2 → (tk l q).kind ≠ 0) (fun h _ hq => key _ h q h1 hq) fun _ h => absurd rfl h
      · refine pick _ _ _ (fun x => x.1 ≠ 0 → q < i + x.2 → (tk l q).kind ≠ 0) (fun h _ hq => key _ h q h1 hq) fun _ => ?_
        refine pick _ _ _ (fun x => x.1 ≠ 0 → q < i + x.2 → (tk l q).kind ≠ 0) (fun h _ hq => key _ h q h1 hq) fun _ => ?_
        refine pick _ _ _ (fun x => x.1 ≠ 0 → q < i + x.2 → (tk l q).kind ≠ 0) (fun h _ hq => key _ h q h1 hq) fun _ => ?_
        refine pick _ _ _ (fun x => x.1 ≠ 0 → q < i + x.2 → (tk l q).kind ≠ 0) (fun h _ hq => key2 _ _ h q h1 hq) fun _ => ?_
        exact pick _ _ _ (fun x => x.1 ≠ 0 → q < i + x.2 → (tk l q).kind ≠ 0) (fun h _ hq => key _ h q h1 hq) fun _ h => absurd rfl h
  induction h with
  | lev4 h ih => exact ih
  | @lev k i e j e' j' hk hm h h2 ih ih2 =>
    intro q a b
    rcases Nat.lt_or_ge q j with h | h
    · exact ih q a h
    · exact ih2 q h b
  | @levM i e j e' j' hm h h2 ih ih2 =>
    intro q a b
    rcases Nat.lt_or_ge q j with h | h
    · rcases Nat.lt_or_ge i q with h5 | h5
      · exact ih q (by omega) h
      · obtain rfl : q = i := by omega
        exact sg hm
    · exact ih2 q h b
  | levL0 h => intro q a b; omega
  | @levL1 e i h j h0 h1 ih =>
    intro q a b
    rcases Nat.lt_or_ge q (i + (signAt 1 l i).2) with h | h
    · exact sgn 1 i h0 q a h
    · exact ih q h b
  | @levLk k e i h j e' j' hk h0 h1 h2 ih ih2 =>
    intro q a b
    rcases Nat.lt_or_ge q (i + (signAt k l i).2) with h | h
    · exact sgn k i h0 q a h
    · rcases Nat.lt_or_ge q j with h5 | h5
      · exact ih q h h5
      · exact ih2 q h5 b
  | @not i e j h0 h ih =>
    intro q a b
    rcases Nat.lt_or_ge i q with h5 | h5
    · exact ih q (by omega) b
    · obtain rfl : q = i := by omega
      exact sg h0
  | @paren i e j h0 h h1 ih =>
    intro q a b
    rcases Nat.lt_or_ge i q with h5 | h5
    · rcases Nat.lt_or_ge q j with h6 | h6
      · exact ih q (by omega) h6
      · obtain rfl : q = j := by omega
        exact sg h1
    · obtain rfl : q = i := by omega
      exact sg h0
  | @tru i h0 => intro q a b; obtain rfl : q = i := by omega
                 exact sg h0
  | @fals i h0 => intro q a b; obtain rfl : q = i := by omega
                  exact sg h0
  | @int i h0 => intro q a b; obtain rfl : q = i := by omega
                 omega
  | @char i h0 => intro q a b; obtain rfl : q = i := by omega
                  omega
  | nam h0 h ih => exact ih
  | @call0 i h0 h1 h2 =>
    intro q a b
    have : q = i ∨ q = i + 1 ∨ q = i + 2 := by omega
    rcases this with rfl | rfl | rfl
    · omega
    · exact sg h1
    · exact sg h2
  | @call i e j h0 h1 h2 h ih =>
    intro q a b
    rcases Nat.lt_or_ge q (i + 2) with h5 | h5
    · have : q = i ∨ q = i + 1 := by omega
      rcases this with rfl | rfl
      · omega
      · exact sg h1
    · exact ih q h5 b
  | @index i e j h0 h1 h h2 ih =>
    intro q a b
    rcases Nat.lt_or_ge q (i + 2) with h5 | h5
    · have : q = i ∨ q = i + 1 := by omega
      rcases this with rfl | rfl
      · omega
      · exact sg h1
    · rcases Nat.lt_or_ge q j with h6 | h6
      · exact ih q h5 h6
      · obtain rfl : q = j := by omega
        exact sg h2
  | @field i h0 h1 h2 =>
    intro q a b
    have : q = i ∨ q = i + 1 ∨ q = i + 2 := by omega
    rcases this with rfl | rfl | rfl
    · omega
    · exact sg h1
    · omega
  | @var i h0 h1 h2 h3 => intro q a b; obtain rfl : q = i := by omega
                          omega
  | @last name es i e j h h1 ih =>
    intro q a b
    rcases Nat.lt_or_ge q j with h6 | h6
    · exact ih q a h6
    · obtain rfl : q = j := by omega
      exact sg h1
  | @more name es i e j e' j' h h1 h2 ih ih2 =>
    intro q a b
    rcases Nat.lt_or_ge q j with h6 | h6
    · exact ih q a h6
    · rcases Nat.lt_or_ge j q with h7 | h7
      · exact ih2 q (by omega) b
      · obtain rfl : q = j := by omega
        exact sg h1
/-! ### what is read of a text -/
/-- A text is read as an expression: its tokens, and where they end. -/
theorem readE_iff (s : ByteArray) (e : Ex) : (readE s).2.1 = 0 ∧ (readE s).1 = e ↔ (lexAll s).code = 0 ∧ longE e ≤ 512 ∧ deepE e ≤ 48 ∧ ∃ j, Dv (lexAll s).toks (.lev 1) 0 e j ∧ (tk (lexAll s).toks j).kind = 0 := by
  unfold readE
  by_cases h0 : (lexAll s).code = 0
  · rw [if_neg (by simpa using h0)]
    unfold parseAt
    cases hr : levAt (lexAll s).toks 0 with
    | bad c p =>
      have hc : c ≠ 0 := by
        obtain ⟨e', st, F, _, h2⟩ := pm_expr (lexAll s).toks 0 (Nat.zero_le _)
        rw [hr] at h2; exact h2.1
      constructor
      · rintro ⟨h1, _⟩; exact absurd h1 hc
      · rintro ⟨_, _, _, j, h1, _⟩
        rw [(levAt_iff _ 0 (Nat.zero_le _) e j).2 h1] at hr; cases hr
    | ok e' j' =>
      have hd := (levAt_iff _ 0 (Nat.zero_le _) e' j').1 hr
      have uniq : ∀ e j, Dv (lexAll s).toks (.lev 1) 0 e j → e = e' ∧ j = j' := by
        intro e j h
        rw [(levAt_iff _ 0 (Nat.zero_le _) e j).2 h] at hr
        injection hr with h1 h2; exact ⟨h1, h2⟩
      unfold boundAt
      simp only
      by_cases h1 : 512 < longE e'
      · rw [if_pos h1]
        constructor
        · rintro ⟨h, _⟩; cases h
        · rintro ⟨_, h2, _, j, h3, _⟩; obtain ⟨rfl, _⟩ := uniq e j h3; omega
      rw [if_neg h1]
      by_cases h2 : 48 < deepE e'
      · rw [if_pos h2]
        constructor
        · rintro ⟨h, _⟩; cases h
        · rintro ⟨_, _, h2, j, h3, _⟩; obtain ⟨rfl, _⟩ := uniq e j h3; omega
      rw [if_neg h2]
      simp only
      by_cases h3 : (tk (lexAll s).toks j').kind ≠ 0
      · rw [if_pos h3]
        constructor
        · rintro ⟨h, _⟩; simp only at h; split at h <;> cases h
        · rintro ⟨_, _, _, j, h4, h5⟩; obtain ⟨rfl, rfl⟩ := uniq e j h4; exact absurd h5 h3
      · rw [if_neg h3]
        constructor
        · rintro ⟨_, rfl⟩; exact ⟨h0, Nat.le_of_not_lt h1, Nat.le_of_not_lt h2, j', hd, Classical.not_not.1 h3⟩
        · rintro ⟨_, _, _, j, h4, h5⟩; obtain ⟨rfl, rfl⟩ := uniq e j h4; exact ⟨rfl, rfl⟩
  · rw [if_pos h0]
    constructor
    · rintro ⟨h, _⟩; exact absurd h h0
    · rintro ⟨h, _⟩; exact absurd h h0
theorem like_bare {l l' : List TokL} {i i' : Nat} (h : (l[i]?).map bare = (l'[i']?).map bare) (hi : i < l.length) : LikeT (tk l i) (tk l' i') := by
  obtain ⟨t, ht⟩ : ∃ t, l[i]? = some t := ⟨_, List.getElem?_eq_getElem hi⟩
  rw [ht] at h
  cases h2 : l'[i']? with
  | none => rw [h2] at h; cases h
  | some t' =>
    rw [h2] at h
    rw [tk_in ht, tk_in h2]
    injection h with h
    unfold bare at h
    injection h with h1 h2 h3
    exact ⟨h1, h2, h3⟩
end Go.Proofs.YtgmmjhelcpgakaaGreatDoor
