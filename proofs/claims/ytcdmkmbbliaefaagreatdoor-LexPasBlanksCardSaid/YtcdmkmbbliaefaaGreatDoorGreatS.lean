/- Names and words in great letters: the plain law. -/
import Derived.Test.YtcdmkmbbliaefaaGreatDoorLexS
namespace Go.Proofs.YtcdmkmbbliaefaaGreatDoor
open Go.RowKit
set_option linter.unusedVariables false
set_option linter.unusedSimpArgs false

theorem all_u8 {p : UInt8 → Bool} (h : ∀ n : Fin 256, p (UInt8.ofNat n.val) = true) (c : UInt8) : p c = true := by
  have := h ⟨c.toNat, UInt8.toNat_lt c⟩
  simpa using this
def upB (c : UInt8) : UInt8 := if smallB c = true then c - 97 + 65 else c
def upL (l : Bs) : Bs := l.map upB
structure GoodWord (l : Bs) (kind : Nat) : Prop where
  len : l.length ≤ 32
  head : ∃ c r, l = c :: r ∧ smallB c = true
  all : ∀ c ∈ l, nameB c = true ∧ greatB c = false
  kind : kind = if isWord l = true then 2 else 1
theorem up_low (c : UInt8) (h : greatB c = false) : Lib.lowerB (upB c) = c := by
  have h1 := all_u8 (p := fun c => greatB c || Lib.lowerB (upB c) == c) (by decide +kernel) c
  simp [h] at h1
  exact h1
theorem up_name (c : UInt8) (h : nameB c = true) : nameB (upB c) = true := by
  have h1 := all_u8 (p := fun c => !nameB c || nameB (upB c)) (by decide +kernel) c
  simp [h] at h1
  exact h1
theorem up_head (c : UInt8) (h : smallB c = true) : letterB (upB c) = true ∧ blankB (upB c) = false ∧ upB c ≠ 123 := by
  have h1 := all_u8 (p := fun c => !smallB c || (letterB (upB c) && !blankB (upB c) && upB c != 123)) (by decide +kernel) c
  simp [h] at h1
  exact ⟨h1.1.1, h1.1.2, h1.2⟩
theorem low_name (c : UInt8) (h : nameB c = true) : nameB (Lib.lowerB c) = true ∧ greatB (Lib.lowerB c) = false := by
  have h1 := all_u8 (p := fun c => !nameB c || (nameB (Lib.lowerB c) && !greatB (Lib.lowerB c))) (by decide +kernel) c
  simp [h] at h1
  exact h1
theorem low_head (c : UInt8) (h : letterB c = true) : smallB (Lib.lowerB c) = true := by
  have h1 := all_u8 (p := fun c => !letterB c || smallB (Lib.lowerB c)) (by decide +kernel) c
  simp [h] at h1
  exact h1
theorem span_all (f : UInt8 → Bool) : ∀ l : Bs, (∀ c ∈ l, f c = true) → spanLen f l = l.length
  | [], _ => rfl
  | a :: l, h => by
    unfold spanLen
    rw [List.takeWhile_cons_of_pos (h a (by simp)), List.length_cons, List.length_cons]
    have := span_all f l (fun c hc => h c (by simp [hc]))
    unfold spanLen at this
    rw [this]
theorem span_take (f : UInt8 → Bool) (l : Bs) : ∀ c ∈ l.take (spanLen f l), f c = true := by
  intro c hc
  obtain ⟨k, hk, rfl⟩ := List.mem_iff_getElem.1 hc
  have hk2 : k < spanLen f l := by rw [List.length_take] at hk; omega
  obtain ⟨c, h1, h2⟩ := spanLen_at f l k hk2
  have : (l.take (spanLen f l))[k]? = some c := by rw [List.getElem?_take_of_lt hk2]; exact h1
  rw [List.getElem?_eq_getElem hk] at this
  injection this with this
  rw [this]; exact h2
theorem tokName_good (c : UInt8) (r : Bs) (hc : letterB c = true) (h : (tokName (c :: r)).err = 0) : GoodWord (tokName (c :: r)).text (tokName (c :: r)).kind := by
  unfold tokName at *
  by_cases h2 : spanLen nameB (c :: r) ≤ 32
  · rw [if_pos h2]
    refine ⟨?_, ?_, ?_, rfl⟩
    · show (lowL _).length ≤ 32
      unfold lowL Lib.toLowerA
      rw [List.length_map, List.length_take]; omega
    · have hp := span_pos nameB c r (letter_name hc)
      obtain ⟨n, hn⟩ : ∃ n, spanLen nameB (c :: r) = n + 1 := ⟨spanLen nameB (c :: r) - 1, by omega⟩
      refine ⟨Lib.lowerB c, (r.take n).map Lib.lowerB, ?_, low_head c hc⟩
      show lowL _ = _
      unfold lowL Lib.toLowerA
      rw [hn, List.take_succ_cons, List.map_cons]
    · intro d hd
      have hd' : d ∈ lowL ((c :: r).take (spanLen nameB (c :: r))) := hd
      unfold lowL Lib.toLowerA at hd'
      obtain ⟨e, he, rfl⟩ := List.mem_map.1 hd'
      exact low_name e (span_take nameB _ e he)
  · rw [if_neg h2] at h; cases h
theorem tokQuoted_kind (l : Bs) (h : (tokQuoted l).err = 0) : (tokQuoted l).kind = 4 := by
  unfold tokQuoted at *
  by_cases h1 : ([39, 39, 39, 39] : Bs).isPrefixOf l = true
  · rw [if_pos h1]
  · rw [if_neg h1] at *
    match l, h with
    | _ :: c :: d :: r, h =>
      simp only at h ⊢
      by_cases h2 : plainB c = true ∧ d = 39
      · rw [if_pos h2]
      · rw [if_neg h2] at h; cases h
    | [], h => cases h
    | [_], h => cases h
    | [_, _], h => cases h
theorem tokNumbered_kind (l : Bs) (h : (tokNumbered l).err = 0) : (tokNumbered l).kind = 4 := by
  unfold tokNumbered at *
  by_cases h1 : spanLen digB (l.drop 1) = 0 ∨ 3 < spanLen digB (l.drop 1)
  · rw [if_pos h1] at h; cases h
  · rw [if_neg h1] at *
    split at h
    · rename_i n hn
      by_cases h3 : 255 < n
      · rw [if_pos h3] at h; cases h
      · show (if 255 < n then fail 7 else (⟨0, 4, [], n, 1 + spanLen digB (l.drop 1)⟩ : Fd)).kind = 4
        rw [if_neg h3]
    · cases h
theorem tokOf_good (l : Bs) (h : (tokOf l).err = 0) (hk : (tokOf l).kind = 1 ∨ (tokOf l).kind = 2) : GoodWord (tokOf l).text (tokOf l).kind := by
  unfold tokOf at *
  by_cases h1 : noteBegins l = true
  · rw [if_pos h1] at h hk ⊢
    by_cases h2 : (noteRead l).2.2 = 0
    · rw [if_pos h2] at hk; rcases hk with hk | hk <;> cases hk
    · rw [if_neg h2] at h; exact absurd h h2
  · rw [if_neg h1] at h hk ⊢
    match l, h, hk with
    | [], h, hk => cases h
    | c :: r, h, hk =>
      unfold tokPlain at *
      simp only at h hk ⊢
      by_cases h1 : letterB c = true
      · rw [if_pos h1] at h hk ⊢; exact tokName_good c r h1 h
      rw [if_neg h1] at h hk ⊢
      by_cases h2 : digB c = true
      · rw [if_pos h2] at h hk
        unfold tokInt at h hk
        split at h
        · rename_i n hn
          rw [hn] at hk
          rcases hk with hk | hk <;> cases hk
        · cases h
      rw [if_neg h2] at h hk ⊢
      by_cases h3 : c = 39
      · rw [if_pos h3] at h hk; rw [tokQuoted_kind _ h] at hk; rcases hk with hk | hk <;> cases hk
      rw [if_neg h3] at h hk ⊢
      by_cases h4 : c = 35
      · rw [if_pos h4] at h hk; rw [tokNumbered_kind _ h] at hk; rcases hk with hk | hk <;> cases hk
      rw [if_neg h4] at h hk
      unfold tokSign at h hk
      split at h
      · rename_i g hg
        rw [hg] at hk
        rcases hk with hk | hk <;> cases hk
      · cases h
def Worded (t : TokL) : Prop := t.kind = 1 ∨ t.kind = 2 → GoodWord (bs t.text) t.kind
theorem lexGo_good (s : ByteArray) : ∀ (f p : Nat) (last : Int) (acc : List TokL), (∀ t ∈ acc, Worded t) → ∀ t ∈ (lexGo s f p last acc).toks, Worded t
  | 0, _, _, _, _ => by intro t ht; simp [lexGo] at ht
  | f + 1, p, last, acc, ha => by
    unfold lexGo
    by_cases h1 : p + spanAt blankB s p < s.size
    · rw [if_pos h1]
      by_cases h2 : (tokOf ((bs s).drop (p + spanAt blankB s p))).err = 0
      · rw [if_pos h2]
        refine lexGo_good s f _ _ _ ?_
        intro t ht
        rcases List.mem_append.1 ht with ht | ht
        · exact ha t ht
        · rw [List.mem_singleton] at ht
          subst ht
          intro hk
          have := tokOf_good _ h2 hk
          unfold tokAt
          simpa [bs] using this
      · rw [if_neg h2]; intro t ht; cases ht
    · rw [if_neg h1]
      intro t ht
      rcases List.mem_append.1 ht with ht | ht
      · exact ha t ht
      · rw [List.mem_singleton] at ht
        subst ht
        intro hk
        rcases hk with hk | hk <;> cases hk
theorem lexAll_good (s : ByteArray) : ∀ t ∈ (lexAll s).toks, Worded t := by
  unfold lexAll
  by_cases h : 65536 < s.size
  · rw [if_pos h]; intro t ht; cases ht
  · rw [if_neg h]; exact lexGo_good s _ _ _ _ (fun t ht => by cases ht)
theorem lexGo_count (s : ByteArray) : ∀ (f p : Nat) (last : Int) (acc : List TokL), p ≤ s.size → (lexGo s f p last acc).toks.length ≤ acc.length + (s.size - p) + 1
  | 0, _, _, _, _ => by simp [lexGo]
  | f + 1, p, last, acc, hp => by
    unfold lexGo
    have hle := spanAt_le blankB s p hp
    by_cases h1 : p + spanAt blankB s p < s.size
    · rw [if_pos h1]
      by_cases h2 : (tokOf ((bs s).drop (p + spanAt blankB s p))).err = 0
      · rw [if_pos h2]
        have hl : ((bs s).drop (p + spanAt blankB s p)).length = s.size - (p + spanAt blankB s p) := by rw [List.length_drop, bs_len]
        obtain ⟨l1, l2⟩ := tokOf_len _ (by rw [hl]; omega) h2
        rw [hl] at l2
        refine Nat.le_trans (lexGo_count s f _ _ _ (by omega)) ?_
        rw [List.length_append, List.length_singleton]
        omega
      · rw [if_neg h2]; simp
    · rw [if_neg h1]
      show (acc ++ _).length ≤ _
      rw [List.length_append, List.length_singleton]; omega
theorem lexAll_count (s : ByteArray) : (lexAll s).toks.length ≤ s.size + 1 := by
  unfold lexAll
  by_cases h : 65536 < s.size
  · rw [if_pos h]; exact Nat.zero_le _
  · rw [if_neg h]; have := lexGo_count s (s.size + 1) 0 (-1) [] (Nat.zero_le _); simpa using this
/-- In great letters it is the same word. -/
theorem good_lex (l : Bs) (kind : Nat) (h : GoodWord l kind) : ∃ a b, lexAll ⟨(upL l).toArray⟩ = ⟨[a, b], 0, (0, 0, 0)⟩ ∧ a.kind = kind ∧ a.text = ⟨l.toArray⟩ := by
  obtain ⟨S, hS⟩ : ∃ S : ByteArray, S = ⟨(upL l).toArray⟩ := ⟨_, rfl⟩
  rw [← hS]
  have hb : bs S = upL l := by rw [hS]; simp [bs]
  have hlen : (upL l).length = l.length := by unfold upL; rw [List.length_map]
  have hsz : S.size = l.length := by rw [← hlen, ← hb, bs_len]
  obtain ⟨c, r, hl, hc⟩ := h.head
  have hu : upL l = upB c :: upL r := by rw [hl]; rfl
  obtain ⟨u1, u2, u3⟩ := up_head c hc
  have hpos : 0 < l.length := by rw [hl]; simp
  have hle := h.len
  have hsp : spanLen nameB (upL l) = l.length := by
    rw [span_all nameB, hlen]
    intro d hd
    unfold upL at hd
    obtain ⟨e, he, rfl⟩ := List.mem_map.1 hd
    exact up_name e (h.all e he).1
  have hlow : lowL (upL l) = l := by
    unfold lowL Lib.toLowerA upL
    rw [List.map_map]
    refine (List.map_congr_left (g := id) ?_).trans (List.map_id l)
    intro d hd
    exact up_low d (h.all d hd).2
  have htk : (upL l).take l.length = upL l := by rw [← hlen, List.take_length]
  have hbl : spanAt blankB S 0 = 0 := by
    unfold spanAt spanLen
    rw [List.drop_zero, hb, hu, List.takeWhile_cons_of_neg (by simp [u2])]; rfl
  have htok : tokOf ((bs S).drop (0 + spanAt blankB S 0)) = ⟨0, kind, l, 0, l.length⟩ := by
    rw [hbl, List.drop_zero, hb]
    unfold tokOf noteBegins
    have hn : ((upL l).head? == some 123) = false := by rw [hu]; simpa using u3
    rw [hn, if_neg (by decide)]
    have h1 : tokPlain (upL l) = tokName (upL l) := by
      rw [hu]; unfold tokPlain; simp only; rw [if_pos u1]
    rw [h1]
    unfold tokName
    rw [hsp, if_pos hle, htk, hlow, ← h.kind]
  have hend : spanAt blankB S l.length = 0 := by
    unfold spanAt spanLen
    rw [hb, ← hlen, List.drop_length]; rfl
  obtain ⟨n, hn⟩ : ∃ n, l.length = n + 1 := ⟨l.length - 1, by omega⟩
  refine ⟨tokAt S 0 (-1) ⟨0, kind, l, 0, l.length⟩, endAt S l.length (lineAt S l.length : Nat), ?_, rfl, rfl⟩
  unfold lexAll
  rw [if_neg (by omega)]
  unfold lexGo
  rw [if_pos (by rw [hbl, hsz]; omega), htok, if_pos rfl, hbl, hsz, hn]
  unfold lexGo
  rw [show 0 + 0 + (n + 1) = l.length from by omega, hend, if_neg (by rw [hsz]; omega)]
  simp only [List.nil_append, List.cons_append, Nat.add_zero]
  rw [hn]
end Go.Proofs.YtcdmkmbbliaefaaGreatDoor
