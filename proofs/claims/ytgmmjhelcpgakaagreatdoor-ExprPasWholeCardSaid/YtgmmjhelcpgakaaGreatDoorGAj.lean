/- What is read as an expression, as a relation; no beginning that ends with a sign of two operands is one; tokens may stand elsewhere. -/
import Derived.Test.YtgmmjhelcpgakaaGreatDoorGO
namespace Go.Proofs.YtgmmjhelcpgakaaGreatDoor
open Go.RowKit
set_option linter.unusedVariables false
set_option linter.unusedSimpArgs false

/-- From i on, as far as j, an expression is read. -/
inductive Dv (l : List TokL) : Tg → Nat → Ex → Nat → Prop
  | lev4 {i e j} (h : Dv l .fac i e j) : Dv l (.lev 4) i e j
  | lev {k i e j e' j'} (hk : k ≠ 4) (hm : (k == 2 && isT l i gMinus) = false) (h : Dv l (.lev (k + 1)) i e j) (h2 : Dv l (.levL k e) j e' j') : Dv l (.lev k) i e' j'
  | levM {i e j e' j'} (hm : isT l i gMinus = true) (h : Dv l (.lev 3) (i + 1) e j) (h2 : Dv l (.levL 2 (exOne 8 e)) j e' j') : Dv l (.lev 2) i e' j'
  | levL0 {k e i} (h : (signAt k l i).1 = 0) : Dv l (.levL k e) i e i
  | levL1 {e i h j} (h0 : (signAt 1 l i).1 ≠ 0) (h1 : Dv l (.lev 2) (i + (signAt 1 l i).2) h j) : Dv l (.levL 1 e) i (exTwo (signAt 1 l i).1 e h) j
  | levLk {k e i h j e' j'} (hk : k ≠ 1) (h0 : (signAt k l i).1 ≠ 0) (h1 : Dv l (.lev (k + 1)) (i + (signAt k l i).2) h j) (h2 : Dv l (.levL k (exTwo (signAt k l i).1 e h)) j e' j') : Dv l (.levL k e) i e' j'
  | not {i e j} (h0 : isT l i wNot = true) (h : Dv l .fac (i + 1) e j) : Dv l .fac i (exOne 9 e) j
  | paren {i e j} (h0 : isT l i gOpen = true) (h : Dv l (.lev 1) (i + 1) e j) (h1 : isT l j gClose = true) : Dv l .fac i e (j + 1)
  | tru {i} (h0 : isT l i wTrue = true) : Dv l .fac i (.mk 2 1 eS eS []) (i + 1)
  | fals {i} (h0 : isT l i wFalse = true) : Dv l .fac i (.mk 2 0 eS eS []) (i + 1)
  | int {i} (h0 : (tk l i).kind = 3) : Dv l .fac i (.mk 1 (tk l i).n eS eS []) (i + 1)
  | char {i} (h0 : (tk l i).kind = 4) : Dv l .fac i (.mk 3 (tk l i).n eS eS []) (i + 1)
  | nam {i e j} (h0 : (tk l i).kind = 1) (h : Dv l .named i e j) : Dv l .fac i e j
  | call0 {i} (h0 : (tk l i).kind = 1) (h1 : isT l (i + 1) gOpen = true) (h2 : isT l (i + 2) gClose = true) : Dv l .named i (.mk 7 0 (tk l i).text eS []) (i + 3)
  | call {i e j} (h0 : (tk l i).kind = 1) (h1 : isT l (i + 1) gOpen = true) (h2 : isT l (i + 2) gClose = false) (h : Dv l (.callL (tk l i).text []) (i + 2) e j) : Dv l .named i e j
  | index {i e j} (h0 : (tk l i).kind = 1) (h1 : isT l (i + 1) gOpenB = true) (h : Dv l (.lev 1) (i + 2) e j) (h2 : isT l j gCloseB = true) : Dv l .named i (.mk 5 0 (tk l i).text eS [e]) (j + 1)
  | field {i} (h0 : (tk l i).kind = 1) (h1 : isT l (i + 1) gDot = true) (h2 : (tk l (i + 2)).kind = 1) : Dv l .named i (.mk 6 0 (tk l i).text (tk l (i + 2)).text []) (i + 3)
  | var {i} (h0 : (tk l i).kind = 1) (h1 : isT l (i + 1) gOpen = false) (h2 : isT l (i + 1) gOpenB = false) (h3 : isT l (i + 1) gDot = false) : Dv l .named i (exVar (tk l i).text) (i + 1)
  | last {name es i e j} (h : Dv l (.lev 1) i e j) (h1 : isT l j gClose = true) : Dv l (.callL name es) i (.mk 7 0 name eS (es ++ [e])) (j + 1)
  | more {name es i e j e' j'} (h : Dv l (.lev 1) i e j) (h1 : isT l j gComma = true) (h2 : Dv l (.callL name (es ++ [e])) (j + 1) e' j') : Dv l (.callL name es) i e' j'

theorem fit_ok {e e' : Ex} {j j' : Nat} (h : (some (Res.ok e j) : Option Res) = some (.ok e' j')) : e = e' ∧ j = j' := by injection h with h; injection h with h h2; exact ⟨h, h2⟩
theorem Dv.of_rm (l : List TokL) : ∀ (f : Nat) (g : Tg) (i : Nat) (e : Ex) (j : Nat), rm l f g i = some (.ok e j) → Dv l g i e j := by
  intro f
  induction f with
  | zero => intro g i e j h; cases h
  | succ f ih =>
    intro g i e j h
    have ih : ∀ {g i e j}, rm l f g i = some (.ok e j) → Dv l g i e j := fun {g i e j} h => ih g i e j h
    have wr : ∀ i, (some (wrongAt l i) : Option Res) ≠ some (.ok e j) := fun i h => by injection h with h; cases h
    cases g with
    | lev k =>
      rw [rm] at h
      split at h
      · rename_i hk; subst hk; exact .lev4 (ih h)
      · rename_i hk
        obtain ⟨e', j', h1, h2⟩ := nxt_ok h
        cases hm : (k == 2 && isT l i gMinus) with
        | true =>
          rw [hm] at h1 h2
          simp only [Bool.and_eq_true, beq_iff_eq] at hm
          obtain ⟨rfl, hm⟩ := hm
          exact .levM hm (ih h1) (ih h2)
        | false => rw [hm] at h1 h2; exact .lev hk hm (ih h1) (ih h2)
    | levL k e0 =>
      rw [rm] at h
      split at h
      · rename_i h0; obtain ⟨rfl, rfl⟩ := fit_ok h; exact .levL0 h0
      · rename_i h0
        obtain ⟨e', j', h1, h2⟩ := nxt_ok h
        split at h2
        · rename_i hk; subst hk; obtain ⟨rfl, rfl⟩ := fit_ok h2; exact .levL1 h0 (ih h1)
        · rename_i hk; exact .levLk hk h0 (ih h1) (ih h2)
    | fac =>
      rw [rm] at h
      split at h
      · rename_i h0
        obtain ⟨e', j', h1, h2⟩ := nxt_ok h
        obtain ⟨rfl, rfl⟩ := fit_ok h2; exact .not h0 (ih h1)
      split at h
      · rename_i h0
        obtain ⟨e', j', h1, h2⟩ := nxt_ok h
        split at h2
        · rename_i h3; obtain ⟨rfl, rfl⟩ := fit_ok h2; exact .paren h0 (ih h1) h3
        · exact absurd h2 (wr _)
      split at h
      · rename_i h0; obtain ⟨rfl, rfl⟩ := fit_ok h; exact .tru h0
      split at h
      · rename_i h0; obtain ⟨rfl, rfl⟩ := fit_ok h; exact .fals h0
      split at h
      · rename_i h0; obtain ⟨rfl, rfl⟩ := fit_ok h; exact .int h0
      split at h
      · rename_i h0; obtain ⟨rfl, rfl⟩ := fit_ok h; exact .char h0
      have h9 := ih h
      refine .nam ?_ h9
      cases h9 <;> assumption
    | named =>
      rw [rm] at h
      split at h
      · exact absurd h (wr _)
      rename_i k0
      have k0 : (tk l i).kind = 1 := by omega
      split at h
      · rename_i h1
        split at h
        · rename_i h2; obtain ⟨rfl, rfl⟩ := fit_ok h; exact .call0 k0 h1 h2
        · rename_i h2; exact .call k0 h1 (by simpa using h2) (ih h)
      rename_i h1
      split at h
      · rename_i h2
        obtain ⟨e', j', h3, h4⟩ := nxt_ok h
        split at h4
        · rename_i h5; obtain ⟨rfl, rfl⟩ := fit_ok h4; exact .index k0 h2 (ih h3) h5
        · exact absurd h4 (wr _)
      rename_i h2
      split at h
      · rename_i h3
        split at h
        · exact absurd h (wr _)
        · rename_i h4; obtain ⟨rfl, rfl⟩ := fit_ok h; exact .field k0 h3 (by omega)
      rename_i h3
      obtain ⟨rfl, rfl⟩ := fit_ok h
      exact .var k0 (by simpa using h1) (by simpa using h2) (by simpa using h3)
    | callL name es =>
      rw [rm] at h
      obtain ⟨e', j', h1, h2⟩ := nxt_ok h
      split at h2
      · rename_i h3; obtain ⟨rfl, rfl⟩ := fit_ok h2; exact .last (ih h1) h3
      split at h2
      · rename_i h3; exact .more (ih h1) h3 (ih h2)
      · exact absurd h2 (wr _)
theorem isT_text {l : List TokL} {i : Nat} {s : ByteArray} (h : isT l i s = true) : (tk l i).text = s := by
  unfold isT at h; rw [Bool.and_eq_true] at h; simpa using h.2
theorem isT_ne {l : List TokL} {i : Nat} {s s' : ByteArray} (h : isT l i s = true) (hn : s ≠ s') : isT l i s' = false := by
  cases h' : isT l i s' with
  | false => rfl
  | true => exact absurd ((isT_text h).symm.trans (isT_text h')) hn
theorem isT_kind {l : List TokL} {i : Nat} {s : ByteArray} (h : isT l i s = true) : (tk l i).kind = 2 ∨ (tk l i).kind = 5 := by
  unfold isT at h; rw [Bool.and_eq_true, Bool.or_eq_true] at h; simpa using h.1
theorem isT_not {l : List TokL} {i : Nat} (h : (tk l i).kind ≠ 2 ∧ (tk l i).kind ≠ 5) (s : ByteArray) : isT l i s = false := by
  cases h' : isT l i s with
  | false => rfl
  | true => have := isT_kind h'; omega
theorem Dv.one {l : List TokL} {g g1 : Tg} {i i1 j1 : Nat} {e1 e : Ex} {j : Nat} (h : ∃ f, rm l f g1 i1 = some (.ok e1 j1)) (hk : ∀ f, rm l f g1 i1 = some (.ok e1 j1) → rm l (f + 1) g i = some (.ok e j)) : ∃ f, rm l f g i = some (.ok e j) := by
  obtain ⟨f, h⟩ := h; exact ⟨_, hk f h⟩
theorem Dv.two {l : List TokL} {g g1 g2 : Tg} {i i1 j1 i2 j2 : Nat} {e1 e2 e : Ex} {j : Nat} (h : ∃ f, rm l f g1 i1 = some (.ok e1 j1)) (h2 : ∃ f, rm l f g2 i2 = some (.ok e2 j2)) (hk : ∀ f, rm l f g1 i1 = some (.ok e1 j1) → rm l f g2 i2 = some (.ok e2 j2) → rm l (f + 1) g i = some (.ok e j)) : ∃ f, rm l f g i = some (.ok e j) := by
  obtain ⟨f, h⟩ := h; obtain ⟨f2, h2⟩ := h2
  exact ⟨_, hk (f + f2) (rm_le l _ _ (by omega) _ _ _ h) (rm_le l _ _ (by omega) _ _ _ h2)⟩
theorem nxt_of {o : Option Res} {e : Ex} {j : Nat} {K : Ex → Nat → Option Res} (h : o = some (.ok e j)) : nxt o K = K e j := by rw [h]; rfl
theorem Dv.to_rm {l : List TokL} {g : Tg} {i : Nat} {e : Ex} {j : Nat} (h : Dv l g i e j) : ∃ f, rm l f g i = some (.ok e j) := by
  induction h with
  | lev4 h ih => exact Dv.one ih fun f hf => by rw [rm, if_pos rfl]; exact hf
  | lev hk hm h h2 ih ih2 => exact Dv.two ih ih2 fun f hf hf2 => by rw [rm, if_neg hk, hm, if_neg (by decide), nxt_of hf, if_neg (by decide)]; exact hf2
  | levM hm h h2 ih ih2 => exact Dv.two ih ih2 fun f hf hf2 => by rw [rm, if_neg (by decide), hm]; exact (nxt_of (K := fun e j => rm l f (.levL 2 (if (2 == 2 && true) = true then exOne 8 e else e)) j) hf).trans hf2
  | levL0 h => exact ⟨1, by rw [rm, if_pos h]⟩
  | levL1 h0 h1 ih => exact Dv.one ih fun f hf => by rw [rm, if_neg h0, nxt_of hf, if_pos rfl]
  | levLk hk h0 h1 h2 ih ih2 => exact Dv.two ih ih2 fun f hf hf2 => by rw [rm, if_neg h0, nxt_of hf, if_neg hk]; exact hf2
  | not h0 h ih => exact Dv.one ih fun f hf => by rw [rm, if_pos h0, nxt_of hf]
  | paren h0 h h1 ih => exact Dv.one ih fun f hf => by rw [rm, if_neg (by rw [isT_ne h0 (by decide)]; decide), if_pos h0, nxt_of hf, if_pos h1]
  | tru h0 => exact ⟨1, by rw [rm, if_neg (by rw [isT_ne h0 (by decide)]; decide), if_neg (by rw [isT_ne h0 (by decide)]; decide), if_pos h0]⟩
  | fals h0 => exact ⟨1, by rw [rm, if_neg (by rw [isT_ne h0 (by decide)]; decide), if_neg (by rw [isT_ne h0 (by decide)]; decide), if_neg (by rw [isT_ne h0 (by decide)]; decide), if_pos h0]⟩
  | @int i h0 => exact ⟨1, by have hn := isT_not (l := l) (i := i) (by omega); rw [rm, hn, hn, hn, hn, if_neg (by decide), if_neg (by decide), if_neg (by decide), if_neg (by decide), if_pos h0]⟩
  | @char i h0 => exact ⟨1, by have hn := isT_not (l := l) (i := i) (by omega); rw [rm, hn, hn, hn, hn, if_neg (by decide), if_neg (by decide), if_neg (by decide), if_neg (by decide), if_neg (by omega), if_pos h0]⟩
  | @nam i e j h0 h ih => exact Dv.one ih fun f hf => by have hn := isT_not (l := l) (i := i) (by omega); rw [rm, hn, hn, hn, hn, if_neg (by decide), if_neg (by decide), if_neg (by decide), if_neg (by decide), if_neg (by omega), if_neg (by omega)]; exact hf
  | call0 h0 h1 h2 => exact ⟨1, by rw [rm, if_neg (by omega), if_pos h1, if_pos h2]⟩
  | call h0 h1 h2 h ih => exact Dv.one ih fun f hf => by rw [rm, if_neg (by omega), if_pos h1, if_neg (by rw [h2]; decide)]; exact hf
  | index h0 h1 h h2 ih => exact Dv.one ih fun f hf => by rw [rm, if_neg (by omega), if_neg (by rw [isT_ne h1 (by decide)]; decide), if_pos h1, nxt_of hf, if_pos h2]
  | field h0 h1 h2 => exact ⟨1, by rw [rm, if_neg (by omega), if_neg (by rw [isT_ne h1 (by decide)]; decide), if_neg (by rw [isT_ne h1 (by decide)]; decide), if_pos h1, if_neg (by omega)]⟩
  | var h0 h1 h2 h3 => exact ⟨1, by rw [rm, if_neg (by omega), if_neg (by rw [h1]; decide), if_neg (by rw [h2]; decide), if_neg (by rw [h3]; decide)]⟩
  | last h h1 ih => exact Dv.one ih fun f hf => by rw [rm, nxt_of hf, if_pos h1]
  | more h h1 h2 ih ih2 => exact Dv.two ih ih2 fun f hf hf2 => by rw [rm, nxt_of hf, if_neg (by rw [isT_ne h1 (by decide)]; decide), if_pos h1]; exact hf2
/-- The answer at a place, as a relation. -/
theorem levAt_iff (l : List TokL) (i : Nat) (hi : i ≤ l.length) (e : Ex) (j : Nat) : levAt l i = .ok e j ↔ Dv l (.lev 1) i e j := by
  constructor
  · intro h; exact Dv.of_rm l _ _ _ _ _ (by rw [levAt_rm l i hi, h])
  · intro h
    obtain ⟨f, hf⟩ := h.to_rm
    exact rm_det l _ _ _ _ _ _ (levAt_rm l i hi) hf
/-- What is read lies ahead. -/
theorem Dv.adv {l : List TokL} {g : Tg} {i : Nat} {e : Ex} {j : Nat} (h : Dv l g i e j) : i + least g ≤ j := by
  induction h with
  | levL0 h => exact Nat.le_refl _
  | levL1 h0 h1 ih => have := (signAt_len _ _ _ h0).1; simp only [least] at *; omega
  | levLk hk h0 h1 h2 ih ih2 => have := (signAt_len _ _ _ h0).1; simp only [least] at *; omega
  | _ => simp only [least] at *; omega
/-- The last token that is read is no sign of two operands. -/
theorem Dv.star {l : List TokL} {g : Tg} {i : Nat} {e : Ex} {j : Nat} (h : Dv l g i e j) : i < j → isT l (j - 1) gStar = false := by
  have nk : ∀ k, (tk l k).kind ≠ 2 ∧ (tk l k).kind ≠ 5 → isT l k gStar = false := fun k hk => isT_not hk _
  induction h with
  | lev4 h ih => exact ih
  | @lev k i e j e' j' hk hm h h2 ih ih2 =>
    intro hlt
    have a := h.adv
    have b := h2.adv
    simp only [least] at a b
    by_cases hj : j < j'
    · exact ih2 hj
    · obtain rfl : j = j' := by omega
      exact ih (by omega)
  | @levM i e j e' j' hm h h2 ih ih2 =>
    intro hlt
    have a := h.adv
    have b := h2.adv
    simp only [least] at a b
    by_cases hj : j < j'
    · exact ih2 hj
    · obtain rfl : j = j' := by omega
      exact ih (by omega)
  | levL0 h => intro h; omega
  | levL1 h0 h1 ih => intro _; have a := h1.adv; simp only [least] at a; exact ih (by omega)
  | @levLk k e i h j e' j' hk h0 h1 h2 ih ih2 =>
    intro hlt
    have a := h1.adv
    have b := h2.adv
    simp only [least] at a b
    by_cases hj : j < j'
    · exact ih2 hj
    · obtain rfl : j = j' := by omega
      exact ih (by omega)
  | not h0 h ih => intro _; have a := h.adv; simp only [least] at a; exact ih (by omega)
  | paren h0 h h1 ih => intro _; exact isT_ne h1 (by decide)
  | tru h0 => intro _; exact isT_ne h0 (by decide)
  | fals h0 => intro _; exact isT_ne h0 (by decide)
  | int h0 => intro _; exact nk _ (by simp only [Nat.add_sub_cancel]; omega)
  | char h0 => intro _; exact nk _ (by simp only [Nat.add_sub_cancel]; omega)
  | nam h0 h ih => exact ih
  | call0 h0 h1 h2 => intro _; exact isT_ne h2 (by decide)
  | call h0 h1 h2 h ih => intro _; have a := h.adv; simp only [least] at a; exact ih (by omega)
  | index h0 h1 h h2 ih => intro _; exact isT_ne h2 (by decide)
  | @field i h0 h1 h2 => intro _; exact nk _ (by rw [show i + 3 - 1 = i + 2 from by omega]; omega)
  | var h0 h1 h2 h3 => intro _; exact nk _ (by simp only [Nat.add_sub_cancel]; omega)
  | last h h1 ih => intro _; exact isT_ne h1 (by decide)
  | more h h1 h2 ih ih2 => intro _; have a := h2.adv; simp only [least] at a; exact ih2 (by omega)

/-! ### the same tokens elsewhere -/
def LikeT (t t' : TokL) : Prop := t.kind = t'.kind ∧ t.text = t'.text ∧ t.n = t'.n
/-- No sign that goes on with an expression. -/
def StopT (t : TokL) : Prop := ¬ ((t.kind = 2 ∨ t.kind = 5) ∧ (t.text ∈ [gEq, gNe, gLt, gLe, gGt, gGe, gPlus, gMinus, wOr, gStar, wDiv, wMod, wAnd, gOpen, gOpenB, gDot]))
theorem LikeT.isT {l l' : List TokL} {i i' : Nat} (h : LikeT (tk l i) (tk l' i')) (s : ByteArray) : isT l i s = isT l' i' s := by
  unfold Go.Proofs.YtgmmjhelcpgakaaGreatDoor.isT; rw [h.1, h.2.1]
theorem StopT.isT {l : List TokL} {i : Nat} (h : StopT (tk l i)) (s : ByteArray) (hs : s ∈ [gEq, gNe, gLt, gLe, gGt, gGe, gPlus, gMinus, wOr, gStar, wDiv, wMod, wAnd, gOpen, gOpenB, gDot]) : isT l i s = false := by
  cases h' : Go.Proofs.YtgmmjhelcpgakaaGreatDoor.isT l i s with
  | false => rfl
  | true => exact absurd ⟨isT_kind h', by rw [isT_text h']; exact hs⟩ h
theorem StopT.sign {l : List TokL} {i : Nat} (h : StopT (tk l i)) (k : Nat) : (signAt k l i).1 = 0 := by
  unfold signAt
  split
  · rw [h.isT gEq (by simp), h.isT gNe (by simp), h.isT gLe (by simp), h.isT gGe (by simp), h.isT gLt (by simp), h.isT gGt (by simp)]; rfl
  · split
    · rw [h.isT gPlus (by simp), h.isT gMinus (by simp), h.isT wOr (by simp)]; rfl
    · rw [h.isT gStar (by simp), h.isT wDiv (by simp), h.isT wMod (by simp), h.isT wAnd (by simp)]; rfl
/-- A sign's absence is seen by its first token. -/
theorem sign_none_like {l l' : List TokL} {i i' : Nat} (h : LikeT (tk l i) (tk l' i')) (k : Nat) (h0 : (signAt k l i).1 = 0) : (signAt k l' i').1 = 0 := by
  have hi := h.isT
  unfold signAt at *
  simp only [hi] at h0
  split
  · rename_i hk; rw [if_pos hk] at h0; exact h0
  · rename_i hk
    rw [if_neg hk] at h0
    split
    · rename_i hk; rw [if_pos hk] at h0
      cases h1 : isT l' i' gPlus with
      | true => rw [h1] at h0; cases h0
      | false =>
        cases h2 : isT l' i' gMinus with
        | true => rw [h1, h2] at h0; cases h0
        | false =>
          cases h3 : isT l' i' wOr with
          | true => rw [h1, h2, h3] at h0; cases h4 : isT l (i + 1) wElse <;> rw [h4] at h0 <;> cases h0
          | false => rfl
    · rename_i hk; rw [if_neg hk] at h0
      cases h1 : isT l' i' gStar with
      | true => rw [h1] at h0; cases h0
      | false =>
        cases h2 : isT l' i' wDiv with
        | true => rw [h1, h2] at h0; cases h0
        | false =>
          cases h5 : isT l' i' wMod with
          | true => rw [h1, h2, h5] at h0; cases h0
          | false =>
            cases h3 : isT l' i' wAnd with
            | true => rw [h1, h2, h5, h3] at h0; cases h4 : isT l (i + 1) wThen <;> rw [h4] at h0 <;> cases h0
            | false => rfl
theorem sign_like {l l' : List TokL} {i i' : Nat} (h : LikeT (tk l i) (tk l' i')) (h1 : LikeT (tk l (i + 1)) (tk l' (i' + 1))) (k : Nat) : signAt k l i = signAt k l' i' := by
  have hi := h.isT
  have hi1 := h1.isT
  unfold signAt
  simp only [hi, hi1]
/-- Tokens alike from i on, as far as j; there alike, or both no sign that goes on. -/
structure Win (l l' : List TokL) (c i j : Nat) : Prop where
  like : ∀ k, i ≤ k → k < j → LikeT (tk l k) (tk l' (k + c))
  look : LikeT (tk l j) (tk l' (j + c)) ∨ (StopT (tk l j) ∧ StopT (tk l' (j + c)))
theorem Win.head {l l' : List TokL} {c i j : Nat} (h : Win l l' c i j) {j1 : Nat} (h1 : j1 ≤ j) (h0 : i ≤ j1) : Win l l' c i j1 := by
  refine ⟨fun k a b => h.like k a (by omega), ?_⟩
  rcases Nat.lt_or_ge j1 j with h2 | h2
  · exact .inl (h.like j1 h0 h2)
  · obtain rfl : j1 = j := by omega
    exact h.look
theorem Win.tail {l l' : List TokL} {c i j : Nat} (h : Win l l' c i j) {i1 : Nat} (h1 : i ≤ i1) : Win l l' c i1 j := ⟨fun k a b => h.like k (by omega) b, h.look⟩
theorem Win.sign0 {l l' : List TokL} {c i : Nat} (h : Win l l' c i i) (k : Nat) (h0 : (signAt k l i).1 = 0) : (signAt k l' (i + c)).1 = 0 := by
  rcases h.look with h1 | h1
  · exact sign_none_like h1 k h0
  · exact h1.2.sign k
theorem Win.isT {l l' : List TokL} {c i j : Nat} (h : Win l l' c i j) (k : Nat) (h1 : i ≤ k) (h2 : k < j) (s : ByteArray) : isT l' (k + c) s = isT l k s := ((h.like k h1 h2).isT s).symm
theorem Win.sign {l l' : List TokL} {c i j : Nat} (h : Win l l' c i j) (k : Nat) (h2 : i + 1 < j) : signAt k l' (i + c) = signAt k l i := by
  have h4 := h.like (i + 1) (by omega) h2
  rw [show i + 1 + c = i + c + 1 from by omega] at h4
  exact (sign_like (h.like i (by omega) (by omega)) h4 k).symm
/-- A sign of one word that is followed by its operand. -/
theorem Dv.win {l l' : List TokL} {c : Nat} {g : Tg} {i : Nat} {e : Ex} {j : Nat} (h : Dv l g i e j) : Win l l' c i j → Dv l' g (i + c) e (j + c) := by
  induction h with
  | lev4 h ih => intro w; exact .lev4 (ih w)
  | @lev k i e j e' j' hk hm h h2 ih ih2 =>
    intro w
    have a := h.adv
    have b := h2.adv
    simp only [least] at a b
    refine .lev hk ?_ (ih (w.head b (by omega))) (ih2 (w.tail (by omega)))
    rw [w.isT i (by omega) (by omega)]; exact hm
  | @levM i e j e' j' hm h h2 ih ih2 =>
    intro w
    have a := h.adv
    have b := h2.adv
    simp only [least] at a b
    refine .levM (by rw [w.isT i (by omega) (by omega)]; exact hm) ?_ (ih2 (w.tail (by omega)))
    have := ih ((w.head b (by omega)).tail (by omega))
    rwa [show i + 1 + c = i + c + 1 from by omega] at this
  | levL0 h => intro w; exact .levL0 (w.sign0 _ h)
  | @levL1 e i h j h0 h1 ih =>
    intro w
    have a := h1.adv
    have s := (signAt_len _ _ _ h0).1
    simp only [least] at a
    have es := w.sign 1 (by omega)
    have := ih (w.tail (by omega))
    rw [show i + (signAt 1 l i).2 + c = i + c + (signAt 1 l' (i + c)).2 from by rw [es]; omega] at this
    rw [← es]
    exact .levL1 (by rw [es]; exact h0) this
  | @levLk k e i h j e' j' hk h0 h1 h2 ih ih2 =>
    intro w
    have a := h1.adv
    have b := h2.adv
    have s := (signAt_len _ _ _ h0).1
    simp only [least] at a b
    have es := w.sign k (by omega)
    have h3 := ih ((w.head b (by omega)).tail (by omega))
    have h4 := ih2 (w.tail (by omega))
    rw [show i + (signAt k l i).2 + c = i + c + (signAt k l' (i + c)).2 from by rw [es]; omega] at h3
    rw [← es] at h4
    exact .levLk hk (by rw [es]; exact h0) h3 h4
  | @not i e j h0 h ih =>
    intro w
    have a := h.adv
    simp only [least] at a
    have h3 := ih (w.tail (by omega))
    rw [show i + 1 + c = i + c + 1 from by omega] at h3
    exact .not (by rw [w.isT i (by omega) (by omega)]; exact h0) h3
  | @paren i e j h0 h h1 ih =>
    intro w
    have a := h.adv
    simp only [least] at a
    have h3 := ih ((w.head (j1 := j) (by omega) (by omega)).tail (by omega))
    rw [show i + 1 + c = i + c + 1 from by omega] at h3
    rw [show j + 1 + c = j + c + 1 from by omega]
    exact .paren (by rw [w.isT i (by omega) (by omega)]; exact h0) h3 (by rw [w.isT j (by omega) (by omega)]; exact h1)
  | @tru i h0 => intro w; rw [show i + 1 + c = i + c + 1 from by omega]; exact .tru (by rw [w.isT i (by omega) (by omega)]; exact h0)
  | @fals i h0 => intro w; rw [show i + 1 + c = i + c + 1 from by omega]; exact .fals (by rw [w.isT i (by omega) (by omega)]; exact h0)
  | @int i h0 =>
    intro w
    have h1 := w.like i (by omega) (by omega)
    rw [show i + 1 + c = i + c + 1 from by omega, h1.2.2]; exact .int (by rw [← h1.1]; exact h0)
  | @char i h0 =>
    intro w
    have h1 := w.like i (by omega) (by omega)
    rw [show i + 1 + c = i + c + 1 from by omega, h1.2.2]; exact .char (by rw [← h1.1]; exact h0)
  | @nam i e j h0 h ih =>
    intro w
    have a := h.adv
    simp only [least] at a
    exact .nam (by rw [← (w.like i (by omega) (by omega)).1]; exact h0) (ih w)
  | @call0 i h0 h1 h2 =>
    intro w
    have k0 := w.like i (by omega) (by omega)
    have k1 := w.isT (i + 1) (by omega) (by omega) gOpen
    have k2 := w.isT (i + 2) (by omega) (by omega) gClose
    rw [show i + 1 + c = i + c + 1 from by omega] at k1
    rw [show i + 2 + c = i + c + 2 from by omega] at k2
    rw [show i + 3 + c = i + c + 3 from by omega, k0.2.1]
    exact .call0 (by rw [← k0.1]; exact h0) (by rw [k1]; exact h1) (by rw [k2]; exact h2)
  | @call i e j h0 h1 h2 h ih =>
    intro w
    have a := h.adv
    simp only [least] at a
    have k0 := w.like i (by omega) (by omega)
    have k1 := w.isT (i + 1) (by omega) (by omega) gOpen
    have k2 := w.isT (i + 2) (by omega) (by omega) gClose
    rw [show i + 1 + c = i + c + 1 from by omega] at k1
    rw [show i + 2 + c = i + c + 2 from by omega] at k2
    have h3 := ih (w.tail (by omega))
    rw [show i + 2 + c = i + c + 2 from by omega, k0.2.1] at h3
    exact .call (by rw [← k0.1]; exact h0) (by rw [k1]; exact h1) (by rw [k2]; exact h2) h3
  | @index i e j h0 h1 h h2 ih =>
    intro w
    have a := h.adv
    simp only [least] at a
    have k0 := w.like i (by omega) (by omega)
    have k1 := w.isT (i + 1) (by omega) (by omega) gOpenB
    have k2 := w.isT j (by omega) (by omega) gCloseB
    rw [show i + 1 + c = i + c + 1 from by omega] at k1
    have h3 := ih ((w.head (j1 := j) (by omega) (by omega)).tail (by omega))
    rw [show i + 2 + c = i + c + 2 from by omega] at h3
    rw [show j + 1 + c = j + c + 1 from by omega, k0.2.1]
    exact .index (by rw [← k0.1]; exact h0) (by rw [k1]; exact h1) h3 (by rw [k2]; exact h2)
  | @field i h0 h1 h2 =>
    intro w
    have k0 := w.like i (by omega) (by omega)
    have k1 := w.isT (i + 1) (by omega) (by omega) gDot
    have k2 := w.like (i + 2) (by omega) (by omega)
    rw [show i + 1 + c = i + c + 1 from by omega] at k1
    rw [show i + 2 + c = i + c + 2 from by omega] at k2
    rw [show i + 3 + c = i + c + 3 from by omega, k0.2.1, k2.2.1]
    exact .field (by rw [← k0.1]; exact h0) (by rw [k1]; exact h1) (by rw [← k2.1]; exact h2)
  | @var i h0 h1 h2 h3 =>
    intro w
    have k0 := w.like i (by omega) (by omega)
    have key : ∀ s, s ∈ [gEq, gNe, gLt, gLe, gGt, gGe, gPlus, gMinus, wOr, gStar, wDiv, wMod, wAnd, gOpen, gOpenB, gDot] → isT l (i + 1) s = false → isT l' (i + c + 1) s = false := by
      intro s hs h
      have hl := w.look
      rw [show i + 1 + c = i + c + 1 from by omega] at hl
      rcases hl with hl | hl
      · rw [← hl.isT]; exact h
      · exact hl.2.isT s hs
    rw [show i + 1 + c = i + c + 1 from by omega, k0.2.1]
    exact .var (by rw [← k0.1]; exact h0) (key _ (by simp) h1) (key _ (by simp) h2) (key _ (by simp) h3)
  | @last name es i e j h h1 ih =>
    intro w
    have a := h.adv
    simp only [least] at a
    rw [show j + 1 + c = j + c + 1 from by omega]
    exact .last (ih (w.head (by omega) (by omega))) (by rw [w.isT j (by omega) (by omega)]; exact h1)
  | @more name es i e j e' j' h h1 h2 ih ih2 =>
    intro w
    have a := h.adv
    have b := h2.adv
    simp only [least] at a b
    have h3 := ih2 (w.tail (by omega))
    rw [show j + 1 + c = j + c + 1 from by omega] at h3
    exact .more (ih (w.head (by omega) (by omega))) (by rw [w.isT j (by omega) (by omega)]; exact h1) h3
end Go.Proofs.YtgmmjhelcpgakaaGreatDoor
/- How deep and how long an expression is that was read: no more than tokens were read. -/
namespace Go.Proofs.YtgmmjhelcpgakaaGreatDoor
open Go.RowKit
set_option linter.unusedVariables false
set_option linter.unusedSimpArgs false

def deepG : Tg → Nat
  | .levL _ x => deepE x
  | .callL _ es => deepEs es + 1
  | _ => 0
def longG : Tg → Nat
  | .levL _ x => longE x
  | .callL _ es => max es.length (longEs es)
  | _ => 0
theorem deepE_one (o : Int) (x : Ex) (h : x.op ≠ 25) : deepE (exOne o x) = deepE x + 1 := by unfold exOne; rw [deepE, deepEs, deepEs, if_neg h]; simp
theorem deepEs_le (l : List Ex) (n : Nat) (h : ∀ a ∈ l, deepE a ≤ n) : deepEs l ≤ n := by
  induction l with
  | nil => rw [deepEs]; omega
  | cons a l ih =>
    rw [deepEs]
    have h1 := h a (by simp)
    have h2 := ih fun b hb => h b (by simp [hb])
    split <;> omega
theorem deepE_one_le (o : Int) (x : Ex) : deepE (exOne o x) ≤ deepE x + 1 := by
  unfold exOne; rw [deepE, deepEs, deepEs]; split <;> omega
theorem deepE_two_le (o : Int) (x y : Ex) : deepE (exTwo o x y) ≤ max (deepE x) (deepE y) + 1 := by
  unfold exTwo; rw [deepE, deepEs, deepEs, deepEs]; split <;> split <;> omega
theorem longE_one (o : Int) (x : Ex) : longE (exOne o x) = max 1 (longE x) := by unfold exOne; rw [longE, longEs, longEs]; simp
theorem longE_two (o : Int) (x y : Ex) : longE (exTwo o x y) = max 2 (max (longE x) (longE y)) := by unfold exTwo; rw [longE, longEs, longEs, longEs]; simp
theorem deep_nil (o n : Int) (s f : ByteArray) : deepE (.mk o n s f []) = 1 ∧ longE (.mk o n s f []) = 0 := by rw [deepE, deepEs, longE, longEs]; simp
theorem Dv.size {l : List TokL} {g : Tg} {i : Nat} {e : Ex} {j : Nat} (h : Dv l g i e j) : deepE e ≤ deepG g + (j - i) ∧ longE e ≤ longG g + (j - i) := by
  induction h with
  | lev4 h ih => exact ih
  | @lev k i e j e' j' hk hm h h2 ih ih2 =>
    have a := h.adv
    have b := h2.adv
    simp only [least, deepG, longG] at *; omega
  | @levM i e j e' j' hm h h2 ih ih2 =>
    have a := h.adv
    have b := h2.adv
    have c := deepE_one_le 8 e
    have d := longE_one 8 e
    simp only [least, deepG, longG] at *; omega
  | levL0 h => simp only [deepG, longG]; omega
  | @levL1 x i h j h0 h1 ih =>
    have a := h1.adv
    have s := (signAt_len _ _ _ h0).1
    have c := deepE_two_le (signAt 1 l i).1 x h
    have d := longE_two (signAt 1 l i).1 x h
    have p := deepE_pos x
    simp only [least, deepG, longG] at *; omega
  | @levLk k x i h j e' j' hk h0 h1 h2 ih ih2 =>
    have a := h1.adv
    have b := h2.adv
    have s := (signAt_len _ _ _ h0).1
    have c := deepE_two_le (signAt k l i).1 x h
    have d := longE_two (signAt k l i).1 x h
    have p := deepE_pos x
    simp only [least, deepG, longG] at *; omega
  | @not i e j h0 h ih =>
    have a := h.adv
    have c := deepE_one_le 9 e
    have d := longE_one 9 e
    simp only [least, deepG, longG] at *; omega
  | @paren i e j h0 h h1 ih =>
    have a := h.adv
    simp only [least, deepG, longG] at *; omega
  | @tru i h0 => have := deep_nil 2 1 eS eS; simp only [deepG, longG]; omega
  | @fals i h0 => have := deep_nil 2 0 eS eS; simp only [deepG, longG]; omega
  | @int i h0 => have := deep_nil 1 (tk l i).n eS eS; simp only [deepG, longG]; omega
  | @char i h0 => have := deep_nil 3 (tk l i).n eS eS; simp only [deepG, longG]; omega
  | nam h0 h ih => exact ih
  | @call0 i h0 h1 h2 => have := deep_nil 7 0 (tk l i).text eS; simp only [deepG, longG]; omega
  | @call i e j h0 h1 h2 h ih =>
    have a := h.adv
    have z : deepEs [] = 0 := by rw [deepEs]
    have z2 : longEs [] = 0 := by rw [longEs]
    simp only [least, deepG, longG, z, z2, List.length_nil] at *; omega
  | @index i e j h0 h1 h h2 ih =>
    have a := h.adv
    have c : deepE (.mk 5 0 (tk l i).text eS [e]) ≤ deepE e + 1 := by rw [deepE, deepEs, deepEs]; split <;> omega
    have d : longE (.mk 5 0 (tk l i).text eS [e]) = max 1 (longE e) := by rw [longE, longEs, longEs]; simp
    simp only [least, deepG, longG] at *; omega
  | @field i h0 h1 h2 => have := deep_nil 6 0 (tk l i).text (tk l (i + 2)).text; simp only [deepG, longG]; omega
  | @var i h0 h1 h2 h3 =>
    have := deep_nil 4 0 (tk l i).text eS
    have h : exVar (tk l i).text = .mk 4 0 (tk l i).text eS [] := rfl
    rw [h]; simp only [deepG, longG]; omega
  | @last name es i e j h h1 ih =>
    have a := h.adv
    have c : deepE (.mk 7 0 name eS (es ++ [e])) ≤ max (deepEs es) (deepE e) + 1 := by rw [deepE, deepEs_snoc]; split <;> omega
    have d : longE (.mk 7 0 name eS (es ++ [e])) = max (es.length + 1) (max (longEs es) (longE e)) := by rw [longE, longEs_snoc]; simp
    simp only [least, deepG, longG] at *; omega
  | @more name es i e j e' j' h h1 h2 ih ih2 =>
    have a := h.adv
    have b := h2.adv
    have c : deepEs (es ++ [e]) ≤ max (deepEs es) (deepE e) := by rw [deepEs_snoc]; split <;> omega
    have d : longEs (es ++ [e]) = max (longEs es) (longE e) := longEs_snoc es e
    have f : (es ++ [e]).length = es.length + 1 := by simp
    simp only [least, deepG, longG] at *; omega
theorem levAt_size (l : List TokL) (i : Nat) (hi : i ≤ l.length) (e : Ex) (j : Nat) (h : levAt l i = .ok e j) : deepE e ≤ l.length ∧ longE e ≤ l.length := by
  have h1 := ((levAt_iff l i hi e j).1 h).size
  have h2 := levAt_in l i hi e j h
  simp only [deepG, longG] at h1
  omega
/-- What read answers: the expression, the next place, the Diag. -/
def resE (r : Res) : Ex := match r with | .ok e _ => e | .bad _ _ => exNil
def resI (at_ : Nat) (r : Res) : Nat := match r with | .ok _ j => j | .bad _ _ => at_
def resC (r : Res) : Nat := match r with | .ok _ _ => 0 | .bad c _ => c
def resP (r : Res) : Pos3 := match r with | .ok _ _ => (0, 0, 0) | .bad _ p => p
end Go.Proofs.YtgmmjhelcpgakaaGreatDoor
