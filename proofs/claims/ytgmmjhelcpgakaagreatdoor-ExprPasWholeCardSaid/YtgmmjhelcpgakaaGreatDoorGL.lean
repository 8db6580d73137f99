/- Expressions of Pas, read from tokens, in plain words: the document's way (rm) and the program's, with its reader's state (pm); both agree, and rm answers with fuel enough. -/
import Derived.Test.YtgmmjhelcpgakaaGreatDoorGH
namespace Go.Proofs.YtgmmjhelcpgakaaGreatDoor
open Go.RowKit
set_option linter.unusedVariables false
set_option linter.unusedSimpArgs false

/-- An expression, as a tree. -/
inductive Ex where
  | mk (op : Int) (n : Int) (name field : ByteArray) (l : List Ex)
namespace Ex
def op : Ex → Int | mk o _ _ _ _ => o
def num : Ex → Int | mk _ n _ _ _ => n
def name : Ex → ByteArray | mk _ _ s _ _ => s
def field : Ex → ByteArray | mk _ _ _ s _ => s
def list : Ex → List Ex | mk _ _ _ _ l => l
end Ex
abbrev eS : ByteArray := ⟨#[]⟩
def exOne (o : Int) (e : Ex) : Ex := .mk o 0 eS eS [e]
def exTwo (o : Int) (a b : Ex) : Ex := .mk o 0 eS eS [a, b]
def exVar (s : ByteArray) : Ex := .mk 4 0 s eS []
def exNil : Ex := .mk 0 0 eS eS []

/-! ### words and signs -/
abbrev wNot : ByteArray := ⟨#[110, 111, 116]⟩
abbrev wTrue : ByteArray := ⟨#[116, 114, 117, 101]⟩
abbrev wFalse : ByteArray := ⟨#[102, 97, 108, 115, 101]⟩
abbrev wDiv : ByteArray := ⟨#[100, 105, 118]⟩
abbrev wMod : ByteArray := ⟨#[109, 111, 100]⟩
abbrev wAnd : ByteArray := ⟨#[97, 110, 100]⟩
abbrev wThen : ByteArray := ⟨#[116, 104, 101, 110]⟩
abbrev wOr : ByteArray := ⟨#[111, 114]⟩
abbrev wElse : ByteArray := ⟨#[101, 108, 115, 101]⟩
abbrev gEq : ByteArray := ⟨#[61]⟩
abbrev gNe : ByteArray := ⟨#[60, 62]⟩
abbrev gLt : ByteArray := ⟨#[60]⟩
abbrev gLe : ByteArray := ⟨#[60, 61]⟩
abbrev gGt : ByteArray := ⟨#[62]⟩
abbrev gGe : ByteArray := ⟨#[62, 61]⟩
abbrev gPlus : ByteArray := ⟨#[43]⟩
abbrev gMinus : ByteArray := ⟨#[45]⟩
abbrev gStar : ByteArray := ⟨#[42]⟩
abbrev gOpen : ByteArray := ⟨#[40]⟩
abbrev gClose : ByteArray := ⟨#[41]⟩
abbrev gOpenB : ByteArray := ⟨#[91]⟩
abbrev gCloseB : ByteArray := ⟨#[93]⟩
abbrev gDot : ByteArray := ⟨#[46]⟩
abbrev gComma : ByteArray := ⟨#[44]⟩

/-! ### tokens at places -/
def zTok : TokL := ⟨0, eS, 0, false, (0, 0, 0)⟩
def lastPos (l : List TokL) : Pos3 := match l.getLast? with | none => (0, 0, 0) | some t => t.pos
def tk (l : List TokL) (i : Nat) : TokL := match l[i]? with | some t => t | none => ⟨0, eS, 0, false, lastPos l⟩
def isT (l : List TokL) (i : Nat) (s : ByteArray) : Bool := ((tk l i).kind == 2 || (tk l i).kind == 5) && decide ((tk l i).text = s)
theorem tk_in {l : List TokL} {i : Nat} {t : TokL} (h : l[i]? = some t) : tk l i = t := by unfold tk; rw [h]
theorem tk_kind_in {l : List TokL} {i : Nat} (h : (tk l i).kind ≠ 0) : i < l.length := by
  rcases Nat.lt_or_ge i l.length with h1 | h1
  · exact h1
  · unfold tk at h; rw [List.getElem?_eq_none h1] at h; exact absurd rfl h
theorem isT_in {l : List TokL} {i : Nat} {s : ByteArray} (h : isT l i s = true) : i < l.length := by
  refine tk_kind_in ?_
  unfold isT at h
  simp only [Bool.and_eq_true, Bool.or_eq_true, beq_iff_eq] at h
  omega

/-! ### the document's way -/
inductive Res where
  | ok (e : Ex) (i : Nat)
  | bad (code : Nat) (pos : Pos3)
def wrongAt (l : List TokL) (i : Nat) : Res := .bad (if (tk l i).kind = 6 then 9 else 10) (tk l i).pos
def nxt (o : Option Res) (K : Ex → Nat → Option Res) : Option Res := match o with | none => none | some (.bad c p) => some (.bad c p) | some (.ok e j) => K e j
inductive Tg where
  | lev (k : Nat)
  | levL (k : Nat) (e : Ex)
  | fac
  | named
  | callL (name : ByteArray) (es : List Ex)
/-- The operation whose sign of a level stands at a place, and how many tokens it is; 0: none. -/
def signAt (k : Nat) (l : List TokL) (i : Nat) : Nat × Nat :=
  if k = 1 then
    if isT l i gEq then (19, 1) else if isT l i gNe then (20, 1) else if isT l i gLe then (22, 1) else if isT l i gGe then (24, 1) else if isT l i gLt then (21, 1) else if isT l i gGt then (23, 1) else (0, 0)
  else if k = 2 then
    if isT l i gPlus then (15, 1) else if isT l i gMinus then (16, 1) else if isT l i wOr && isT l (i + 1) wElse then (18, 2) else if isT l i wOr then (17, 1) else (0, 0)
  else
    if isT l i gStar then (10, 1) else if isT l i wDiv then (11, 1) else if isT l i wMod then (12, 1) else if isT l i wAnd && isT l (i + 1) wThen then (14, 2) else if isT l i wAnd then (13, 1) else (0, 0)
def rm (l : List TokL) : Nat → Tg → Nat → Option Res
  | 0, _, _ => none
  | f + 1, .lev k, i =>
    if k = 4 then rm l f .fac i
    else nxt (rm l f (.lev (k + 1)) (if k == 2 && isT l i gMinus then i + 1 else i)) fun e j => rm l f (.levL k (if k == 2 && isT l i gMinus then exOne 8 e else e)) j
  | f + 1, .levL k e, i =>
    if (signAt k l i).1 = 0 then some (.ok e i)
    else nxt (rm l f (.lev (k + 1)) (i + (signAt k l i).2)) fun h j => if k = 1 then some (.ok (exTwo (signAt k l i).1 e h) j) else rm l f (.levL k (exTwo (signAt k l i).1 e h)) j
  | f + 1, .fac, i =>
    if isT l i wNot then nxt (rm l f .fac (i + 1)) fun e j => some (.ok (exOne 9 e) j)
    else if isT l i gOpen then nxt (rm l f (.lev 1) (i + 1)) fun e j => if isT l j gClose then some (.ok e (j + 1)) else some (wrongAt l j)
    else if isT l i wTrue then some (.ok (.mk 2 1 eS eS []) (i + 1))
    else if isT l i wFalse then some (.ok (.mk 2 0 eS eS []) (i + 1))
    else if (tk l i).kind = 3 then some (.ok (.mk 1 (tk l i).n eS eS []) (i + 1))
    else if (tk l i).kind = 4 then some (.ok (.mk 3 (tk l i).n eS eS []) (i + 1))
    else rm l f .named i
  | f + 1, .named, i =>
    if (tk l i).kind ≠ 1 then some (wrongAt l i)
    else if isT l (i + 1) gOpen then
      if isT l (i + 2) gClose then some (.ok (.mk 7 0 (tk l i).text eS []) (i + 3)) else rm l f (.callL (tk l i).text []) (i + 2)
    else if isT l (i + 1) gOpenB then nxt (rm l f (.lev 1) (i + 2)) fun e j => if isT l j gCloseB then some (.ok (.mk 5 0 (tk l i).text eS [e]) (j + 1)) else some (wrongAt l j)
    else if isT l (i + 1) gDot then
      if (tk l (i + 2)).kind ≠ 1 then some (wrongAt l (i + 2)) else some (.ok (.mk 6 0 (tk l i).text (tk l (i + 2)).text []) (i + 3))
    else some (.ok (exVar (tk l i).text) (i + 1))
  | f + 1, .callL name es, i =>
    nxt (rm l f (.lev 1) i) fun e j =>
      if isT l j gClose then some (.ok (.mk 7 0 name eS (es ++ [e])) (j + 1))
      else if isT l j gComma then rm l f (.callL name (es ++ [e])) (j + 1)
      else some (wrongAt l j)

def cost : Tg → Nat
  | .lev k => 7 - k
  | .levL _ _ => 1
  | .fac => 2
  | .named => 1
  | .callL _ _ => 7
def least : Tg → Nat
  | .levL _ _ => 0
  | _ => 1
def levOk : Tg → Prop
  | .lev k => 1 ≤ k ∧ k ≤ 4
  | .levL k _ => 1 ≤ k ∧ k ≤ 3
  | _ => True
theorem signAt_len (k : Nat) (l : List TokL) (i : Nat) (h : (signAt k l i).1 ≠ 0) : 1 ≤ (signAt k l i).2 ∧ i + (signAt k l i).2 ≤ l.length := by
  have key : ∀ s, isT l i s = true → 1 ≤ 1 ∧ i + 1 ≤ l.length := fun s hs => ⟨Nat.le_refl _, isT_in hs⟩
  have key2 : ∀ s s', (isT l i s && isT l (i + 1) s') = true → 1 ≤ 2 ∧ i + 2 ≤ l.length := fun s s' hs => ⟨by decide, by rw [Bool.and_eq_true] at hs; exact isT_in hs.2⟩
  have pick : ∀ (c : Bool) (a b : Nat × Nat) (P : Nat × Nat → Prop), (c = true → P a) → (c = false → P b) → P (if c = true then a else b) := by
    intro c a b P h1 h2; cases c <;> simp_all
  have Q : ∀ x : Nat × Nat, (1 ≤ x.2 ∧ i + x.2 ≤ l.length) → (x.1 ≠ 0 → 1 ≤ x.2 ∧ i + x.2 ≤ l.length) := fun _ h _ => h
  revert h
  unfold signAt
  split
  · refine pick _ _ _ (fun x => x.1 ≠ 0 → 1 ≤ x.2 ∧ i + x.2 ≤ l.length) (fun h _ => key _ h) fun _ => ?_
    refine pick _ _ _ (fun x => x.1 ≠ 0 → 1 ≤ x.2 ∧ i + x.2 ≤ l.length) (fun h _ => key _ h) fun _ => ?_
    refine pick _ _ _ (fun x => x.1 ≠ 0 → 1 ≤ x.2 ∧ i + x.2 ≤ l.length) (fun h _ => key _ h) fun _ => ?_
    refine pick _ _ _ (fun x => x.1 ≠ 0 → 1 ≤ x.2 ∧ i + x.2 ≤ l.length) (fun h _ => key _ h) fun _ => ?_
    refine pick _ _ _ (fun x => x.1 ≠ 0 → 1 ≤ x.2 ∧ i + x.2 ≤ l.length) (fun h _ => key _ h) fun _ => ?_
    exact pick _ _ _ (fun x => x.1 ≠ 0 → 1 ≤ x.2 ∧ i + x.2 ≤ l.length) (fun h _ => key _ h) fun _ h => absurd rfl h
  · split
    · refine pick _ _ _ (fun x => x.1 ≠ 0 → 1 ≤ x.2 ∧ i + x.2 ≤ l.length) (fun h _ => key _ h) fun _ => ?_
      refine pick _ _ _ (fun x => x.1 ≠ 0 → 1 ≤ x.2 ∧ i + x.2 ≤ l.length) (fun h _ => key _ h) fun _ => ?_
      refine pick _ _ _ (fun x => x.1 ≠ 0 → 1 ≤ x.2 ∧ i + x.2 ≤ l.length) (fun h _ => key2 _ _ h) fun _ => ?_
      exact pick _ _ _ (fun x => x.1 ≠ 0 → 1 ≤ x.2 ∧ i + x.2 ≤ l.length) (fun h _ => key _ h) fun _ h => absurd rfl h
    · refine pick _ _ _ (fun x => x.1 ≠ 0 → 1 ≤ x.2 ∧ i + x.2 ≤ l.length) (fun h _ => key _ h) fun _ => ?_
      refine pick _ _ _ (fun x => x.1 ≠ 0 → 1 ≤ x.2 ∧ i + x.2 ≤ l.length) (fun h _ => key _ h) fun _ => ?_
      refine pick _ _ _ (fun x => x.1 ≠ 0 → 1 ≤ x.2 ∧ i + x.2 ≤ l.length) (fun h _ => key _ h) fun _ => ?_
      refine pick _ _ _ (fun x => x.1 ≠ 0 → 1 ≤ x.2 ∧ i + x.2 ≤ l.length) (fun h _ => key2 _ _ h) fun _ => ?_
      exact pick _ _ _ (fun x => x.1 ≠ 0 → 1 ≤ x.2 ∧ i + x.2 ≤ l.length) (fun h _ => key _ h) fun _ h => absurd rfl h
/-- With fuel enough there is an answer; what was read lies ahead. -/
theorem rm_some (l : List TokL) : ∀ (f : Nat) (g : Tg) (i : Nat), levOk g → i ≤ l.length → 8 * (l.length - i) + cost g ≤ f →
    ∃ r, rm l f g i = some r ∧ ∀ e j, r = .ok e j → i + least g ≤ j ∧ j ≤ l.length := by
  intro f
  induction f with
  | zero => intro g i hg hi hf; cases g <;> simp [cost, levOk] at * <;> omega
  | succ f ih =>
    intro g i hg hi hf
    have bad : ∀ c p, ∃ r, some (Res.bad c p) = some r ∧ ∀ e j, r = .ok e j → i + least g ≤ j ∧ j ≤ l.length := fun c p => ⟨_, rfl, fun _ _ h => by cases h⟩
    cases g with
    | lev k =>
      simp only [levOk, cost] at hg hf
      unfold rm
      by_cases hk : k = 4
      · rw [if_pos hk]
        exact ih .fac i trivial hi (by simp only [cost]; omega)
      · rw [if_neg hk]
        have hm : ∀ j, j = (if (k == 2 && isT l i gMinus) = true then i + 1 else i) → j ≤ l.length ∧ i ≤ j := by
          intro j hj
          by_cases h : (k == 2 && isT l i gMinus) = true
          · rw [if_pos h] at hj
            have := isT_in (by simpa using (Bool.and_eq_true _ _ ▸ h).2 : isT l i gMinus = true)
            omega
          · rw [if_neg h] at hj; omega
        obtain ⟨j, hj⟩ : ∃ j, j = (if (k == 2 && isT l i gMinus) = true then i + 1 else i) := ⟨_, rfl⟩
        obtain ⟨hj1, hj2⟩ := hm j hj
        rw [← hj]
        obtain ⟨r, h1, h2⟩ := ih (.lev (k + 1)) j ⟨by omega, by omega⟩ hj1 (by simp only [cost]; omega)
        rw [h1]
        cases r with
        | bad c p => exact bad c p
        | ok e j' =>
          obtain ⟨h3, h4⟩ := h2 e j' rfl
          simp only [least] at h3
          obtain ⟨r', h5, h6⟩ := ih (.levL k (if (k == 2 && isT l i gMinus) = true then exOne 8 e else e)) j' ⟨by omega, by omega⟩ h4 (by simp only [cost]; omega)
          exact ⟨r', h5, fun e' j'' he => by obtain ⟨a, b⟩ := h6 e' j'' he; simp only [least] at a ⊢; omega⟩
    | levL k e =>
      simp only [levOk, cost] at hg hf
      unfold rm
      by_cases h0 : (signAt k l i).1 = 0
      · rw [if_pos h0]; exact ⟨_, rfl, fun e' j he => by cases he; simp only [least]; omega⟩
      · rw [if_neg h0]
        obtain ⟨s1, s2⟩ := signAt_len k l i h0
        obtain ⟨r, h1, h2⟩ := ih (.lev (k + 1)) (i + (signAt k l i).2) ⟨by omega, by omega⟩ s2 (by simp only [cost]; omega)
        rw [h1]
        cases r with
        | bad c p => exact bad c p
        | ok h j =>
          obtain ⟨h3, h4⟩ := h2 h j rfl
          simp only [least] at h3
          show ∃ r, (if k = 1 then _ else _) = some r ∧ _
          by_cases hk : k = 1
          · rw [if_pos hk]; exact ⟨_, rfl, fun e' j he => by cases he; simp only [least]; omega⟩
          · rw [if_neg hk]
            obtain ⟨r', h5, h6⟩ := ih (.levL k (exTwo (signAt k l i).1 e h)) j ⟨by omega, by omega⟩ h4 (by simp only [cost]; omega)
            exact ⟨r', h5, fun e' j'' he => by obtain ⟨a, b⟩ := h6 e' j'' he; simp only [least] at a ⊢; omega⟩
    | fac =>
      simp only [cost] at hf
      have one : ∀ e, i < l.length → ∃ r, some (Res.ok e (i + 1)) = some r ∧ ∀ e j, r = .ok e j → i + least .fac ≤ j ∧ j ≤ l.length := fun e h => ⟨_, rfl, fun _ _ he => by cases he; simp only [least]; omega⟩
      unfold rm
      by_cases h1 : isT l i wNot = true
      · rw [if_pos h1]
        have hi' := isT_in h1
        obtain ⟨r, h2, h3⟩ := ih .fac (i + 1) trivial hi' (by simp only [cost]; omega)
        rw [h2]
        cases r with
        | bad c p => exact bad c p
        | ok e j => exact ⟨_, rfl, fun e' j' he => by cases he; obtain ⟨a, b⟩ := h3 e j rfl; simp only [least] at a ⊢; omega⟩
      rw [if_neg h1]
      by_cases h1 : isT l i gOpen = true
      · rw [if_pos h1]
        have hi' := isT_in h1
        obtain ⟨r, h2, h3⟩ := ih (.lev 1) (i + 1) ⟨by omega, by omega⟩ hi' (by simp only [cost]; omega)
        rw [h2]
        cases r with
        | bad c p => exact bad c p
        | ok e j =>
          obtain ⟨a, b⟩ := h3 e j rfl
          show ∃ r, (if isT l j gClose = true then _ else _) = some r ∧ _
          by_cases h4 : isT l j gClose = true
          · rw [if_pos h4]
            have := isT_in h4
            exact ⟨_, rfl, fun e' j' he => by cases he; simp only [least] at a ⊢; omega⟩
          · rw [if_neg h4]; exact bad _ _
      rw [if_neg h1]
      by_cases h1 : isT l i wTrue = true
      · rw [if_pos h1]; exact one _ (isT_in h1)
      rw [if_neg h1]
      by_cases h1 : isT l i wFalse = true
      · rw [if_pos h1]; exact one _ (isT_in h1)
      rw [if_neg h1]
      by_cases h1 : (tk l i).kind = 3
      · rw [if_pos h1]; exact one _ (tk_kind_in (by omega))
      rw [if_neg h1]
      by_cases h1 : (tk l i).kind = 4
      · rw [if_pos h1]; exact one _ (tk_kind_in (by omega))
      rw [if_neg h1]
      exact ih .named i trivial hi (by simp only [cost]; omega)
    | named =>
      simp only [cost] at hf
      unfold rm
      by_cases h1 : (tk l i).kind ≠ 1
      · rw [if_pos h1]; exact bad _ _
      rw [if_neg h1]
      have hi' : i < l.length := tk_kind_in (by omega)
      by_cases h2 : isT l (i + 1) gOpen = true
      · rw [if_pos h2]
        have h3 := isT_in h2
        by_cases h4 : isT l (i + 2) gClose = true
        · rw [if_pos h4]
          have := isT_in h4
          exact ⟨_, rfl, fun e' j' he => by cases he; simp only [least]; omega⟩
        · rw [if_neg h4]
          obtain ⟨r, h5, h6⟩ := ih (.callL (tk l i).text []) (i + 2) trivial h3 (by simp only [cost]; omega)
          exact ⟨r, h5, fun e' j' he => by obtain ⟨a, b⟩ := h6 e' j' he; simp only [least] at a ⊢; omega⟩
      rw [if_neg h2]
      by_cases h2 : isT l (i + 1) gOpenB = true
      · rw [if_pos h2]
        have h3 := isT_in h2
        obtain ⟨r, h4, h5⟩ := ih (.lev 1) (i + 2) ⟨by omega, by omega⟩ h3 (by simp only [cost]; omega)
        rw [h4]
        cases r with
        | bad c p => exact bad c p
        | ok e j =>
          obtain ⟨a, b⟩ := h5 e j rfl
          show ∃ r, (if isT l j gCloseB = true then _ else _) = some r ∧ _
          by_cases h6 : isT l j gCloseB = true
          · rw [if_pos h6]
            have := isT_in h6
            exact ⟨_, rfl, fun e' j' he => by cases he; simp only [least] at a ⊢; omega⟩
          · rw [if_neg h6]; exact bad _ _
      rw [if_neg h2]
      by_cases h2 : isT l (i + 1) gDot = true
      · rw [if_pos h2]
        by_cases h3 : (tk l (i + 2)).kind ≠ 1
        · rw [if_pos h3]; exact bad _ _
        · rw [if_neg h3]
          have : i + 2 < l.length := tk_kind_in (by omega)
          exact ⟨_, rfl, fun e' j' he => by cases he; simp only [least]; omega⟩
      rw [if_neg h2]
      exact ⟨_, rfl, fun e' j' he => by cases he; simp only [least]; omega⟩
    | callL name es =>
      simp only [cost] at hf
      unfold rm
      obtain ⟨r, h1, h2⟩ := ih (.lev 1) i ⟨by omega, by omega⟩ hi (by simp only [cost]; omega)
      rw [h1]
      cases r with
      | bad c p => exact bad c p
      | ok e j =>
        obtain ⟨a, b⟩ := h2 e j rfl
        simp only [least] at a
        show ∃ r, (if isT l j gClose = true then _ else _) = some r ∧ _
        by_cases h3 : isT l j gClose = true
        · rw [if_pos h3]
          have := isT_in h3
          exact ⟨_, rfl, fun e' j' he => by cases he; simp only [least]; omega⟩
        rw [if_neg h3]
        by_cases h4 : isT l j gComma = true
        · rw [if_pos h4]
          have h5 := isT_in h4
          obtain ⟨r, h6, h7⟩ := ih (.callL name (es ++ [e])) (j + 1) trivial h5 (by simp only [cost]; omega)
          exact ⟨r, h6, fun e' j' he => by obtain ⟨a', b'⟩ := h7 e' j' he; simp only [least] at a' ⊢; omega⟩
        · rw [if_neg h4]; exact bad _ _
def bigF (l : List TokL) : Nat := 8 * l.length + 8
/-- The expression at a place. -/
def levAt (l : List TokL) (i : Nat) : Res := (rm l (bigF l) (.lev 1) i).getD (.bad 0 (0, 0, 0))
theorem levAt_rm (l : List TokL) (i : Nat) (hi : i ≤ l.length) : rm l (bigF l) (.lev 1) i = some (levAt l i) := by
  obtain ⟨r, h1, _⟩ := rm_some l (bigF l) (.lev 1) i ⟨by omega, by omega⟩ hi (by unfold bigF; simp only [cost]; omega)
  unfold levAt; rw [h1]; rfl
theorem levAt_in (l : List TokL) (i : Nat) (hi : i ≤ l.length) (e : Ex) (j : Nat) (h : levAt l i = .ok e j) : i < j ∧ j ≤ l.length := by
  obtain ⟨r, h1, h2⟩ := rm_some l (bigF l) (.lev 1) i ⟨by omega, by omega⟩ hi (by unfold bigF; simp only [cost]; omega)
  have := levAt_rm l i hi
  rw [h1] at this
  injection this with this
  rw [h] at this
  obtain ⟨a, b⟩ := h2 e j this
  simp only [least] at a; omega
theorem nxt_mono {o o' : Option Res} {K K' : Ex → Nat → Option Res} {r : Res} (h : nxt o K = some r) (ho : ∀ r, o = some r → o' = some r) (hK : ∀ e j, K e j = some r → K' e j = some r) : nxt o' K' = some r := by
  cases o with
  | none => cases h
  | some q =>
    rw [ho q rfl]
    cases q with
    | bad c p => exact h
    | ok e j => exact hK e j h
theorem nxt_ok {o : Option Res} {K : Ex → Nat → Option Res} {e : Ex} {j : Nat} (h : nxt o K = some (.ok e j)) : ∃ e' j', o = some (.ok e' j') ∧ K e' j' = some (.ok e j) := by
  cases o with
  | none => cases h
  | some q =>
    cases q with
    | bad c p => cases h
    | ok e' j' => exact ⟨e', j', rfl, h⟩
/-- More fuel, the same answer. -/
theorem rm_mono (l : List TokL) : ∀ (f : Nat) (g : Tg) (i : Nat) (r : Res), rm l f g i = some r → rm l (f + 1) g i = some r := by
  intro f
  induction f with
  | zero => intro g i r h; cases h
  | succ f ih =>
    intro g i r h
    cases g with
    | lev k =>
      rw [rm] at h ⊢
      split at h
      · rename_i hk; rw [if_pos hk]; exact ih _ _ _ h
      · rename_i hk; rw [if_neg hk]
        exact nxt_mono h (fun r h => ih _ _ _ h) fun e j h => ih _ _ _ h
    | levL k e =>
      rw [rm] at h ⊢
      split at h
      · rename_i hk; rw [if_pos hk]; exact h
      · rename_i hk; rw [if_neg hk]
        refine nxt_mono h (fun r h => ih _ _ _ h) fun e j h => ?_
        split at h
        · rename_i hk; rw [if_pos hk]; exact h
        · rename_i hk; rw [if_neg hk]; exact ih _ _ _ h
    | fac =>
      rw [rm] at h ⊢
      repeat' split at h
      all_goals simp only [*, if_true, if_false, ↓reduceIte]
      · exact nxt_mono h (fun r h => ih _ _ _ h) fun e j h => h
      · exact nxt_mono h (fun r h => ih _ _ _ h) fun e j h => h
      all_goals first | exact h | exact ih _ _ _ h | simp_all
    | named =>
      rw [rm] at h ⊢
      repeat' split at h
      all_goals simp only [*, if_true, if_false, ↓reduceIte]
      all_goals first | exact h | exact ih _ _ _ h | exact nxt_mono h (fun r h => ih _ _ _ h) fun e j h => h | simp_all
    | callL name es =>
      rw [rm] at h ⊢
      refine nxt_mono h (fun r h => ih _ _ _ h) fun e j h => ?_
      repeat' split at h
      all_goals simp only [*, if_true, if_false, ↓reduceIte]
      all_goals first | exact h | exact ih _ _ _ h | simp_all
theorem rm_le (l : List TokL) (f f' : Nat) (hf : f ≤ f') (g : Tg) (i : Nat) (r : Res) (h : rm l f g i = some r) : rm l f' g i = some r := by
  obtain ⟨d, rfl⟩ := Nat.exists_eq_add_of_le hf
  induction d with
  | zero => exact h
  | succ d ih => exact rm_mono l _ _ _ _ (ih (by omega))
theorem rm_det (l : List TokL) (f f' : Nat) (g : Tg) (i : Nat) (r r' : Res) (h : rm l f g i = some r) (h' : rm l f' g i = some r') : r = r' := by
  have h1 := rm_le l f (f + f') (by omega) g i r h
  have h2 := rm_le l f' (f + f') (by omega) g i r' h'
  rw [h1] at h2; injection h2
end Go.Proofs.YtgmmjhelcpgakaaGreatDoor
/- Expressions of Pas as the program reads them: its reader's state, stopped or not, in plain words; it agrees with the document's way. -/
namespace Go.Proofs.YtgmmjhelcpgakaaGreatDoor
open Go.RowKit
set_option linter.unusedVariables false
set_option linter.unusedSimpArgs false

/-- The reader's state: the place, the code of what is wrong (0: nothing), where. -/
structure RS where
  at_ : Nat
  code : Nat
  pos : Pos3
def isP (l : List TokL) (st : RS) (ts : List ByteArray) : Bool := st.code == 0 && (((tk l st.at_).kind == 5 || (tk l st.at_).kind == 2) && ts.any fun s => decide ((tk l st.at_).text = s))
def RS.up (st : RS) : RS := ⟨st.at_ + 1, st.code, st.pos⟩
def takeT (l : List TokL) (st : RS) (ts : List ByteArray) : ByteArray := if isP l st ts then (tk l st.at_).text else eS
def takeS (l : List TokL) (st : RS) (ts : List ByteArray) : RS := if isP l st ts then st.up else st
def failP (st : RS) (code : Nat) (pos : Pos3) : RS := if st.code = 0 then ⟨st.at_, code, pos⟩ else st
def wrongP (l : List TokL) (st : RS) : RS := failP st (if (tk l st.at_).kind = 6 then 9 else 10) (tk l st.at_).pos
def isOf (l : List TokL) (st : RS) (k : Nat) : Bool := st.code == 0 && (tk l st.at_).kind == k
def ofT (l : List TokL) (st : RS) (k : Nat) : TokL := if isOf l st k then tk l st.at_ else zTok
def ofS (l : List TokL) (st : RS) (k : Nat) : RS := if isOf l st k then st.up else st
def nameT (l : List TokL) (st : RS) : ByteArray := (ofT l st 1).text
def nameS (l : List TokL) (st : RS) : RS := if isOf l st 1 then st.up else wrongP l st
def mustS (l : List TokL) (st : RS) (s : ByteArray) : RS := if isP l st [s] then st.up else wrongP l st
abbrev rels : List ByteArray := [gEq, gNe, gLt, gLe, gGt, gGe]
abbrev adds : List ByteArray := [gPlus, gMinus, wOr]
abbrev muls : List ByteArray := [gStar, wDiv, wMod, wAnd]
def relOp (s : ByteArray) : Int := if s = gEq then 19 else if s = gNe then 20 else if s = gLt then 21 else if s = gLe then 22 else if s = gGt then 23 else 24
inductive Pg where
  | expr
  | simple
  | simpleL (e : Ex)
  | term
  | termL (e : Ex)
  | factor
  | named
  | operands
  | operandsL (es : List Ex)
def carry (es : List Ex) : Ex := .mk 0 0 eS eS es
def thn (o : Option (Ex × RS)) (K : Ex → RS → Option (Ex × RS)) : Option (Ex × RS) := match o with | none => none | some (e, st) => K e st
def addS (l : List TokL) (st : RS) (s : ByteArray) : RS := if s = wOr then takeS l st [wElse] else st
def addOp (l : List TokL) (st : RS) (s : ByteArray) : Int := if s = gMinus then 16 else if s = wOr then (if isP l st [wElse] then 18 else 17) else 15
def mulS (l : List TokL) (st : RS) (s : ByteArray) : RS := if s = wAnd then takeS l st [wThen] else st
def mulOp (l : List TokL) (st : RS) (s : ByteArray) : Int := if s = wDiv then 11 else if s = wMod then 12 else if s = wAnd then (if isP l st [wThen] then 14 else 13) else 10
def pm (l : List TokL) : Nat → Pg → RS → Option (Ex × RS)
  | 0, _, _ => none
  | f + 1, .expr, st => thn (pm l f .simple st) fun e st1 =>
      if isP l st1 rels then thn (pm l f .simple (takeS l st1 rels)) fun e2 st2 => some (exTwo (relOp (takeT l st1 rels)) e e2, st2)
      else some (e, st1)
  | f + 1, .simple, st => thn (pm l f .term (takeS l st [gMinus])) fun e st1 => pm l f (.simpleL (if isP l st [gMinus] then exOne 8 e else e)) st1
  | f + 1, .simpleL e, st =>
      if isP l st adds then
        thn (pm l f .term (addS l (takeS l st adds) (takeT l st adds))) fun e2 st2 => pm l f (.simpleL (exTwo (addOp l (takeS l st adds) (takeT l st adds)) e e2)) st2
      else some (e, st)
  | f + 1, .term, st => thn (pm l f .factor st) fun e st1 => pm l f (.termL e) st1
  | f + 1, .termL e, st =>
      if isP l st muls then
        thn (pm l f .factor (mulS l (takeS l st muls) (takeT l st muls))) fun e2 st2 => pm l f (.termL (exTwo (mulOp l (takeS l st muls) (takeT l st muls)) e e2)) st2
      else some (e, st)
  | f + 1, .factor, st =>
      if isP l st [wNot] then thn (pm l f .factor (takeS l st [wNot])) fun e st1 => some (exOne 9 e, st1)
      else if isP l st [gOpen] then thn (pm l f .expr (takeS l st [gOpen])) fun e st1 => some (e, mustS l st1 gClose)
      else if isP l st [wTrue, wFalse] then some (.mk 2 (if takeT l st [wTrue, wFalse] = wTrue then 1 else 0) eS eS [], takeS l st [wTrue, wFalse])
      else if isOf l st 3 then some (.mk 1 (tk l st.at_).n eS eS [], st.up)
      else if isOf l st 4 then some (.mk 3 (tk l st.at_).n eS eS [], st.up)
      else pm l f .named st
  | f + 1, .named, st =>
      if isP l (nameS l st) [gOpen, gOpenB, gDot] then
        if takeT l (nameS l st) [gOpen, gOpenB, gDot] = gOpen then thn (pm l f .operands (takeS l (nameS l st) [gOpen, gOpenB, gDot])) fun e st1 => some (.mk 7 0 (nameT l st) eS e.list, st1)
        else if takeT l (nameS l st) [gOpen, gOpenB, gDot] = gOpenB then thn (pm l f .expr (takeS l (nameS l st) [gOpen, gOpenB, gDot])) fun e st1 => some (.mk 5 0 (nameT l st) eS [e], mustS l st1 gCloseB)
        else some (.mk 6 0 (nameT l st) (nameT l (takeS l (nameS l st) [gOpen, gOpenB, gDot])) [], nameS l (takeS l (nameS l st) [gOpen, gOpenB, gDot]))
      else some (exVar (nameT l st), nameS l st)
  | f + 1, .operands, st =>
      if isP l st [gClose] then some (carry [], takeS l st [gClose])
      else thn (pm l f .expr st) fun e st1 => pm l f (.operandsL [e]) st1
  | f + 1, .operandsL es, st =>
      if isP l st [gComma] then thn (pm l f .expr (takeS l st [gComma])) fun e st1 => pm l f (.operandsL (es ++ [e])) st1
      else some (carry es, mustS l st gClose)
theorem thn_mono {o o' : Option (Ex × RS)} {K K' : Ex → RS → Option (Ex × RS)} {r : Ex × RS} (h : thn o K = some r) (ho : ∀ r, o = some r → o' = some r) (hK : ∀ e j, K e j = some r → K' e j = some r) : thn o' K' = some r := by
  cases o with
  | none => cases h
  | some q =>
    rw [ho q rfl]
    obtain ⟨e, st⟩ := q
    exact hK e st h
theorem pm_mono (l : List TokL) : ∀ (f : Nat) (g : Pg) (st : RS) (r : Ex × RS), pm l f g st = some r → pm l (f + 1) g st = some r := by
  intro f
  induction f with
  | zero => intro g i r h; cases h
  | succ f ih =>
    intro g i r h
    cases g with
    | expr =>
      rw [pm] at h ⊢
      refine thn_mono h (fun r h => ih _ _ _ h) fun e j h => ?_
      split at h
      · rename_i hk; rw [if_pos hk]; exact thn_mono h (fun r h => ih _ _ _ h) fun e j h => h
      · rename_i hk; rw [if_neg hk]; exact h
    | simple => rw [pm] at h ⊢; exact thn_mono h (fun r h => ih _ _ _ h) fun e j h => ih _ _ _ h
    | simpleL e =>
      rw [pm] at h ⊢
      split at h
      · rename_i hk; rw [if_pos hk]; exact thn_mono h (fun r h => ih _ _ _ h) fun e j h => ih _ _ _ h
      · rename_i hk; rw [if_neg hk]; exact h
    | term => rw [pm] at h ⊢; exact thn_mono h (fun r h => ih _ _ _ h) fun e j h => ih _ _ _ h
    | termL e =>
      rw [pm] at h ⊢
      split at h
      · rename_i hk; rw [if_pos hk]; exact thn_mono h (fun r h => ih _ _ _ h) fun e j h => ih _ _ _ h
      · rename_i hk; rw [if_neg hk]; exact h
    | factor =>
      rw [pm] at h ⊢
      by_cases h1 : isP l i [wNot] = true
      · rw [if_pos h1] at h ⊢; exact thn_mono h (fun r h => ih _ _ _ h) fun e j h => h
      rw [if_neg h1] at h ⊢
      by_cases h1 : isP l i [gOpen] = true
      · rw [if_pos h1] at h ⊢; exact thn_mono h (fun r h => ih _ _ _ h) fun e j h => h
      rw [if_neg h1] at h ⊢
      by_cases h1 : isP l i [wTrue, wFalse] = true
      · rw [if_pos h1] at h ⊢; exact h
      rw [if_neg h1] at h ⊢
      by_cases h1 : isOf l i 3 = true
      · rw [if_pos h1] at h ⊢; exact h
      rw [if_neg h1] at h ⊢
      by_cases h1 : isOf l i 4 = true
      · rw [if_pos h1] at h ⊢; exact h
      rw [if_neg h1] at h ⊢
      exact ih _ _ _ h
    | named =>
      rw [pm] at h ⊢
      by_cases h1 : isP l (nameS l i) [gOpen, gOpenB, gDot] = true
      · rw [if_pos h1] at h ⊢
        split at h
        · rename_i hk; rw [if_pos hk]; exact thn_mono h (fun r h => ih _ _ _ h) fun e j h => h
        · rename_i hk; rw [if_neg hk]
          split at h
          · rename_i hk; rw [if_pos hk]; exact thn_mono h (fun r h => ih _ _ _ h) fun e j h => h
          · rename_i hk; rw [if_neg hk]; exact h
      rw [if_neg h1] at h ⊢
      exact h
    | operands =>
      rw [pm] at h ⊢
      split at h
      · rename_i hk; rw [if_pos hk]; exact h
      · rename_i hk; rw [if_neg hk]; exact thn_mono h (fun r h => ih _ _ _ h) fun e j h => ih _ _ _ h
    | operandsL es =>
      rw [pm] at h ⊢
      split at h
      · rename_i hk; rw [if_pos hk]; exact thn_mono h (fun r h => ih _ _ _ h) fun e j h => ih _ _ _ h
      · rename_i hk; rw [if_neg hk]; exact h
theorem pm_le (l : List TokL) {f f' : Nat} (hf : f ≤ f') {g : Pg} {st : RS} {r : Ex × RS} (h : pm l f g st = some r) : pm l f' g st = some r := by
  obtain ⟨d, rfl⟩ := Nat.exists_eq_add_of_le hf
  induction d with
  | zero => exact h
  | succ d ih => exact pm_mono l _ _ _ _ (ih (by omega))
/-! ### a reader that has stopped -/
section
variable (l : List TokL) (st : RS) (h : st.code ≠ 0)
include h
theorem stop_isP (ts : List ByteArray) : isP l st ts = false := by unfold isP; simp [h]
theorem stop_takeS (ts : List ByteArray) : takeS l st ts = st := by unfold takeS; rw [stop_isP l st h]; rfl
theorem stop_isOf (k : Nat) : isOf l st k = false := by unfold isOf; simp [h]
theorem stop_wrong : wrongP l st = st := by unfold wrongP failP; rw [if_neg h]
theorem stop_must (s : ByteArray) : mustS l st s = st := by unfold mustS; rw [stop_isP l st h]; exact stop_wrong l st h
theorem stop_nameS : nameS l st = st := by unfold nameS; rw [stop_isOf l st h]; exact stop_wrong l st h
theorem stop_nameT : nameT l st = eS := by unfold nameT ofT; rw [stop_isOf l st h]; rfl
theorem stop_named (f : Nat) : pm l (f + 1) .named st = some (exVar eS, st) := by
  rw [pm, stop_nameS l st h, stop_isP l st h, stop_nameT l st h]; rfl
theorem stop_factor (f : Nat) : pm l (f + 2) .factor st = some (exVar eS, st) := by
  rw [pm, stop_isP l st h, stop_isP l st h, stop_isP l st h, stop_isOf l st h, stop_isOf l st h]; exact stop_named l st h f
theorem stop_termL (f : Nat) (e : Ex) : pm l (f + 1) (.termL e) st = some (e, st) := by
  rw [pm, stop_isP l st h]; rfl
theorem stop_term (f : Nat) : pm l (f + 3) .term st = some (exVar eS, st) := by
  rw [pm, stop_factor l st h f]; exact stop_termL l st h (f + 1) _
theorem stop_simpleL (f : Nat) (e : Ex) : pm l (f + 1) (.simpleL e) st = some (e, st) := by
  rw [pm, stop_isP l st h]; rfl
theorem stop_simple (f : Nat) : pm l (f + 4) .simple st = some (exVar eS, st) := by
  rw [pm, stop_takeS l st h, stop_term l st h f, stop_isP l st h]; exact stop_simpleL l st h (f + 2) _
theorem stop_expr (f : Nat) : pm l (f + 5) .expr st = some (exVar eS, st) := by
  rw [pm, stop_simple l st h f]; show (if isP l st rels = true then _ else _) = _; rw [stop_isP l st h]; rfl
theorem stop_operandsL (f : Nat) (es : List Ex) : pm l (f + 1) (.operandsL es) st = some (carry es, st) := by
  rw [pm, stop_isP l st h, stop_must l st h]; rfl
end
/-! ### the program's way is the document's -/
def okS (i : Nat) : RS := ⟨i, 0, (0, 0, 0)⟩
def sg (l : List TokL) (i : Nat) : Bool := (tk l i).kind == 2 || (tk l i).kind == 5
theorem isT_sg (l : List TokL) (i : Nat) (s : ByteArray) : isT l i s = (sg l i && decide ((tk l i).text = s)) := by
  rfl
theorem isP_sg (l : List TokL) (i : Nat) (ts : List ByteArray) : isP l (okS i) ts = (sg l i && ts.any fun s => decide ((tk l i).text = s)) := by
  unfold isP sg okS; simp [Bool.or_comm]
theorem isP_one (l : List TokL) (i : Nat) (s : ByteArray) : isP l (okS i) [s] = isT l i s := by
  rw [isT_sg, isP_sg]; rw [Bool.eq_iff_iff]; simp
theorem takeS_ok (l : List TokL) (i : Nat) (ts : List ByteArray) (h : isP l (okS i) ts = true) : takeS l (okS i) ts = okS (i + 1) := by unfold takeS; rw [if_pos h]; rfl
theorem takeS_no (l : List TokL) (st : RS) (ts : List ByteArray) (h : isP l st ts = false) : takeS l st ts = st := by unfold takeS; rw [h]; rfl
theorem takeT_ok (l : List TokL) (i : Nat) (ts : List ByteArray) (h : isP l (okS i) ts = true) : takeT l (okS i) ts = (tk l i).text := by unfold takeT; rw [if_pos h]; rfl
theorem sign1 (l : List TokL) (i : Nat) : ((signAt 1 l i).1 = 0 → isP l (okS i) rels = false) ∧ ((signAt 1 l i).1 ≠ 0 → isP l (okS i) rels = true ∧ (signAt 1 l i).2 = 1 ∧ relOp (tk l i).text = ((signAt 1 l i).1 : Int)) := by
  rw [isP_sg]
  unfold signAt
  rw [if_pos rfl]
  simp only [isT_sg l i]
  cases sg l i with
  | false => simp
  | true =>
    simp only [Bool.true_and]
    generalize (tk l i).text = t
    by_cases h1 : t = gEq
    · subst h1; exact ⟨fun h => by revert h; decide, fun _ => by decide⟩
    by_cases h2 : t = gNe
    · subst h2; exact ⟨fun h => by revert h; decide, fun _ => by decide⟩
    by_cases h3 : t = gLe
    · subst h3; exact ⟨fun h => by revert h; decide, fun _ => by decide⟩
    by_cases h4 : t = gGe
    · subst h4; exact ⟨fun h => by revert h; decide, fun _ => by decide⟩
    by_cases h5 : t = gLt
    · subst h5; exact ⟨fun h => by revert h; decide, fun _ => by decide⟩
    by_cases h6 : t = gGt
    · subst h6; exact ⟨fun h => by revert h; decide, fun _ => by decide⟩
    simp [h1, h2, h3, h4, h5, h6]
theorem sign2 (l : List TokL) (i : Nat) : ((signAt 2 l i).1 = 0 → isP l (okS i) adds = false) ∧ ((signAt 2 l i).1 ≠ 0 → isP l (okS i) adds = true ∧ addS l (okS (i + 1)) (tk l i).text = okS (i + (signAt 2 l i).2) ∧ addOp l (okS (i + 1)) (tk l i).text = ((signAt 2 l i).1 : Int)) := by
  rw [isP_sg]
  unfold signAt addS addOp takeS
  rw [isP_one]
  rw [if_neg (by decide), if_pos rfl]
  simp only [isT_sg l i]
  cases sg l i with
  | false => simp
  | true =>
    simp only [Bool.true_and]
    generalize (tk l i).text = t
    generalize isT l (i + 1) wElse = b
    by_cases h1 : t = gPlus
    · subst h1; cases b <;> exact ⟨fun h => absurd h (by decide), fun _ => ⟨by decide, rfl, rfl⟩⟩
    by_cases h2 : t = gMinus
    · subst h2; cases b <;> exact ⟨fun h => absurd h (by decide), fun _ => ⟨by decide, rfl, rfl⟩⟩
    by_cases h3 : t = wOr
    · subst h3; cases b <;> exact ⟨fun h => absurd h (by decide), fun _ => ⟨by decide, rfl, rfl⟩⟩
    simp [h1, h2, h3]
theorem sign3 (l : List TokL) (i : Nat) : ((signAt 3 l i).1 = 0 → isP l (okS i) muls = false) ∧ ((signAt 3 l i).1 ≠ 0 → isP l (okS i) muls = true ∧ mulS l (okS (i + 1)) (tk l i).text = okS (i + (signAt 3 l i).2) ∧ mulOp l (okS (i + 1)) (tk l i).text = ((signAt 3 l i).1 : Int)) := by
  rw [isP_sg]
  unfold signAt mulS mulOp takeS
  rw [isP_one]
  rw [if_neg (by decide), if_neg (by decide)]
  simp only [isT_sg l i]
  cases sg l i with
  | false => simp
  | true =>
    simp only [Bool.true_and]
    generalize (tk l i).text = t
    generalize isT l (i + 1) wThen = b
    by_cases h1 : t = gStar
    · subst h1; cases b <;> exact ⟨fun h => absurd h (by decide), fun _ => ⟨by decide, rfl, rfl⟩⟩
    by_cases h2 : t = wDiv
    · subst h2; cases b <;> exact ⟨fun h => absurd h (by decide), fun _ => ⟨by decide, rfl, rfl⟩⟩
    by_cases h3 : t = wMod
    · subst h3; cases b <;> exact ⟨fun h => absurd h (by decide), fun _ => ⟨by decide, rfl, rfl⟩⟩
    by_cases h4 : t = wAnd
    · subst h4; cases b <;> exact ⟨fun h => absurd h (by decide), fun _ => ⟨by decide, rfl, rfl⟩⟩
    simp [h1, h2, h3, h4]
/-- With fuel enough: the answer. -/
def Ev (l : List TokL) (g : Pg) (st : RS) (e : Ex) (st' : RS) : Prop := ∃ F, ∀ F', F ≤ F' → pm l F' g st = some (e, st')
theorem Ev.mk' {l : List TokL} {g : Pg} {st : RS} {e : Ex} {st' : RS} {F : Nat} (h : pm l F g st = some (e, st')) : Ev l g st e st' := ⟨F, fun F' hf => pm_le l hf h⟩
theorem Ev.one {l : List TokL} {g g1 : Pg} {st s1 s2 : RS} {e e1 : Ex} {st' : RS} (h : Ev l g1 s1 e1 s2) (hk : ∀ F, pm l F g1 s1 = some (e1, s2) → pm l (F + 1) g st = some (e, st')) : Ev l g st e st' := by
  obtain ⟨F, h⟩ := h; exact Ev.mk' (hk F (h F (Nat.le_refl _)))
theorem Ev.two {l : List TokL} {g g1 g2 : Pg} {st s1 s2 s3 s4 : RS} {e e1 e2 : Ex} {st' : RS} (h : Ev l g1 s1 e1 s2) (h2 : Ev l g2 s3 e2 s4) (hk : ∀ F, pm l F g1 s1 = some (e1, s2) → pm l F g2 s3 = some (e2, s4) → pm l (F + 1) g st = some (e, st')) : Ev l g st e st' := by
  obtain ⟨F, h⟩ := h; obtain ⟨F2, h2⟩ := h2; exact Ev.mk' (hk (F + F2) (h _ (by omega)) (h2 _ (by omega)))
def Fits (r : Res) (e : Ex) (st : RS) : Prop := match r with
  | .ok e' j => e = e' ∧ st = okS j
  | .bad c p => c ≠ 0 ∧ st.code = c ∧ st.pos = p
def Sim (l : List TokL) (g : Pg) (i : Nat) (r : Res) : Prop := ∃ e st, Ev l g (okS i) e st ∧ Fits r e st
theorem thn_of {o : Option (Ex × RS)} {e : Ex} {st : RS} {K : Ex → RS → Option (Ex × RS)} (h : o = some (e, st)) : thn o K = K e st := by rw [h]; rfl
theorem must_ok (l : List TokL) (j : Nat) (s : ByteArray) (h : isT l j s = true) : mustS l (okS j) s = okS (j + 1) := by unfold mustS; rw [isP_one, h]; rfl
theorem must_no (l : List TokL) (j : Nat) (s : ByteArray) (h : isT l j s = false) (e : Ex) : Fits (wrongAt l j) e (mustS l (okS j) s) := by
  unfold mustS; rw [isP_one, h]
  refine ⟨?_, rfl, rfl⟩
  split <;> decide
section
variable (l : List TokL)
def tagOf : Tg → List Pg
  | .lev 1 => [.expr]
  | .lev 2 => [.simple]
  | .lev 3 => [.term]
  | .lev 4 => [.factor]
  | .levL 2 e => [.simpleL e]
  | .levL 3 e => [.termL e]
  | .fac => [.factor]
  | .named => [.named]
  | _ => []
/-- What is read of operands behind the first one. -/
def SimC (name : ByteArray) (es : List Ex) (i : Nat) (r : Res) : Prop := ∃ e st e' es' st', Ev l .expr (okS i) e st ∧ Ev l (.operandsL (es ++ [e])) st (carry es') st' ∧ e' = .mk 7 0 name eS es' ∧ Fits r e' st'
theorem nxt_some {o : Option Res} {K : Ex → Nat → Option Res} {r : Res} (h : nxt o K = some r) : (∃ c p, o = some (.bad c p) ∧ r = .bad c p) ∨ ∃ e j, o = some (.ok e j) ∧ K e j = some r := by
  cases o with
  | none => cases h
  | some q =>
    cases q with
    | bad c p => left; injection h with h; exact ⟨c, p, rfl, h.symm⟩
    | ok e j => right; exact ⟨e, j, rfl, h⟩
theorem Fits.stop {c : Nat} {p : Pos3} {e : Ex} {st : RS} (h : Fits (.bad c p) e st) : st.code ≠ 0 := by obtain ⟨h1, h2, _⟩ := h; omega
theorem Fits.other {c : Nat} {p : Pos3} {e : Ex} {st : RS} (h : Fits (.bad c p) e st) (e' : Ex) : Fits (.bad c p) e' st := h
theorem sim (f : Nat) : ∀ (i : Nat) (r : Res) (g : Tg), rm l f g i = some r → (∀ p, p ∈ tagOf g → Sim l p i r) ∧ ∀ name es, g = .callL name es → SimC l name es i r := by
  induction f using Nat.strongRecOn with
  | ind f ih =>
    intro i r g h
    match f, h with
    | 0, h => cases h
    | f + 1, h =>
      have low : ∀ g j r, rm l f g j = some r → ∀ p, p ∈ tagOf g → Sim l p j r := fun g j r hr => (ih f (by omega) j r g hr).1
      match g, h with
      | .lev k, h =>
        refine ⟨fun p hp => ?_, fun _ _ h => by cases h⟩
        rw [rm] at h
        match k, hp, h with
        | 1, hp, h =>
          obtain rfl := List.mem_singleton.1 hp
          rw [if_neg (by decide)] at h
          simp only [show ((1 : Nat) == 2) = false from rfl, Bool.false_and, Bool.false_eq_true, if_false] at h
          rcases nxt_some h with ⟨c, p, h1, rfl⟩ | ⟨e, j, h1, h2⟩
          · obtain ⟨e, st, h3, h4⟩ := low _ _ _ h1 .simple (by simp [tagOf])
            refine ⟨e, st, h3.one fun F hF => ?_, h4⟩
            rw [pm, thn_of hF, stop_isP l st h4.stop]; rfl
          · obtain ⟨e', st, h3, h4⟩ := low _ _ _ h1 .simple (by simp [tagOf])
            obtain ⟨rfl, rfl⟩ := h4
            match f, h2, ih with
            | 0, h2, _ => cases h2
            | f + 1, h2, ih =>
              rw [rm] at h2
              obtain ⟨s1, s2⟩ := sign1 l j
              by_cases h0 : (signAt 1 l j).1 = 0
              · rw [if_pos h0] at h2
                injection h2 with h2
                subst h2
                refine ⟨e', okS j, h3.one fun F hF => ?_, rfl, rfl⟩
                rw [pm, thn_of hF, s1 h0]; rfl
              · rw [if_neg h0] at h2
                obtain ⟨a1, a2, a3⟩ := s2 h0
                rw [a2] at h2
                rcases nxt_some h2 with ⟨c, p, h5, rfl⟩ | ⟨e2, j2, h5, h6⟩
                · obtain ⟨e2, st, h7, h8⟩ := (ih f (by omega) _ _ _ h5).1 .simple (by simp [tagOf])
                  refine ⟨_, st, h3.two h7 fun F hF hF2 => ?_, h8.other (exTwo (relOp (tk l j).text) e' e2)⟩
                  rw [pm, thn_of hF, if_pos a1, takeS_ok l j _ a1, thn_of hF2, takeT_ok l j _ a1]
                · rw [if_pos rfl] at h6
                  injection h6 with h6
                  subst h6
                  obtain ⟨e3, st, h7, h8⟩ := (ih f (by omega) _ _ _ h5).1 .simple (by simp [tagOf])
                  obtain ⟨rfl, rfl⟩ := h8
                  refine ⟨exTwo (relOp (tk l j).text) e' e3, okS j2, h3.two h7 fun F hF hF2 => ?_, by rw [a3], rfl⟩
                  rw [pm, thn_of hF, if_pos a1, takeS_ok l j _ a1, thn_of hF2, takeT_ok l j _ a1]
        | 2, hp, h =>
          obtain rfl := List.mem_singleton.1 hp
          rw [if_neg (by decide)] at h
          simp only [show ((2 : Nat) == 2) = true from rfl, Bool.true_and] at h
          have ht : takeS l (okS i) [gMinus] = okS (if isT l i gMinus = true then i + 1 else i) := by
            cases hm : isT l i gMinus with
            | true => rw [if_pos rfl]; exact takeS_ok l i _ (by rw [isP_one]; exact hm)
            | false => rw [if_neg (by decide)]; exact takeS_no l _ _ (by rw [isP_one]; exact hm)
          rcases nxt_some h with ⟨c, p, h1, rfl⟩ | ⟨e, j, h1, h2⟩
          · obtain ⟨e, st, h3, h4⟩ := low _ _ _ h1 .term (by simp [tagOf])
            refine ⟨(if isP l (okS i) [gMinus] = true then exOne 8 e else e), st, h3.two (Ev.mk' (stop_simpleL l st h4.stop 0 (if isP l (okS i) [gMinus] = true then exOne 8 e else e))) fun F hF hF2 => ?_, h4.other _⟩
            rw [pm, ht, thn_of hF]; exact hF2
          · obtain ⟨e', st, h3, h4⟩ := low _ _ _ h1 .term (by simp [tagOf])
            obtain ⟨rfl, rfl⟩ := h4
            obtain ⟨e2, st2, h5, h6⟩ := low _ _ _ h2 (.simpleL (if isT l i gMinus = true then exOne 8 e' else e')) (by simp [tagOf])
            refine ⟨e2, st2, h3.two h5 fun F hF hF2 => ?_, h6⟩
            rw [pm, ht, thn_of hF, isP_one]; exact hF2
        | 3, hp, h =>
          obtain rfl := List.mem_singleton.1 hp
          rw [if_neg (by decide)] at h
          simp only [show ((3 : Nat) == 2) = false from rfl, Bool.false_and, Bool.false_eq_true, if_false] at h
          rcases nxt_some h with ⟨c, p, h1, rfl⟩ | ⟨e, j, h1, h2⟩
          · obtain ⟨e, st, h3, h4⟩ := low _ _ _ h1 .factor (by simp [tagOf])
            refine ⟨e, st, h3.two (Ev.mk' (stop_termL l st h4.stop 0 e)) fun F hF hF2 => ?_, h4.other _⟩
            rw [pm, thn_of hF]; exact hF2
          · obtain ⟨e', st, h3, h4⟩ := low _ _ _ h1 .factor (by simp [tagOf])
            obtain ⟨rfl, rfl⟩ := h4
            obtain ⟨e2, st2, h5, h6⟩ := low _ _ _ h2 (.termL e') (by simp [tagOf])
            refine ⟨e2, st2, h3.two h5 fun F hF hF2 => ?_, h6⟩
            rw [pm, thn_of hF]; exact hF2
        | 4, hp, h =>
          obtain rfl := List.mem_singleton.1 hp
          rw [if_pos rfl] at h
          exact low _ _ _ h .factor (by simp [tagOf])
        | 0, hp, _ => simp [tagOf] at hp
        | k + 5, hp, _ => simp [tagOf] at hp
      | .levL k e, h =>
        refine ⟨fun p hp => ?_, fun _ _ h => by cases h⟩
        rw [rm] at h
        match k, hp, h with
        | 2, hp, h =>
          obtain rfl := List.mem_singleton.1 hp
          obtain ⟨s1, s2⟩ := sign2 l i
          by_cases h0 : (signAt 2 l i).1 = 0
          · rw [if_pos h0] at h
            injection h with h
            subst h
            refine ⟨e, okS i, Ev.mk' (F := 1) ?_, rfl, rfl⟩
            rw [pm, s1 h0]; rfl
          · rw [if_neg h0] at h
            obtain ⟨a1, a2, a3⟩ := s2 h0
            rcases nxt_some h with ⟨c, p, h1, rfl⟩ | ⟨e2, j, h1, h2⟩
            · obtain ⟨e2, st, h3, h4⟩ := low _ _ _ h1 .term (by simp [tagOf])
              refine ⟨(exTwo (addOp l (okS (i + 1)) (tk l i).text) e e2), st, h3.two (Ev.mk' (stop_simpleL l st h4.stop 0 (exTwo (addOp l (okS (i + 1)) (tk l i).text) e e2))) fun F hF hF2 => ?_, h4.other _⟩
              rw [pm, if_pos a1, takeS_ok l i _ a1, takeT_ok l i _ a1, a2, thn_of hF]; exact hF2
            · obtain ⟨e3, st, h3, h4⟩ := low _ _ _ h1 .term (by simp [tagOf])
              obtain ⟨rfl, rfl⟩ := h4
              rw [if_neg (by decide)] at h2
              obtain ⟨e4, st2, h5, h6⟩ := low _ _ _ h2 (.simpleL (exTwo (signAt 2 l i).1 e e3)) (by simp [tagOf])
              refine ⟨e4, st2, h3.two h5 fun F hF hF2 => ?_, h6⟩
              rw [pm, if_pos a1, takeS_ok l i _ a1, takeT_ok l i _ a1, a2, thn_of hF, a3]; exact hF2
        | 3, hp, h =>
          obtain rfl := List.mem_singleton.1 hp
          obtain ⟨s1, s2⟩ := sign3 l i
          by_cases h0 : (signAt 3 l i).1 = 0
          · rw [if_pos h0] at h
            injection h with h
            subst h
            refine ⟨e, okS i, Ev.mk' (F := 1) ?_, rfl, rfl⟩
            rw [pm, s1 h0]; rfl
          · rw [if_neg h0] at h
            obtain ⟨a1, a2, a3⟩ := s2 h0
            rcases nxt_some h with ⟨c, p, h1, rfl⟩ | ⟨e2, j, h1, h2⟩
            · obtain ⟨e2, st, h3, h4⟩ := low _ _ _ h1 .factor (by simp [tagOf])
              refine ⟨(exTwo (mulOp l (okS (i + 1)) (tk l i).text) e e2), st, h3.two (Ev.mk' (stop_termL l st h4.stop 0 (exTwo (mulOp l (okS (i + 1)) (tk l i).text) e e2))) fun F hF hF2 => ?_, h4.other _⟩
              rw [pm, if_pos a1, takeS_ok l i _ a1, takeT_ok l i _ a1, a2, thn_of hF]; exact hF2
            · obtain ⟨e3, st, h3, h4⟩ := low _ _ _ h1 .factor (by simp [tagOf])
              obtain ⟨rfl, rfl⟩ := h4
              rw [if_neg (by decide)] at h2
              obtain ⟨e4, st2, h5, h6⟩ := low _ _ _ h2 (.termL (exTwo (signAt 3 l i).1 e e3)) (by simp [tagOf])
              refine ⟨e4, st2, h3.two h5 fun F hF hF2 => ?_, h6⟩
              rw [pm, if_pos a1, takeS_ok l i _ a1, takeT_ok l i _ a1, a2, thn_of hF, a3]; exact hF2
        | 0, hp, _ => simp [tagOf] at hp
        | 1, hp, _ => simp [tagOf] at hp
        | k + 4, hp, _ => simp [tagOf] at hp
      | .fac, h =>
        refine ⟨fun p hp => ?_, fun _ _ h => by cases h⟩
        obtain rfl := List.mem_singleton.1 hp
        rw [rm] at h
        by_cases h1 : isT l i wNot = true
        · rw [if_pos h1] at h
          have a1 : isP l (okS i) [wNot] = true := by rw [isP_one]; exact h1
          rcases nxt_some h with ⟨c, p, h2, rfl⟩ | ⟨e, j, h2, h3⟩
          · obtain ⟨e, st, h4, h5⟩ := low _ _ _ h2 .factor (by simp [tagOf])
            refine ⟨exOne 9 e, st, h4.one fun F hF => ?_, h5.other _⟩
            rw [pm, if_pos a1, takeS_ok l i _ a1, thn_of hF]
          · obtain ⟨e', st, h4, h5⟩ := low _ _ _ h2 .factor (by simp [tagOf])
            obtain ⟨rfl, rfl⟩ := h5
            injection h3 with h3
            subst h3
            refine ⟨exOne 9 e', okS j, h4.one fun F hF => ?_, rfl, rfl⟩
            rw [pm, if_pos a1, takeS_ok l i _ a1, thn_of hF]
        rw [if_neg h1] at h
        have b1 : isP l (okS i) [wNot] = false := by rw [isP_one]; simpa using h1
        by_cases h2 : isT l i gOpen = true
        · rw [if_pos h2] at h
          have a1 : isP l (okS i) [gOpen] = true := by rw [isP_one]; exact h2
          rcases nxt_some h with ⟨c, p, h3, rfl⟩ | ⟨e, j, h3, h4⟩
          · obtain ⟨e, st, h4, h5⟩ := low _ _ _ h3 .expr (by simp [tagOf])
            refine ⟨e, mustS l st gClose, h4.one fun F hF => ?_, by rw [stop_must l st h5.stop]; exact h5⟩
            rw [pm, b1, if_neg (by decide), if_pos a1, takeS_ok l i _ a1, thn_of hF]
          · obtain ⟨e', st, h5, h6⟩ := low _ _ _ h3 .expr (by simp [tagOf])
            obtain ⟨rfl, rfl⟩ := h6
            refine ⟨e', mustS l (okS j) gClose, h5.one fun F hF => ?_, ?_⟩
            · rw [pm, b1, if_neg (by decide), if_pos a1, takeS_ok l i _ a1, thn_of hF]
            · by_cases h7 : isT l j gClose = true
              · rw [if_pos h7] at h4; injection h4 with h4; subst h4
                rw [must_ok l j _ h7]; exact ⟨rfl, rfl⟩
              · rw [if_neg h7] at h4; injection h4 with h4; subst h4
                exact must_no l j _ (by simpa using h7) _
        rw [if_neg h2] at h
        have b2 : isP l (okS i) [gOpen] = false := by rw [isP_one]; simpa using h2
        have e3 : isP l (okS i) [wTrue, wFalse] = (isT l i wTrue || isT l i wFalse) := by
          rw [isP_sg, isT_sg, isT_sg, ← Bool.and_or_distrib_left]; congr 1; rw [Bool.eq_iff_iff]; simp
        by_cases h3 : isT l i wTrue = true
        · rw [if_pos h3] at h; injection h with h; subst h
          have a1 : isP l (okS i) [wTrue, wFalse] = true := by rw [e3, h3]; rfl
          refine ⟨_, _, Ev.mk' (F := 1) (by rw [pm, b1, b2, if_neg (by decide), if_neg (by decide), if_pos a1]), ?_, takeS_ok l i _ a1⟩
          rw [takeT_ok l i _ a1]
          rw [isT_sg] at h3
          simp only [Bool.and_eq_true, decide_eq_true_eq] at h3
          rw [if_pos h3.2]
        rw [if_neg h3] at h
        by_cases h4 : isT l i wFalse = true
        · rw [if_pos h4] at h; injection h with h; subst h
          have a1 : isP l (okS i) [wTrue, wFalse] = true := by rw [e3, h4]; simp
          refine ⟨_, _, Ev.mk' (F := 1) (by rw [pm, b1, b2, if_neg (by decide), if_neg (by decide), if_pos a1]), ?_, takeS_ok l i _ a1⟩
          rw [takeT_ok l i _ a1]
          rw [isT_sg] at h4
          simp only [Bool.and_eq_true, decide_eq_true_eq] at h4
          rw [h4.2]; rfl
        rw [if_neg h4] at h
        have b3 : isP l (okS i) [wTrue, wFalse] = false := by rw [e3]; simp [h3, h4]
        by_cases h5 : (tk l i).kind = 3
        · rw [if_pos h5] at h; injection h with h; subst h
          have a1 : isOf l (okS i) 3 = true := by unfold isOf okS; simp [h5]
          exact ⟨_, _, Ev.mk' (F := 1) (by rw [pm, b1, b2, b3, if_neg (by decide), if_neg (by decide), if_neg (by decide), if_pos a1]; rfl), rfl, rfl⟩
        rw [if_neg h5] at h
        have b4 : isOf l (okS i) 3 = false := by unfold isOf okS; simp [h5]
        by_cases h6 : (tk l i).kind = 4
        · rw [if_pos h6] at h; injection h with h; subst h
          have a1 : isOf l (okS i) 4 = true := by unfold isOf okS; simp [h6]
          exact ⟨_, _, Ev.mk' (F := 1) (by rw [pm, b1, b2, b3, b4, if_neg (by decide), if_neg (by decide), if_neg (by decide), if_neg (by decide), if_pos a1]; rfl), rfl, rfl⟩
        rw [if_neg h6] at h
        have b5 : isOf l (okS i) 4 = false := by unfold isOf okS; simp [h6]
        obtain ⟨e, st, h7, h8⟩ := low _ _ _ h .named (by simp [tagOf])
        exact ⟨e, st, h7.one fun F hF => by rw [pm, b1, b2, b3, b4, b5]; exact hF, h8⟩
      | .named, h =>
        refine ⟨fun p hp => ?_, fun _ _ h => by cases h⟩
        obtain rfl := List.mem_singleton.1 hp
        rw [rm] at h
        by_cases h1 : (tk l i).kind ≠ 1
        · rw [if_pos h1] at h; injection h with h; subst h
          have b1 : isOf l (okS i) 1 = false := by unfold isOf okS; simp [h1]
          have b2 : nameS l (okS i) = wrongP l (okS i) := by unfold nameS; rw [b1]; rfl
          have b3 : (wrongP l (okS i)).code ≠ 0 := by
            unfold wrongP failP okS; simp only [if_true]; split <;> decide
          refine ⟨exVar (nameT l (okS i)), nameS l (okS i), Ev.mk' (F := 1) ?_, ?_⟩
          · rw [pm, b2, stop_isP l _ b3]; rfl
          · rw [b2]; exact ⟨by split <;> decide, rfl, rfl⟩
        rw [if_neg h1] at h
        have k1 : (tk l i).kind = 1 := by omega
        have b1 : isOf l (okS i) 1 = true := by unfold isOf okS; simp [k1]
        have b2 : nameS l (okS i) = okS (i + 1) := by unfold nameS; rw [b1]; rfl
        have b3 : nameT l (okS i) = (tk l i).text := by unfold nameT ofT; rw [b1]; rfl
        have e3 : isP l (okS (i + 1)) [gOpen, gOpenB, gDot] = (isT l (i + 1) gOpen || (isT l (i + 1) gOpenB || isT l (i + 1) gDot)) := by
          rw [isP_sg, isT_sg, isT_sg, isT_sg, ← Bool.and_or_distrib_left, ← Bool.and_or_distrib_left]; congr 1; rw [Bool.eq_iff_iff]; simp
        have tx : ∀ s, isT l (i + 1) s = true → (tk l (i + 1)).text = s := by
          intro s hs; rw [isT_sg] at hs; simp only [Bool.and_eq_true, decide_eq_true_eq] at hs; exact hs.2
        by_cases h2 : isT l (i + 1) gOpen = true
        · rw [if_pos h2] at h
          have a1 : isP l (okS (i + 1)) [gOpen, gOpenB, gDot] = true := by rw [e3, h2]; rfl
          have a2 : takeT l (okS (i + 1)) [gOpen, gOpenB, gDot] = gOpen := by rw [takeT_ok l _ _ a1]; exact tx _ h2
          by_cases h3 : isT l (i + 2) gClose = true
          · rw [if_pos h3] at h; injection h with h; subst h
            have a3 : isP l (okS (i + 2)) [gClose] = true := by rw [isP_one]; exact h3
            refine ⟨.mk 7 0 (tk l i).text eS [], okS (i + 3), Ev.mk' (F := 2) ?_, rfl, rfl⟩
            rw [pm, b2, if_pos a1, a2, if_pos rfl, takeS_ok l _ _ a1, pm, if_pos a3, takeS_ok l _ _ a3, b3]; rfl
          · rw [if_neg h3] at h
            have a3 : isP l (okS (i + 2)) [gClose] = false := by rw [isP_one]; simpa using h3
            obtain ⟨e, st, e', es', st', h4, h5, rfl, h6⟩ := (ih f (by omega) _ _ _ h).2 _ _ rfl
            refine ⟨.mk 7 0 (tk l i).text eS es', st', ?_, h6⟩
            have h7 : Ev l .operands (okS (i + 2)) (carry es') st' := h4.two h5 fun F hF hF2 => by
              rw [pm, a3, if_neg (by decide), thn_of hF]; exact hF2
            refine h7.one fun F hF => ?_
            rw [pm, b2, if_pos a1, a2, if_pos rfl, takeS_ok l _ _ a1, thn_of hF, b3]; rfl
        rw [if_neg h2] at h
        by_cases h3 : isT l (i + 1) gOpenB = true
        · rw [if_pos h3] at h
          have a1 : isP l (okS (i + 1)) [gOpen, gOpenB, gDot] = true := by rw [e3, h3]; simp
          have a2 : takeT l (okS (i + 1)) [gOpen, gOpenB, gDot] = gOpenB := by rw [takeT_ok l _ _ a1]; exact tx _ h3
          rcases nxt_some h with ⟨c, p, h4, rfl⟩ | ⟨e, j, h4, h5⟩
          · obtain ⟨e, st, h5, h6⟩ := low _ _ _ h4 .expr (by simp [tagOf])
            refine ⟨.mk 5 0 (tk l i).text eS [e], mustS l st gCloseB, h5.one fun F hF => ?_, by rw [stop_must l st h6.stop]; exact h6⟩
            rw [pm, b2, if_pos a1, a2, if_neg (by decide), if_pos rfl, takeS_ok l _ _ a1, thn_of hF, b3]
          · obtain ⟨e', st, h6, h7⟩ := low _ _ _ h4 .expr (by simp [tagOf])
            obtain ⟨rfl, rfl⟩ := h7
            refine ⟨.mk 5 0 (tk l i).text eS [e'], mustS l (okS j) gCloseB, h6.one fun F hF => ?_, ?_⟩
            · rw [pm, b2, if_pos a1, a2, if_neg (by decide), if_pos rfl, takeS_ok l _ _ a1, thn_of hF, b3]
            · by_cases h7 : isT l j gCloseB = true
              · rw [if_pos h7] at h5; injection h5 with h5; subst h5
                rw [must_ok l j _ h7]; exact ⟨rfl, rfl⟩
              · rw [if_neg h7] at h5; injection h5 with h5; subst h5
                exact must_no l j _ (by simpa using h7) _
        rw [if_neg h3] at h
        by_cases h4 : isT l (i + 1) gDot = true
        · rw [if_pos h4] at h
          have a1 : isP l (okS (i + 1)) [gOpen, gOpenB, gDot] = true := by rw [e3, h4]; simp
          have a2 : takeT l (okS (i + 1)) [gOpen, gOpenB, gDot] = gDot := by rw [takeT_ok l _ _ a1]; exact tx _ h4
          have hv : Ev l .named (okS i) (.mk 6 0 (tk l i).text (nameT l (okS (i + 2))) []) (nameS l (okS (i + 2))) := Ev.mk' (F := 1) (by
            rw [pm, b2, if_pos a1, a2, if_neg (by decide), if_neg (by decide), takeS_ok l _ _ a1, b3])
          by_cases h5 : (tk l (i + 2)).kind ≠ 1
          · rw [if_pos h5] at h; injection h with h; subst h
            have c1 : isOf l (okS (i + 2)) 1 = false := by unfold isOf okS; simp [h5]
            have c2 : nameS l (okS (i + 2)) = wrongP l (okS (i + 2)) := by unfold nameS; rw [c1]; rfl
            refine ⟨_, _, hv, ?_⟩
            rw [c2]; exact ⟨by split <;> decide, rfl, rfl⟩
          · rw [if_neg h5] at h; injection h with h; subst h
            have k2 : (tk l (i + 2)).kind = 1 := by omega
            have c1 : isOf l (okS (i + 2)) 1 = true := by unfold isOf okS; simp [k2]
            have c2 : nameS l (okS (i + 2)) = okS (i + 3) := by unfold nameS; rw [c1]; rfl
            have c3 : nameT l (okS (i + 2)) = (tk l (i + 2)).text := by unfold nameT ofT; rw [c1]; rfl
            rw [c2, c3] at hv
            exact ⟨_, _, hv, rfl, rfl⟩
        rw [if_neg h4] at h; injection h with h; subst h
        have a1 : isP l (okS (i + 1)) [gOpen, gOpenB, gDot] = false := by rw [e3]; simp [h2, h3, h4]
        refine ⟨exVar (tk l i).text, okS (i + 1), Ev.mk' (F := 1) ?_, rfl, rfl⟩
        rw [pm, b2, a1, b3]; rfl
      | .callL name es, h =>
        refine ⟨fun p hp => by simp [tagOf] at hp, fun name' es2 he => ?_⟩
        injection he with e1 e2
        subst e1
        subst e2
        rw [rm] at h
        rcases nxt_some h with ⟨c, p, h1, rfl⟩ | ⟨e, j, h1, h2⟩
        · obtain ⟨e, st, h3, h4⟩ := low _ _ _ h1 .expr (by simp [tagOf])
          exact ⟨e, st, _, _, st, h3, Ev.mk' (stop_operandsL l st h4.stop 0 _), rfl, h4.other _⟩
        · obtain ⟨e', st, h3, h4⟩ := low _ _ _ h1 .expr (by simp [tagOf])
          obtain ⟨rfl, rfl⟩ := h4
          by_cases h5 : isT l j gClose = true
          · rw [if_pos h5] at h2; injection h2 with h2; subst h2
            have a1 : isP l (okS j) [gComma] = false := by
              rw [isP_one]
              rw [isT_sg] at h5 ⊢
              simp only [Bool.and_eq_true, decide_eq_true_eq] at h5
              rw [h5.2]; simp
            refine ⟨e', okS j, _, es ++ [e'], mustS l (okS j) gClose, h3, Ev.mk' (F := 1) ?_, rfl, ?_⟩
            · rw [pm, a1]; rfl
            · rw [must_ok l j _ h5]; exact ⟨rfl, rfl⟩
          rw [if_neg h5] at h2
          by_cases h6 : isT l j gComma = true
          · rw [if_pos h6] at h2
            have a1 : isP l (okS j) [gComma] = true := by rw [isP_one]; exact h6
            obtain ⟨e2, st2, e3, es3, st3, h7, h8, rfl, h9⟩ := (ih f (by omega) _ _ _ h2).2 _ _ rfl
            refine ⟨e', okS j, _, es3, st3, h3, h7.two h8 fun F hF hF2 => ?_, rfl, h9⟩
            rw [pm, if_pos a1, takeS_ok l _ _ a1, thn_of hF]; exact hF2
          rw [if_neg h6] at h2; injection h2 with h2; subst h2
          have a1 : isP l (okS j) [gComma] = false := by rw [isP_one]; simpa using h6
          refine ⟨e', okS j, _, es ++ [e'], mustS l (okS j) gClose, h3, Ev.mk' (F := 1) ?_, rfl, must_no l j _ (by simpa using h5) _⟩
          rw [pm, a1]; rfl
end
/-- The program's reader at a place, and the document's answer there. -/
theorem pm_expr (l : List TokL) (i : Nat) (hi : i ≤ l.length) : ∃ e st F, pm l F .expr (okS i) = some (e, st) ∧ Fits (levAt l i) e st := by
  obtain ⟨e, st, ⟨F, h1⟩, h2⟩ := (sim l (bigF l) i (levAt l i) (.lev 1) (levAt_rm l i hi)).1 .expr (by simp [tagOf])
  exact ⟨e, st, F, h1 F (Nat.le_refl _), h2⟩
end Go.Proofs.YtgmmjhelcpgakaaGreatDoor
