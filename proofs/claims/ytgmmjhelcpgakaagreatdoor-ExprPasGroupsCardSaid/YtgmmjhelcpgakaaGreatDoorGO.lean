/- Expressions of Pas: sameness, depth, the longest list; what a text is read as, in plain words. -/
import Derived.Test.YtgmmjhelcpgakaaGreatDoorGD
import Derived.Test.YtgmmjhelcpgakaaGreatDoorGL
import Derived.Test.YtgmmjhelcpgakaaGreatDoorGM
namespace Go.Proofs.YtgmmjhelcpgakaaGreatDoor
open Go.RowKit
set_option linter.unusedVariables false
set_option linter.unusedSimpArgs false

mutual
def sameEx : Ex → Ex → Bool
  | .mk o n s f l, .mk o' n' s' f' l' => decide (o = o') && (decide (n = n') && (decide (s = s') && (decide (f = f') && sameExs l l')))
def sameExs : List Ex → List Ex → Bool
  | [], [] => true
  | a :: l, b :: m => sameEx a b && sameExs l m
  | _, _ => false
end
mutual
theorem sameEx_refl : ∀ a : Ex, sameEx a a = true
  | .mk o n s f l => by rw [sameEx, sameExs_refl l]; simp
theorem sameExs_refl : ∀ a : List Ex, sameExs a a = true
  | [] => by rw [sameExs]
  | a :: l => by rw [sameExs, sameEx_refl a, sameExs_refl l]; rfl
end
mutual
theorem sameEx_eq : ∀ a b : Ex, sameEx a b = true → a = b
  | .mk o n s f l, .mk o' n' s' f' l', h => by
    rw [sameEx] at h
    simp only [Bool.and_eq_true, decide_eq_true_eq] at h
    obtain ⟨rfl, rfl, rfl, rfl, h⟩ := h
    rw [sameExs_eq l l' h]
theorem sameExs_eq : ∀ a b : List Ex, sameExs a b = true → a = b
  | [], [], _ => rfl
  | a :: l, b :: m, h => by
    rw [sameExs] at h
    simp only [Bool.and_eq_true] at h
    rw [sameEx_eq a b h.1, sameExs_eq l m h.2]
  | [], _ :: _, h => by rw [sameExs] at h; cases h; all_goals simp
  | _ :: _, [], h => by rw [sameExs] at h; cases h; all_goals simp
end
theorem sameEx_iff (a b : Ex) : sameEx a b = true ↔ a = b := ⟨sameEx_eq a b, fun h => h ▸ sameEx_refl a⟩
theorem sameExs_iff (a b : List Ex) : sameExs a b = true ↔ a = b := ⟨sameExs_eq a b, fun h => h ▸ sameExs_refl a⟩
instance : DecidableEq Ex := fun a b => decidable_of_iff _ (sameEx_iff a b)
theorem sameExs_len : ∀ a b : List Ex, sameExs a b = true → a.length = b.length := fun a b h => by rw [sameExs_eq a b h]
theorem sameExs_at (a b : List Ex) : a.length = b.length → (sameExs a b = true ↔ ∀ (k : Nat) (x y : Ex), a[k]? = some x → b[k]? = some y → sameEx x y = true) := by
  intro hl
  rw [sameExs_iff]
  constructor
  · rintro rfl k x y h1 h2; rw [h1] at h2; injection h2 with h2; rw [h2]; exact sameEx_refl _
  · intro h
    refine List.ext_getElem hl fun k h1 h2 => ?_
    exact sameEx_eq _ _ (h k _ _ (List.getElem?_eq_getElem h1) (List.getElem?_eq_getElem h2))

mutual
/-- How deep an expression is. -/
def deepE : Ex → Nat
  | .mk _ _ _ _ l => deepEs l + 1
def deepEs : List Ex → Nat
  | [] => 0
  | a :: l => max (if a.op = 25 then 0 else deepE a) (deepEs l)
end
mutual
/-- How long its longest list is. -/
def longE : Ex → Nat
  | .mk _ _ _ _ l => max l.length (longEs l)
def longEs : List Ex → Nat
  | [] => 0
  | a :: l => max (longE a) (longEs l)
end
mutual
def noUp : Ex → Bool
  | .mk o _ _ _ l => decide (o ≠ 25) && noUps l
def noUps : List Ex → Bool
  | [] => true
  | a :: l => noUp a && noUps l
end
theorem deepEs_snoc : ∀ (l : List Ex) (a : Ex), deepEs (l ++ [a]) = max (deepEs l) (if a.op = 25 then 0 else deepE a)
  | [], a => by rw [List.nil_append, deepEs, deepEs, Nat.max_comm, deepEs]
  | b :: l, a => by rw [List.cons_append, deepEs, deepEs, deepEs_snoc l a]; omega
theorem longEs_snoc : ∀ (l : List Ex) (a : Ex), longEs (l ++ [a]) = max (longEs l) (longE a)
  | [], a => by rw [List.nil_append, longEs, longEs, Nat.max_comm, longEs]
  | b :: l, a => by rw [List.cons_append, longEs, longEs, longEs_snoc l a]; omega
theorem noUps_append : ∀ (l m : List Ex), noUps (l ++ m) = (noUps l && noUps m)
  | [], m => by rw [List.nil_append, noUps]; rfl
  | b :: l, m => by rw [List.cons_append, noUps, noUps, noUps_append l m, Bool.and_assoc]
theorem noUps_mem : ∀ (l : List Ex) (a : Ex), noUps l = true → a ∈ l → noUp a = true
  | b :: l, a, h, hm => by
    rw [noUps, Bool.and_eq_true] at h
    rcases List.mem_cons.1 hm with rfl | hm
    · exact h.1
    · exact noUps_mem l a h.2 hm
theorem noUp_op (a : Ex) (h : noUp a = true) : a.op ≠ 25 := by
  cases a with
  | mk o n s f l => rw [noUp] at h; simp only [Bool.and_eq_true, decide_eq_true_eq] at h; exact h.1
theorem deepE_pos (a : Ex) : 1 ≤ deepE a := by cases a; rw [deepE]; omega
theorem longE_len (a : Ex) : a.list.length ≤ longE a := by cases a; rw [longE]; show _ ≤ _; simp only [Ex.list]; omega
theorem deepE_eq (a : Ex) : deepE a = deepEs a.list + 1 := by cases a; rw [deepE]; rfl
theorem longE_eq (a : Ex) : longE a = max a.list.length (longEs a.list) := by cases a; rw [longE]; rfl
theorem noUp_eq (a : Ex) (h : noUp a = true) : noUps a.list = true := by
  cases a with
  | mk o n s f l => rw [noUp, Bool.and_eq_true] at h; exact h.2
theorem signAt_op (k : Nat) (l : List TokL) (i : Nat) : (signAt k l i).1 ≤ 24 := by
  have pick : ∀ (c : Bool) (a b : Nat × Nat), a.1 ≤ 24 → b.1 ≤ 24 → (if c = true then a else b).1 ≤ 24 := by
    intro c a b h1 h2; cases c <;> simp_all
  unfold signAt
  split
  · repeat (refine pick _ _ _ (by decide) ?_)
    decide
  · split
    · repeat (refine pick _ _ _ (by decide) ?_)
      decide
    · repeat (refine pick _ _ _ (by decide) ?_)
      decide
def tgUp : Tg → Prop
  | .levL _ e => noUp e = true
  | .callL _ es => noUps es = true
  | _ => True
theorem noUp_one (o : Int) (e : Ex) (ho : o ≠ 25) (h : noUp e = true) : noUp (exOne o e) = true := by
  unfold exOne; rw [noUp, noUps, noUps, h]; simpa using ho
theorem noUp_two (o : Int) (a b : Ex) (ho : o ≠ 25) (h : noUp a = true) (h2 : noUp b = true) : noUp (exTwo o a b) = true := by
  unfold exTwo; rw [noUp, noUps, noUps, noUps, h, h2]; simpa using ho
theorem noUp_nil (o n : Int) (s f : ByteArray) (ho : o ≠ 25) : noUp (.mk o n s f []) = true := by rw [noUp, noUps]; simpa using ho
/-- What is read has no captured variables. -/
theorem rm_noUp (l : List TokL) : ∀ (f : Nat) (g : Tg) (i : Nat) (e : Ex) (j : Nat), tgUp g → rm l f g i = some (.ok e j) → noUp e = true := by
  intro f
  induction f with
  | zero => intro g i e j _ h; cases h
  | succ f ih =>
    intro g i e j hg h
    have ih : ∀ {g i e j}, rm l f g i = some (.ok e j) → tgUp g → noUp e = true := fun {g i e j} h hg => ih g i e j hg h
    have sgn : ∀ k, ((signAt k l i).1 : Int) ≠ 25 := fun k => by have := signAt_op k l i; omega
    cases g with
    | lev k =>
      rw [rm] at h
      split at h
      · exact ih h trivial
      · obtain ⟨e', j', h1, h2⟩ := nxt_ok h
        have h3 := ih h1 trivial
        refine ih h2 ?_
        show noUp _ = true
        split
        · exact noUp_one 8 e' (by decide) h3
        · exact h3
    | levL k e0 =>
      rw [rm] at h
      split at h
      · injection h with h; injection h with h _; rw [← h]; exact hg
      · obtain ⟨e', j', h1, h2⟩ := nxt_ok h
        have h3 := noUp_two ((signAt k l i).1) e0 e' (sgn k) hg (ih h1 trivial)
        split at h2
        · injection h2 with h2; injection h2 with h2 _; rw [← h2]; exact h3
        · exact ih h2 h3
    | fac =>
      rw [rm] at h
      split at h
      · obtain ⟨e', j', h1, h2⟩ := nxt_ok h
        injection h2 with h2; injection h2 with h2 _; rw [← h2]
        exact noUp_one 9 e' (by decide) (ih h1 trivial)
      split at h
      · obtain ⟨e', j', h1, h2⟩ := nxt_ok h
        split at h2
        · injection h2 with h2; injection h2 with h2 _; rw [← h2]; exact ih h1 trivial
        · injection h2 with h2; cases h2
      split at h
      · injection h with h; injection h with h _; rw [← h]; exact noUp_nil _ _ _ _ (by decide)
      split at h
      · injection h with h; injection h with h _; rw [← h]; exact noUp_nil _ _ _ _ (by decide)
      split at h
      · injection h with h; injection h with h _; rw [← h]; exact noUp_nil _ _ _ _ (by decide)
      split at h
      · injection h with h; injection h with h _; rw [← h]; exact noUp_nil _ _ _ _ (by decide)
      exact ih h trivial
    | named =>
      rw [rm] at h
      split at h
      · injection h with h; cases h
      split at h
      · split at h
        · injection h with h; injection h with h _; rw [← h]; exact noUp_nil _ _ _ _ (by decide)
        · exact ih h (by show noUps _ = true; rw [noUps])
      split at h
      · obtain ⟨e', j', h1, h2⟩ := nxt_ok h
        split at h2
        · injection h2 with h2; injection h2 with h2 _; rw [← h2]
          rw [noUp, noUps, noUps, ih h1 trivial]; decide
        · injection h2 with h2; cases h2
      split at h
      · split at h
        · injection h with h; cases h
        · injection h with h; injection h with h _; rw [← h]; exact noUp_nil _ _ _ _ (by decide)
      injection h with h; injection h with h _; rw [← h]; exact noUp_nil _ _ _ _ (by decide)
    | callL name es =>
      rw [rm] at h
      obtain ⟨e', j', h1, h2⟩ := nxt_ok h
      have h3 : noUps (es ++ [e']) = true := by
        rw [noUps_append, noUps, noUps, ih h1 trivial]
        have : noUps es = true := hg
        rw [this]; rfl
      split at h2
      · injection h2 with h2; injection h2 with h2 _; rw [← h2, noUp, h3]; decide
      split at h2
      · exact ih h2 h3
      · injection h2 with h2; cases h2
theorem levAt_noUp (l : List TokL) (i : Nat) (hi : i ≤ l.length) (e : Ex) (j : Nat) (h : levAt l i = .ok e j) : noUp e = true :=
  rm_noUp l (bigF l) (.lev 1) i e j trivial (by rw [levAt_rm l i hi, h])

/-- What was got at a place, if it isn't too long, nor too deep. -/
def boundAt (l : List TokL) (i : Nat) : Res → Res
  | .bad c p => .bad c p
  | .ok e j => if 512 < longE e then .bad 3 (tk l i).pos else if 48 < deepE e then .bad 4 (tk l i).pos else .ok e j
def parseAt (l : List TokL) (i : Nat) : Res := boundAt l i (levAt l i)
/-- What a text is read as: the expression, the code, the place. -/
def readE (s : ByteArray) : Ex × Nat × Pos3 :=
  if (lexAll s).code ≠ 0 then (exNil, (lexAll s).code, (lexAll s).pos)
  else match parseAt (lexAll s).toks 0 with
    | .bad c p => (exNil, c, p)
    | .ok e j => if (tk (lexAll s).toks j).kind ≠ 0 then (exNil, if (tk (lexAll s).toks j).kind = 6 then 9 else 10, (tk (lexAll s).toks j).pos) else (e, 0, (0, 0, 0))
end Go.Proofs.YtgmmjhelcpgakaaGreatDoor
/- Trees of expressions in memory. -/
namespace Go.Proofs.YtgmmjhelcpgakaaGreatDoor
open Go.RowKit
set_option linter.unusedVariables false
set_option linter.unusedSimpArgs false

mutual
/-- Five cells that hold an expression; all blocks behind it are in S. -/
def RdE (S : Nat → Prop) (w : World) : Ex → List Value → Prop
  | .mk o n s f l, cs => ∃ A c, cs = [.int .i64 o, .int .i64 n, .string s, .string f, .slice A l.length c] ∧ (l ≠ [] → ∃ b off, A = some ⟨b, off, none⟩ ∧ S b ∧ RdCs S w b off l)
/-- A row of them. -/
def RdCs (S : Nat → Prop) (w : World) (b : Nat) : Nat → List Ex → Prop
  | _, [] => True
  | off, a :: l => (∃ cs, RdE S w a cs ∧ ∀ j, j < 5 → w.cell? ⟨b, off + j, none⟩ = cs[j]?) ∧ RdCs S w b (off + 5) l
end
/-- The operands behind a slice's address. -/
def RdRow (S : Nat → Prop) (w : World) (l : List Ex) (A : Option Addr) : Prop := l ≠ [] → ∃ b off, A = some ⟨b, off, none⟩ ∧ S b ∧ RdCs S w b off l
def exA (e : Ex) (A : Option Addr) (c : Nat) : Array Value := #[.int .i64 e.op, .int .i64 e.num, .string e.name, .string e.field, .slice A e.list.length c]
theorem RdE.row {S : Nat → Prop} {w : World} {e : Ex} {cs : List Value} (h : RdE S w e cs) : ∃ A c, cs = (exA e A c).toList ∧ RdRow S w e.list A := by
  cases e with
  | mk o n s f l => rw [RdE] at h; obtain ⟨A, c, h1, h2⟩ := h; exact ⟨A, c, h1, h2⟩
theorem RdE.of_row {S : Nat → Prop} {w : World} {e : Ex} {A : Option Addr} {c : Nat} (h : RdRow S w e.list A) : RdE S w e (exA e A c).toList := by
  cases e with
  | mk o n s f l => rw [RdE]; exact ⟨A, c, rfl, h⟩
theorem RdRow.nil (S : Nat → Prop) (w : World) (A : Option Addr) : RdRow S w [] A := fun h => absurd rfl h
mutual
theorem RdE.keep {P S : Nat → Prop} {w w' : World} (hk : Keep P w w') (hp : ∀ k, P k → ¬ S k) : ∀ (e : Ex) (cs : List Value), RdE S w e cs → RdE S w' e cs
  | .mk o n s f l, cs, h => by
    rw [RdE] at h ⊢
    obtain ⟨A, c, h1, h2⟩ := h
    refine ⟨A, c, h1, fun hne => ?_⟩
    obtain ⟨b, off, h3, h4, h5⟩ := h2 hne
    exact ⟨b, off, h3, h4, RdCs.keep hk hp b h4 l off h5⟩
theorem RdCs.keep {P S : Nat → Prop} {w w' : World} (hk : Keep P w w') (hp : ∀ k, P k → ¬ S k) (b : Nat) (hb : S b) : ∀ (l : List Ex) (off : Nat), RdCs S w b off l → RdCs S w' b off l
  | [], off, _ => by rw [RdCs]; trivial
  | a :: l, off, h => by
    rw [RdCs] at h ⊢
    obtain ⟨⟨cs, h1, h2⟩, h3⟩ := h
    refine ⟨⟨cs, RdE.keep hk hp a cs h1, fun j hj => ?_⟩, RdCs.keep hk hp b hb l (off + 5) h3⟩
    have h4 := h2 j hj
    obtain ⟨A, c, h5, _⟩ := RdE.row h1
    have hlen : cs.length = 5 := by rw [h5]; rfl
    obtain ⟨v, hv⟩ : ∃ v, cs[j]? = some v := ⟨_, List.getElem?_eq_getElem (by rw [hlen]; exact hj)⟩
    rw [hv] at h4 ⊢
    exact hk.cell h4 (fun hpb => hp b hpb hb)
end
mutual
theorem RdE.mono {S S' : Nat → Prop} {w : World} (hs : ∀ k, k < w.heap.size → S k → S' k) : ∀ (e : Ex) (cs : List Value), RdE S w e cs → RdE S' w e cs
  | .mk o n s f l, cs, h => by
    rw [RdE] at h ⊢
    obtain ⟨A, c, h1, h2⟩ := h
    refine ⟨A, c, h1, fun hne => ?_⟩
    obtain ⟨b, off, h3, h4, h5⟩ := h2 hne
    have hlt : b < w.heap.size := by
      match l, hne, h5 with
      | a :: l, _, h5 =>
        rw [RdCs] at h5
        obtain ⟨⟨cs, h6, h7⟩, _⟩ := h5
        obtain ⟨A, c, h8, _⟩ := RdE.row h6
        have := h7 0 (by decide)
        rw [h8] at this
        exact World.block_lt_of_cell? w _ this
    exact ⟨b, off, h3, hs b hlt h4, RdCs.mono hs b l off h5⟩
theorem RdCs.mono {S S' : Nat → Prop} {w : World} (hs : ∀ k, k < w.heap.size → S k → S' k) (b : Nat) : ∀ (l : List Ex) (off : Nat), RdCs S w b off l → RdCs S' w b off l
  | [], off, _ => by rw [RdCs]; trivial
  | a :: l, off, h => by
    rw [RdCs] at h ⊢
    obtain ⟨⟨cs, h1, h2⟩, h3⟩ := h
    exact ⟨⟨cs, RdE.mono hs a cs h1, h2⟩, RdCs.mono hs b l (off + 5) h3⟩
end
theorem RdCs.lt {S : Nat → Prop} {w : World} {b : Nat} {l : List Ex} {off : Nat} (h : RdCs S w b off l) (hne : l ≠ []) : b < w.heap.size := by
  match l, hne, h with
  | a :: l, _, h5 =>
    rw [RdCs] at h5
    obtain ⟨⟨cs, h6, h7⟩, _⟩ := h5
    obtain ⟨A, c, h8, _⟩ := RdE.row h6
    have := h7 0 (by decide)
    rw [h8] at this
    exact World.block_lt_of_cell? w _ this
theorem RdCs.at_ {S : Nat → Prop} {w : World} {b : Nat} : ∀ {l : List Ex} {off : Nat}, RdCs S w b off l → ∀ (k : Nat) (e : Ex), l[k]? = some e → ∃ A c, RdRow S w e.list A ∧ ∀ j, j < 5 → w.cell? ⟨b, off + k * 5 + j, none⟩ = (exA e A c)[j]?
  | [], off, h, k, e, hk => by simp at hk
  | a :: l, off, h, k, e, hk => by
    rw [RdCs] at h
    obtain ⟨⟨cs, h1, h2⟩, h3⟩ := h
    cases k with
    | zero =>
      simp only [List.getElem?_cons_zero, Option.some.injEq] at hk
      subst hk
      obtain ⟨A, c, h4, h5⟩ := RdE.row h1
      refine ⟨A, c, h5, fun j hj => ?_⟩
      have := h2 j hj
      rw [h4] at this
      simpa using this
    | succ k =>
      obtain ⟨A, c, h4, h5⟩ := RdCs.at_ h3 k e (by simpa using hk)
      refine ⟨A, c, h4, fun j hj => ?_⟩
      have := h5 j hj
      rwa [show off + (k + 1) * 5 + j = off + 5 + k * 5 + j from by omega]
theorem RdCs.snoc {S : Nat → Prop} {w : World} {b : Nat} : ∀ {l : List Ex} {off : Nat}, RdCs S w b off l → ∀ (e : Ex) (A : Option Addr) (c : Nat), RdRow S w e.list A → (∀ j, j < 5 → w.cell? ⟨b, off + l.length * 5 + j, none⟩ = (exA e A c)[j]?) → RdCs S w b off (l ++ [e])
  | [], off, h, e, A, c, hr, hc => by
    rw [List.nil_append, RdCs, RdCs]
    refine ⟨⟨_, RdE.of_row (c := c) hr, fun j hj => ?_⟩, trivial⟩
    have := hc j hj
    simpa using this
  | a :: l, off, h, e, A, c, hr, hc => by
    rw [RdCs] at h
    rw [List.cons_append, RdCs]
    refine ⟨h.1, RdCs.snoc h.2 e A c hr fun j hj => ?_⟩
    have := hc j hj
    rwa [List.length_cons, show off + (l.length + 1) * 5 + j = off + 5 + l.length * 5 + j from by omega] at this
theorem RdRow.keep {P S : Nat → Prop} {w w' : World} {l : List Ex} {A : Option Addr} (h : RdRow S w l A) (hk : Keep P w w') (hp : ∀ k, P k → ¬ S k) : RdRow S w' l A := by
  intro hne
  obtain ⟨b, off, h1, h2, h3⟩ := h hne
  exact ⟨b, off, h1, h2, RdCs.keep hk hp b h2 l off h3⟩
theorem RdRow.keepF {S : Nat → Prop} {w w' : World} {l : List Ex} {A : Option Addr} (h : RdRow S w l A) (hk : Keep (fun _ => False) w w') : RdRow S w' l A := h.keep hk (fun _ h => h.elim)
theorem RdRow.mono {S S' : Nat → Prop} {w : World} {l : List Ex} {A : Option Addr} (h : RdRow S w l A) (hs : ∀ k, k < w.heap.size → S k → S' k) : RdRow S' w l A := by
  intro hne
  obtain ⟨b, off, h1, h2, h3⟩ := h hne
  exact ⟨b, off, h1, hs b (h3.lt hne) h2, RdCs.mono hs b l off h3⟩
theorem RdRow.base {B B' : Nat} {w : World} {l : List Ex} {A : Option Addr} (h : RdRow (B ≤ ·) w l A) (hb : B' ≤ B) : RdRow (B' ≤ ·) w l A := h.mono fun k _ hk => Nat.le_trans hb hk
/-- A new block of one expression, and of two. -/
theorem RdRow.one {S : Nat → Prop} {w : World} {b t : Nat} {e : Ex} {A : Option Addr} {c : Nat} (hs : S b) (h : RdRow S w e.list A) (hb : Blk w b (exA e A c) t) : RdRow S w [e] (some ⟨b, 0, none⟩) := by
  intro _
  refine ⟨b, 0, rfl, hs, RdCs.snoc (l := []) (by rw [RdCs]; trivial) e A c h fun j hj => ?_⟩
  rw [hb.cell]; simp
theorem RdRow.two {S : Nat → Prop} {w : World} {b t : Nat} {e e' : Ex} {A A' : Option Addr} {c c' : Nat} (hs : S b) (h : RdRow S w e.list A) (h' : RdRow S w e'.list A') (hb : Blk w b (exA e A c ++ exA e' A' c') t) : RdRow S w [e, e'] (some ⟨b, 0, none⟩) := by
  intro _
  refine ⟨b, 0, rfl, hs, ?_⟩
  have h1 : RdCs S w b 0 [e] := RdCs.snoc (l := []) (by rw [RdCs]; trivial) e A c h fun j hj => by
    rw [hb.cell, Array.getElem?_append_left (by show 0 + 0 * 5 + j < 5; omega)]; simp
  refine RdCs.snoc (l := [e]) h1 e' A' c' h' fun j hj => ?_
  rw [hb.cell, Array.getElem?_append_right (by show 5 ≤ 0 + 1 * 5 + j; omega)]
  show (exA e' A' c')[0 + 1 * 5 + j - 5]? = _
  rw [show 0 + 1 * 5 + j - 5 = j from by omega]
theorem Blk.new' {W : World} {n : Nat} (h : n = W.heap.size) (cs : Array Value) (t : Nat) : Blk (W.alloc (.cells cs t)) n cs t := by subst h; exact Blk.new W cs t
end Go.Proofs.YtgmmjhelcpgakaaGreatDoor
/- Expressions of Pas, checked and printed, in plain words. -/
namespace Go.Proofs.YtgmmjhelcpgakaaGreatDoor
open Go.RowKit
set_option linter.unusedVariables false
set_option linter.unusedSimpArgs false

/-! ### names -/
def letW (c : UInt8) (first : Bool) : Bool := decide (97 ≤ c.toNat ∧ c.toNat ≤ 122) || (!first && (c == 95 || decide (48 ≤ c.toNat ∧ c.toNat ≤ 57)))
def lettersW (l : Bs) : Bool := (List.range l.length).all fun j => letW (l.getD j 0) (j == 0)
/-- What Check tells of a name. -/
def checkW (l : Bs) : Nat := if lettersW l = false then 11 else if l = [] then 11 else if 32 < l.length then 3 else 0
def nameOK (s : ByteArray) : Bool := checkW (bs s) == 0 && !isWord (bs s)

/-! ### how deep an expression is; 0: it isn't right -/
def deepS (ds : List Nat) : Nat := if 0 ∈ ds then 0 else if 48 ≤ ds.foldl max 0 then 0 else ds.foldl max 0 + 1
def okP (o n : Int) (nm f : ByteArray) : Bool :=
  if o = 1 then decide (0 ≤ n) else if o = 2 then decide (n = 0 ∨ n = 1) else if o = 3 then decide (0 ≤ n ∧ n ≤ 255) else if o = 4 ∨ o = 5 then nameOK nm else if o = 6 then nameOK nm && nameOK f else true
def wantP (o : Int) : Nat := if o = 5 ∨ o = 8 ∨ o = 9 then 1 else if 10 ≤ o ∧ o ≤ 24 then 2 else 0
def oddP (o n : Int) (nm f : ByteArray) (k : Nat) : Bool := decide (f ≠ eS ∧ o ≠ 6) || decide (nm ≠ eS ∧ ¬ (4 ≤ o ∧ o ≤ 7)) || decide (n ≠ 0 ∧ ¬ (1 ≤ o ∧ o ≤ 3)) || decide (512 < k)
def chkOf (o n : Int) (nm f : ByteArray) (ds : List Nat) : Nat :=
  if oddP o n nm f ds.length = true then 0
  else if o = 7 then (if nameOK nm = true then deepS ds else 0)
  else if o < 1 ∨ 24 < o then 0
  else if okP o n nm f = true ∧ ds.length = wantP o then deepS ds else 0
mutual
def chk : Ex → Nat
  | .mk o n nm f l => chkOf o n nm f (chks l)
def chks : List Ex → List Nat
  | [] => []
  | a :: l => chk a :: chks l
end
theorem chks_map : ∀ l : List Ex, chks l = l.map chk
  | [] => by rw [chks]; rfl
  | a :: l => by rw [chks, chks_map l]; rfl
theorem chk_eq (e : Ex) : chk e = chkOf e.op e.num e.name e.field (e.list.map chk) := by
  cases e; rw [chk, chks_map]; rfl

/-! ### its text, piece by piece, as it is put -/
abbrev Pc := List (List Bs)
def lvlP (o : Int) : Nat := if 19 ≤ o ∧ o ≤ 24 then 1 else if (15 ≤ o ∧ o ≤ 18) ∨ o = 8 then 2 else if 10 ≤ o ∧ o ≤ 14 then 3 else 4
def sgnP (o : Int) : ByteArray :=
  if o = 10 then ⟨#[32, 42, 32]⟩ else if o = 11 then ⟨#[32, 100, 105, 118, 32]⟩ else if o = 12 then ⟨#[32, 109, 111, 100, 32]⟩ else if o = 13 then ⟨#[32, 97, 110, 100, 32]⟩
  else if o = 14 then ⟨#[32, 97, 110, 100, 32, 116, 104, 101, 110, 32]⟩ else if o = 15 then ⟨#[32, 43, 32]⟩ else if o = 16 then ⟨#[32, 45, 32]⟩ else if o = 17 then ⟨#[32, 111, 114, 32]⟩
  else if o = 18 then ⟨#[32, 111, 114, 32, 101, 108, 115, 101, 32]⟩ else if o = 19 then ⟨#[32, 61, 32]⟩ else if o = 20 then ⟨#[32, 60, 62, 32]⟩ else if o = 21 then ⟨#[32, 60, 32]⟩
  else if o = 22 then ⟨#[32, 60, 61, 32]⟩ else if o = 23 then ⟨#[32, 62, 32]⟩ else ⟨#[32, 62, 61, 32]⟩
def charP (n : Int) : Bs := if n = 39 then [39, 39, 39, 39] else if 32 ≤ n ∧ n ≤ 126 then [39, UInt8.ofNat n.toNat, 39] else 35 :: Lib.itoa n
def atP (least : Nat) (o : Int) (p : Pc) : Pc := if lvlP o < least then [[[40]]] ++ p ++ [[[41]]] else p
def commaP : Bool → List Pc → Pc
  | _, [] => []
  | b, p :: l => (if b then [[[44, 32]]] else []) ++ p ++ commaP true l
def leftP (o : Int) : Nat := if lvlP o = 1 then 2 else lvlP o
def pcsOf (o n : Int) (nm f : ByteArray) (os : List Int) (ps : List Pc) : Pc :=
  if o = 1 then [[Lib.itoa n]]
  else if o = 2 then [[if n = 0 then bs wFalse else bs wTrue]]
  else if o = 3 then [[charP n]]
  else if o = 4 then [[bs nm]]
  else if o = 6 then [[bs nm, [46], bs f]]
  else if o = 5 then [[bs nm, [91]]] ++ ps.getD 0 [] ++ [[[93]]]
  else if o = 7 then [[bs nm, [40]]] ++ commaP false ps ++ [[[41]]]
  else if o = 8 then [[[45]]] ++ atP 3 (os.getD 0 0) (ps.getD 0 [])
  else if o = 9 then [[[110, 111, 116, 32]]] ++ atP 4 (os.getD 0 0) (ps.getD 0 [])
  else atP (leftP o) (os.getD 0 0) (ps.getD 0 []) ++ [[bs (sgnP o)]] ++ atP (lvlP o + 1) (os.getD 1 0) (ps.getD 1 [])
mutual
def pcs : Ex → Pc
  | .mk o n nm f l => pcsOf o n nm f (l.map Ex.op) (pcss l)
def pcss : List Ex → List Pc
  | [] => []
  | a :: l => pcs a :: pcss l
end
theorem pcss_map : ∀ l : List Ex, pcss l = l.map pcs
  | [] => by rw [pcss]; rfl
  | a :: l => by rw [pcss, pcss_map l]; rfl
theorem pcs_eq (e : Ex) : pcs e = pcsOf e.op e.num e.name e.field (e.list.map Ex.op) (e.list.map pcs) := by
  cases e; rw [pcs, pcss_map]; rfl

/-! ### what a sink has: its bytes, and whether there was no room -/
def sumL (ps : List Bs) : Nat := (ps.map List.length).sum
def putS (m : Nat) (st : Bs × Bool) (ps : List Bs) : Bs × Bool := if st.2 = true then st else if m - st.1.length < sumL ps then (st.1, true) else (st.1 ++ ps.flatten, false)
def putsS (m : Nat) (st : Bs × Bool) (p : Pc) : Bs × Bool := p.foldl (putS m) st
theorem putsS_append (m : Nat) (st : Bs × Bool) (p q : Pc) : putsS m st (p ++ q) = putsS m (putsS m st p) q := by unfold putsS; rw [List.foldl_append]
theorem putsS_one (m : Nat) (st : Bs × Bool) (ps : List Bs) : putsS m st [ps] = putS m st ps := rfl
theorem putsS_cons (m : Nat) (st : Bs × Bool) (ps : List Bs) (q : Pc) : putsS m st (ps :: q) = putsS m (putS m st ps) q := rfl
theorem sumL_flatten (ps : List Bs) : sumL ps = ps.flatten.length := by unfold sumL; rw [List.length_flatten]
theorem putS_le (m : Nat) (st : Bs × Bool) (ps : List Bs) (h : st.1.length ≤ m) : (putS m st ps).1.length ≤ m := by
  unfold putS
  split
  · exact h
  · split
    · exact h
    · rename_i h2
      have := sumL_flatten ps
      simp only [List.length_append]
      omega
theorem putsS_le (m : Nat) : ∀ (p : Pc) (st : Bs × Bool), st.1.length ≤ m → (putsS m st p).1.length ≤ m
  | [], st, h => h
  | ps :: q, st, h => by rw [putsS_cons]; exact putsS_le m q _ (putS_le m st ps h)
/-- What Print answers. -/
def printP (m : Nat) (e : Ex) : Bs × Nat := if chk e = 0 then ([], 1) else ((putsS m ([], false) (pcs e)).1, 0)
end Go.Proofs.YtgmmjhelcpgakaaGreatDoor
/- Trees of expressions in memory, with the room that their lists have. -/
namespace Go.Proofs.YtgmmjhelcpgakaaGreatDoor
open Go.RowKit
set_option linter.unusedVariables false
set_option linter.unusedSimpArgs false

mutual
/-- Five cells that hold an expression; all blocks behind it are in S. -/
def KdE (S : Nat → Prop) (w : World) : Ex → List Value → Prop
  | .mk o n s f l, cs => ∃ A c, cs = [.int .i64 o, .int .i64 n, .string s, .string f, .slice A l.length c] ∧ l.length ≤ c ∧ (l ≠ [] → ∃ b off, A = some ⟨b, off, none⟩ ∧ S b ∧ KdCs S w b off l)
/-- A row of them. -/
def KdCs (S : Nat → Prop) (w : World) (b : Nat) : Nat → List Ex → Prop
  | _, [] => True
  | off, a :: l => (∃ cs, KdE S w a cs ∧ ∀ j, j < 5 → w.cell? ⟨b, off + j, none⟩ = cs[j]?) ∧ KdCs S w b (off + 5) l
end
/-- The operands behind a slice's address. -/
def KdRow (S : Nat → Prop) (w : World) (l : List Ex) (A : Option Addr) : Prop := l ≠ [] → ∃ b off, A = some ⟨b, off, none⟩ ∧ S b ∧ KdCs S w b off l
theorem KdE.row {S : Nat → Prop} {w : World} {e : Ex} {cs : List Value} (h : KdE S w e cs) : ∃ A c, cs = (exA e A c).toList ∧ e.list.length ≤ c ∧ KdRow S w e.list A := by
  cases e with
  | mk o n s f l => rw [KdE] at h; obtain ⟨A, c, h1, h2, h3⟩ := h; exact ⟨A, c, h1, h2, h3⟩
theorem KdE.of_row {S : Nat → Prop} {w : World} {e : Ex} {A : Option Addr} {c : Nat} (hc : e.list.length ≤ c) (h : KdRow S w e.list A) : KdE S w e (exA e A c).toList := by
  cases e with
  | mk o n s f l => rw [KdE]; exact ⟨A, c, rfl, hc, h⟩
theorem KdRow.nil (S : Nat → Prop) (w : World) (A : Option Addr) : KdRow S w [] A := fun h => absurd rfl h
mutual
theorem KdE.keep {P S : Nat → Prop} {w w' : World} (hk : Keep P w w') (hp : ∀ k, P k → ¬ S k) : ∀ (e : Ex) (cs : List Value), KdE S w e cs → KdE S w' e cs
  | .mk o n s f l, cs, h => by
    rw [KdE] at h ⊢
    obtain ⟨A, c, h1, hcap, h2⟩ := h
    refine ⟨A, c, h1, hcap, fun hne => ?_⟩
    obtain ⟨b, off, h3, h4, h5⟩ := h2 hne
    exact ⟨b, off, h3, h4, KdCs.keep hk hp b h4 l off h5⟩
theorem KdCs.keep {P S : Nat → Prop} {w w' : World} (hk : Keep P w w') (hp : ∀ k, P k → ¬ S k) (b : Nat) (hb : S b) : ∀ (l : List Ex) (off : Nat), KdCs S w b off l → KdCs S w' b off l
  | [], off, _ => by rw [KdCs]; trivial
  | a :: l, off, h => by
    rw [KdCs] at h ⊢
    obtain ⟨⟨cs, h1, h2⟩, h3⟩ := h
    refine ⟨⟨cs, KdE.keep hk hp a cs h1, fun j hj => ?_⟩, KdCs.keep hk hp b hb l (off + 5) h3⟩
    have h4 := h2 j hj
    obtain ⟨A, c, h5, _, _⟩ := KdE.row h1
    have hlen : cs.length = 5 := by rw [h5]; rfl
    obtain ⟨v, hv⟩ : ∃ v, cs[j]? = some v := ⟨_, List.getElem?_eq_getElem (by rw [hlen]; exact hj)⟩
    rw [hv] at h4 ⊢
    exact hk.cell h4 (fun hpb => hp b hpb hb)
end
mutual
theorem KdE.mono {S S' : Nat → Prop} {w : World} (hs : ∀ k, k < w.heap.size → S k → S' k) : ∀ (e : Ex) (cs : List Value), KdE S w e cs → KdE S' w e cs
  | .mk o n s f l, cs, h => by
    rw [KdE] at h ⊢
    obtain ⟨A, c, h1, hcap, h2⟩ := h
    refine ⟨A, c, h1, hcap, fun hne => ?_⟩
    obtain ⟨b, off, h3, h4, h5⟩ := h2 hne
    have hlt : b < w.heap.size := by
      match l, hne, h5 with
      | a :: l, _, h5 =>
        rw [KdCs] at h5
        obtain ⟨⟨cs, h6, h7⟩, _⟩ := h5
        obtain ⟨A, c, h8, _, _⟩ := KdE.row h6
        have := h7 0 (by decide)
        rw [h8] at this
        exact World.block_lt_of_cell? w _ this
    exact ⟨b, off, h3, hs b hlt h4, KdCs.mono hs b l off h5⟩
theorem KdCs.mono {S S' : Nat → Prop} {w : World} (hs : ∀ k, k < w.heap.size → S k → S' k) (b : Nat) : ∀ (l : List Ex) (off : Nat), KdCs S w b off l → KdCs S' w b off l
  | [], off, _ => by rw [KdCs]; trivial
  | a :: l, off, h => by
    rw [KdCs] at h ⊢
    obtain ⟨⟨cs, h1, h2⟩, h3⟩ := h
    exact ⟨⟨cs, KdE.mono hs a cs h1, h2⟩, KdCs.mono hs b l (off + 5) h3⟩
end
theorem KdCs.lt {S : Nat → Prop} {w : World} {b : Nat} {l : List Ex} {off : Nat} (h : KdCs S w b off l) (hne : l ≠ []) : b < w.heap.size := by
  match l, hne, h with
  | a :: l, _, h5 =>
    rw [KdCs] at h5
    obtain ⟨⟨cs, h6, h7⟩, _⟩ := h5
    obtain ⟨A, c, h8, _, _⟩ := KdE.row h6
    have := h7 0 (by decide)
    rw [h8] at this
    exact World.block_lt_of_cell? w _ this
theorem KdCs.at_ {S : Nat → Prop} {w : World} {b : Nat} : ∀ {l : List Ex} {off : Nat}, KdCs S w b off l → ∀ (k : Nat) (e : Ex), l[k]? = some e → ∃ A c, e.list.length ≤ c ∧ KdRow S w e.list A ∧ ∀ j, j < 5 → w.cell? ⟨b, off + k * 5 + j, none⟩ = (exA e A c)[j]?
  | [], off, h, k, e, hk => by simp at hk
  | a :: l, off, h, k, e, hk => by
    rw [KdCs] at h
    obtain ⟨⟨cs, h1, h2⟩, h3⟩ := h
    cases k with
    | zero =>
      simp only [List.getElem?_cons_zero, Option.some.injEq] at hk
      subst hk
      obtain ⟨A, c, h4, hcap, h5⟩ := KdE.row h1
      refine ⟨A, c, hcap, h5, fun j hj => ?_⟩
      have := h2 j hj
      rw [h4] at this
      simpa using this
    | succ k =>
      obtain ⟨A, c, hcap, h4, h5⟩ := KdCs.at_ h3 k e (by simpa using hk)
      refine ⟨A, c, hcap, h4, fun j hj => ?_⟩
      have := h5 j hj
      rwa [show off + (k + 1) * 5 + j = off + 5 + k * 5 + j from by omega]
theorem KdCs.snoc {S : Nat → Prop} {w : World} {b : Nat} : ∀ {l : List Ex} {off : Nat}, KdCs S w b off l → ∀ (e : Ex) (A : Option Addr) (c : Nat), e.list.length ≤ c → KdRow S w e.list A → (∀ j, j < 5 → w.cell? ⟨b, off + l.length * 5 + j, none⟩ = (exA e A c)[j]?) → KdCs S w b off (l ++ [e])
  | [], off, h, e, A, c, hcap, hr, hc => by
    rw [List.nil_append, KdCs, KdCs]
    refine ⟨⟨_, KdE.of_row (c := c) hcap hr, fun j hj => ?_⟩, trivial⟩
    have := hc j hj
    simpa using this
  | a :: l, off, h, e, A, c, hcap, hr, hc => by
    rw [KdCs] at h
    rw [List.cons_append, KdCs]
    refine ⟨h.1, KdCs.snoc h.2 e A c hcap hr fun j hj => ?_⟩
    have := hc j hj
    rwa [List.length_cons, show off + (l.length + 1) * 5 + j = off + 5 + l.length * 5 + j from by omega] at this
theorem KdRow.keep {P S : Nat → Prop} {w w' : World} {l : List Ex} {A : Option Addr} (h : KdRow S w l A) (hk : Keep P w w') (hp : ∀ k, P k → ¬ S k) : KdRow S w' l A := by
  intro hne
  obtain ⟨b, off, h1, h2, h3⟩ := h hne
  exact ⟨b, off, h1, h2, KdCs.keep hk hp b h2 l off h3⟩
theorem KdRow.keepF {S : Nat → Prop} {w w' : World} {l : List Ex} {A : Option Addr} (h : KdRow S w l A) (hk : Keep (fun _ => False) w w') : KdRow S w' l A := h.keep hk (fun _ h => h.elim)
theorem KdRow.mono {S S' : Nat → Prop} {w : World} {l : List Ex} {A : Option Addr} (h : KdRow S w l A) (hs : ∀ k, k < w.heap.size → S k → S' k) : KdRow S' w l A := by
  intro hne
  obtain ⟨b, off, h1, h2, h3⟩ := h hne
  exact ⟨b, off, h1, hs b (h3.lt hne) h2, KdCs.mono hs b l off h3⟩
theorem KdRow.base {B B' : Nat} {w : World} {l : List Ex} {A : Option Addr} (h : KdRow (B ≤ ·) w l A) (hb : B' ≤ B) : KdRow (B' ≤ ·) w l A := h.mono fun k _ hk => Nat.le_trans hb hk
/-- A new block of one expression, and of two. -/
theorem KdRow.one {S : Nat → Prop} {w : World} {b t : Nat} {e : Ex} {A : Option Addr} {c : Nat} (hs : S b) (hcap : e.list.length ≤ c) (h : KdRow S w e.list A) (hb : Blk w b (exA e A c) t) : KdRow S w [e] (some ⟨b, 0, none⟩) := by
  intro _
  refine ⟨b, 0, rfl, hs, KdCs.snoc (l := []) (by rw [KdCs]; trivial) e A c hcap h fun j hj => ?_⟩
  rw [hb.cell]; simp
theorem KdRow.two {S : Nat → Prop} {w : World} {b t : Nat} {e e' : Ex} {A A' : Option Addr} {c c' : Nat} (hs : S b) (hcap : e.list.length ≤ c) (hcap' : e'.list.length ≤ c') (h : KdRow S w e.list A) (h' : KdRow S w e'.list A') (hb : Blk w b (exA e A c ++ exA e' A' c') t) : KdRow S w [e, e'] (some ⟨b, 0, none⟩) := by
  intro _
  refine ⟨b, 0, rfl, hs, ?_⟩
  have h1 : KdCs S w b 0 [e] := KdCs.snoc (l := []) (by rw [KdCs]; trivial) e A c hcap h fun j hj => by
    rw [hb.cell, Array.getElem?_append_left (by show 0 + 0 * 5 + j < 5; omega)]; simp
  refine KdCs.snoc (l := [e]) h1 e' A' c' hcap' h' fun j hj => ?_
  rw [hb.cell, Array.getElem?_append_right (by show 5 ≤ 0 + 1 * 5 + j; omega)]
  show (exA e' A' c')[0 + 1 * 5 + j - 5]? = _
  rw [show 0 + 1 * 5 + j - 5 = j from by omega]
mutual
theorem KdE.toR {S : Nat → Prop} {w : World} : ∀ (e : Ex) (cs : List Value), KdE S w e cs → RdE S w e cs
  | .mk o n s f l, cs, h => by
    rw [KdE] at h; rw [RdE]
    obtain ⟨A, c, h1, _, h2⟩ := h
    refine ⟨A, c, h1, fun hne => ?_⟩
    obtain ⟨b, off, h3, h4, h5⟩ := h2 hne
    exact ⟨b, off, h3, h4, KdCs.toR b l off h5⟩
theorem KdCs.toR {S : Nat → Prop} {w : World} (b : Nat) : ∀ (l : List Ex) (off : Nat), KdCs S w b off l → RdCs S w b off l
  | [], off, _ => by rw [RdCs]; trivial
  | a :: l, off, h => by
    rw [KdCs] at h; rw [RdCs]
    obtain ⟨⟨cs, h1, h2⟩, h3⟩ := h
    exact ⟨⟨cs, KdE.toR a cs h1, h2⟩, KdCs.toR b l (off + 5) h3⟩
end
theorem KdRow.toR {S : Nat → Prop} {w : World} {l : List Ex} {A : Option Addr} (h : KdRow S w l A) : RdRow S w l A := by
  intro hne
  obtain ⟨b, off, h1, h2, h3⟩ := h hne
  exact ⟨b, off, h1, h2, KdCs.toR b l off h3⟩
end Go.Proofs.YtgmmjhelcpgakaaGreatDoor
