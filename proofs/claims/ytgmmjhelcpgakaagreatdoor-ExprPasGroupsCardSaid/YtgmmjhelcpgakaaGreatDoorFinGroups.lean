/- The law ExprPasGroups: for every input it answers true, and the input reads behind the call as it read before: its row, and the card that ties the listed variables of Go's library to the program's text. Conditions: none beyond the row's own (the listed variables as the text lays them). -/
import Derived.Test.YtgmmjhelcpgakaaGreatDoorGA
import Derived.Test.YtgmmjhelcpgakaaGreatDoorGAl
import Derived.Test.YtgmmjhelcpgakaaGreatDoorGAm
import Derived.Test.YtgmmjhelcpgakaaGreatDoorGAz
import Derived.Outline
import Derived.Test.YtgmmjhelcpgakaaGreatDoorRows
import Derived.Lib.LaidU8
import Derived.ProofKit
import Derived.Test.YtgmmjhelcpgakaaGreatDoorCards
import Derived.Test.YtgmmjhelcpgakaaGreatDoorTie
import Derived.OpenShut
import Derived.ShutString
import Derived.SizedLaws
import Derived.LaidMore
import Derived.Lay
import Derived.LaidOnce
import Derived.Stop.Joined
import Derived.SevenTiedAt
/- The law ExprPasReads: the walk. -/
namespace Go.Proofs.YtgmmjhelcpgakaaGreatDoor
open Go.RowKit
set_option linter.unusedVariables false
set_option linter.unusedSimpArgs false

theorem readE_long (s : ByteArray) : longE (readE s).1 ≤ 512 := by
  have h0 : longE exNil ≤ 512 := by decide
  unfold readE
  split
  · exact h0
  · unfold parseAt
    cases hr : levAt (lexAll s).toks 0 with
    | bad c p => exact h0
    | ok e j =>
      unfold boundAt
      by_cases h1 : 512 < longE e
      · simp only [if_pos h1]; exact h0
      · by_cases h2 : 48 < deepE e
        · simp only [if_neg h1, if_pos h2]; exact h0
        · simp only [if_neg h1, if_neg h2]
          split
          · exact h0
          · show longE e ≤ 512; omega
set_option maxRecDepth 100000 in
set_option maxHeartbeats 4000000 in
theorem exprPasReads_any (s : ByteArray) (w : World) (hs : s.size ≤ 140737488351232) (hg : Glob w.heap.size w) :
    Calls Tryz.prog 3 #[.string s] w (TruePost w) := by
  have hu28 := Tryz.underlying30
  have hu26 := Tryz.underlying28
  have hu := Tryz.underlying25
  by_cases hbig : 70000 < s.size
  · have ht : decide ((70000 : Int) < (s.size : Int)) = true := by simp; omega
    have HAW := Lib.hid (awake8_any w hg)
    clear hg
    go_enter Tryz.func3, Tryz.ntmps3
    go_wp2_with fail
    refine HAW.out.mono ?_
    rintro e2 w2 ⟨rfl, hb⟩
    go_wp2_with fail
    go_ret
    exact ⟨rfl, hb⟩
  · have ht : decide ((70000 : Int) < (s.size : Int)) = false := by simp; omega
    have hlong := readE_long s
    have HRD := Lib.hid (exread_any s w hs hg)
    have HRF := Lib.hid (fun W => refread_any s W hs)
    obtain ⟨R, hR⟩ : ∃ R, R = readE s := ⟨_, rfl⟩
    rw [← hR] at HRD HRF hlong
    obtain ⟨x, code, pos⟩ := R
    have HG := Lib.hid hg; have HL := Lib.hid hlong
    clear hg hR hbig hlong
    go_enter Tryz.func3, Tryz.ntmps3
    go_wp2_with fail
    refine HRD.out.mono ?_
    rintro e1 w1 ⟨A1, c1, rfl, hr1, hk1⟩
    have HR1 := Lib.hid hr1; have HK1 := Lib.hid hk1
    clear hr1 hk1
    unfold exA diagA
    go_wp2_with fail
    refine (HRF.out _).mono ?_
    rintro e2 w2 ⟨A2, c2, rfl, hr2, hk2⟩
    have HR2 := Lib.hid hr2
    have hb1 := hk2.blk (((Blk.new w1 #[.int .i64 x.op, .int .i64 x.num, .string x.name, .string x.field, .slice A1 x.list.length c1] 25).alloc _)) (fun h => h)
    have hb2 := hk2.blk (Blk.new' (n := w1.heap.size + 1) (by simp) _ _) (fun h => h)
    have HK2 := Lib.hid ((((Keep.refl (fun _ => False) w1).alloc _).alloc _).trans hk2)
    have HB1 := Lib.hid hb1; have HB2 := Lib.hid hb2
    clear hr2 hk2
    have a1 := hb1.all5
    have a2 := hb2.all4
    have l1 := hb1.lt
    have l2 := hb2.lt
    clear hb1 hb2
    unfold exA diagA
    go_wp2_with fail
    have hk0 : ∀ a b : Obj, Keep (fun _ => False) w2 ((w2.alloc a).alloc b) := fun a b => ((Keep.refl _ _).alloc _).alloc _
    refine (same_any _ x (Nat.le_refl _) (by have := HL.out; omega) x A1 A2 c1 c2 _ _ _ ((HR1.out.keepF HK2.out).keepF (hk0 _ _)) (HR2.out.keepF (hk0 _ _))).mono ?_
    rintro e3 w3 ⟨rfl, hk3⟩
    rw [sameEx_refl]
    have hb2 := ((hk0 _ _).trans hk3).blk HB2.out (fun h => h)
    have hb4 := hk3.blk (Blk.new' (n := w2.heap.size + 1) (by simp) _ _) (fun h => h)
    have HK3 := Lib.hid (((HK1.out.trans HK2.out).trans (hk0 _ _)).trans hk3)
    clear a1 a2 l1 l2 hk3 hk0
    have a2 := hb2.all4
    have l2 := hb2.lt
    have a4 := hb4.all4
    have l4 := hb4.lt
    clear hb2 hb4
    go_wp2_with fail
    refine (awake8_any w3 (globW HG.out HK3.out)).mono ?_
    rintro e4 w4 ⟨rfl, hk4⟩
    have HK4 := Lib.hid (HK3.out.trans hk4)
    clear hk4
    go_wp2_with fail
    go_ret
    exact ⟨rfl, HK4.out⟩
end Go.Proofs.YtgmmjhelcpgakaaGreatDoor
/- The laws Groups and Whole, in plain words. -/
namespace Go.Proofs.YtgmmjhelcpgakaaGreatDoor
open Go.RowKit
set_option linter.unusedVariables false
set_option linter.unusedSimpArgs false

theorem tokOf_kind0 (l : Bs) (hl : 0 < l.length) (h : (tokOf l).err = 0) : (tokOf l).kind ≠ 0 := by
  unfold tokOf at *
  by_cases h1 : noteBegins l = true
  · rw [if_pos h1] at h ⊢
    by_cases h2 : (noteRead l).2.2 = 0
    · rw [if_pos h2]; show 6 ≠ 0; decide
    · rw [if_neg h2] at h; exact absurd h h2
  · rw [if_neg h1] at h ⊢
    match l, hl with
    | c :: r, hl =>
      unfold tokPlain at *
      simp only at h ⊢
      by_cases h1 : letterB c = true
      · rw [if_pos h1] at h ⊢
        unfold tokName at *
        by_cases h5 : spanLen nameB (c :: r) ≤ 32
        · rw [if_pos h5]; show (if _ then 2 else 1) ≠ 0; split <;> decide
        · rw [if_neg h5] at h; cases h
      rw [if_neg h1] at h ⊢
      by_cases h2 : digB c = true
      · rw [if_pos h2] at h ⊢
        unfold tokInt at *
        cases hn : numGo 0 ((c :: r).take (spanLen digB (c :: r))) with
        | none => rw [hn] at h; cases h
        | some n => show 3 ≠ 0; decide
      rw [if_neg h2] at h ⊢
      by_cases h3 : c = 39
      · rw [if_pos h3] at h ⊢
        unfold tokQuoted at *
        by_cases h1 : ([39, 39, 39, 39] : Bs).isPrefixOf (c :: r) = true
        · rw [if_pos h1]; show 4 ≠ 0; decide
        · rw [if_neg h1] at *
          match r, h with
          | d :: e :: q, h =>
            simp only at h ⊢
            by_cases h2 : plainB d = true ∧ e = 39
            · rw [if_pos h2]; show 4 ≠ 0; decide
            · rw [if_neg h2] at h; cases h
          | [], h => cases h
          | [_], h => cases h
      rw [if_neg h3] at h ⊢
      by_cases h4 : c = 35
      · rw [if_pos h4] at h ⊢
        unfold tokNumbered at *
        by_cases h1 : spanLen digB ((c :: r).drop 1) = 0 ∨ 3 < spanLen digB ((c :: r).drop 1)
        · rw [if_pos h1] at h; cases h
        · rw [if_neg h1] at *
          cases hn : numGo 0 (((c :: r).drop 1).take (spanLen digB ((c :: r).drop 1))) with
          | none => rw [hn] at h; cases h
          | some n =>
            rw [hn] at h
            simp only at h ⊢
            by_cases h3 : 255 < n
            · rw [if_pos h3] at h; cases h
            · rw [if_neg h3]; show 4 ≠ 0; decide
      rw [if_neg h4] at h ⊢
      unfold tokSign at *
      cases hg : signOf pasSigns (c :: r) with
      | none => rw [hg] at h; cases h
      | some g => show 5 ≠ 0; decide
theorem lexB_kinds : ∀ (f : Nat) (l : Bs) (p : Nat) (acc : List TokL), l.length < f → (∀ t ∈ acc, t.kind ≠ 0) → (lexB f l p acc).code = 0 → ∃ ts, (lexB f l p acc).toks = ts ++ [bareEnd] ∧ ∀ t ∈ ts, t.kind ≠ 0
  | 0, _, _, _, h, _, _ => by omega
  | f + 1, l, p, acc, hf, ha, h0 => by
    rw [lexB_succ] at h0 ⊢
    by_cases h1 : spanLen blankB l < l.length
    · rw [if_pos h1] at h0 ⊢
      by_cases h2 : (tokOf (l.drop (spanLen blankB l))).err = 0
      · rw [if_pos h2] at h0 ⊢
        obtain ⟨l1, l2⟩ := tokOf_len (l.drop (spanLen blankB l)) (by rw [List.length_drop]; omega) h2
        rw [List.length_drop] at l2
        refine lexB_kinds f _ _ _ (by rw [List.length_drop]; omega) (fun t ht => ?_) h0
        rcases List.mem_append.1 ht with h3 | h3
        · exact ha t h3
        · obtain rfl := List.mem_singleton.1 h3
          exact tokOf_kind0 _ (by rw [List.length_drop]; omega) h2
      · rw [if_neg h2] at h0; exact absurd h0 h2
    · rw [if_neg h1] at h0 ⊢
      exact ⟨acc, rfl, ha⟩
theorem lex_size (s : ByteArray) (h0 : (lexAll s).code = 0) : s.size ≤ 65536 := by
  rcases Nat.lt_or_ge 65536 s.size with h | h
  · unfold lexAll at h0; rw [if_pos h] at h0; cases h0
  · exact h
theorem lexAll_kinds (s : ByteArray) (h0 : (lexAll s).code = 0) : ∃ ts, (lexAll s).toks.map bare = ts ++ [bareEnd] ∧ ∀ t ∈ ts, t.kind ≠ 0 := by
  have lb := lexAll_bare s (lex_size s h0)
  obtain ⟨ts, h1, h2⟩ := lexB_kinds (s.size + 1) (bs s) 0 [] (by rw [bs_len]; omega) (fun _ h => by cases h) (by rw [← lb.code]; exact h0)
  exact ⟨ts, by rw [lb.toks, h1], h2⟩
theorem bare_kind {l : List TokL} {L : List TokL} (h : l.map bare = L) (i : Nat) (t : TokL) (ht : L[i]? = some t) : LikeT (tk l i) t := by
  subst h
  rw [List.getElem?_map] at ht
  cases h2 : l[i]? with
  | none => rw [h2] at ht; cases ht
  | some u => rw [h2] at ht; cases ht; rw [tk_in h2]; exact ⟨rfl, rfl, rfl⟩
/-- An expression that is read to the end has all tokens but the end. -/
theorem dv_end {l : List TokL} {ts : List TokL} (hl : l.map bare = ts ++ [bareEnd]) (hk : ∀ t ∈ ts, t.kind ≠ 0) {e : Ex} {j : Nat} (h : Dv l (.lev 1) 0 e j) (hj : (tk l j).kind = 0) : j = ts.length := by
  rcases Nat.lt_trichotomy j ts.length with h1 | h1 | h1
  · have h2 := bare_kind hl j ts[j] (by rw [List.getElem?_append_left h1, List.getElem?_eq_getElem h1])
    rw [h2.1] at hj
    exact absurd hj (hk _ (List.getElem_mem h1))
  · exact h1
  · have h2 := bare_kind hl ts.length bareEnd (by rw [List.getElem?_append_right (Nat.le_refl _)]; simp)
    exact absurd h2.1 (h.kinds ts.length (Nat.zero_le _) h1)
theorem stop_end {t : TokL} (h : t.kind = 0) : StopT t := by
  rintro ⟨h1 | h1, _⟩ <;> rw [h1] at h <;> cases h
theorem lex_open : (lexAll ⟨#[40]⟩).code = 0 ∧ (lexAll ⟨#[40]⟩).toks.map bare = [⟨5, gOpen, 0, false, (0, 0, 0)⟩, bareEnd] := ⟨by decide, by rfl⟩
theorem lex_close : (lexAll ⟨#[41]⟩).code = 0 ∧ (lexAll ⟨#[41]⟩).toks.map bare = [⟨5, gClose, 0, false, (0, 0, 0)⟩, bareEnd] := ⟨by decide, by rfl⟩
theorem lex_star : (lexAll ⟨#[42]⟩).code = 0 ∧ (lexAll ⟨#[42]⟩).toks.map bare = [⟨5, gStar, 0, false, (0, 0, 0)⟩, bareEnd] := ⟨by decide, by rfl⟩
def ReadsAs (s : ByteArray) (e : Ex) : Prop := (readE s).2.1 = 0 ∧ (readE s).1 = e
/-- A pair of brackets around all of it. -/
theorem group_one (s u : ByteArray) (e : Ex) (hu : bs u = [40, 32] ++ bs s ++ [32, 41]) (hz : u.size ≤ 65536) (h : ReadsAs s e) : ReadsAs u e := by
  obtain ⟨h0, hlo, hde, j, hd, hj⟩ := (readE_iff s e).1 h
  obtain ⟨ts, e1, e2⟩ := lexAll_kinds s h0
  have hjl := dv_end e1 e2 hd hj
  have hus : u.size = s.size + 4 := by rw [← bs_len, hu]; simp [bs_len]
  obtain ⟨v, hv⟩ : ∃ v : ByteArray, bs v = bs (⟨#[40]⟩ : ByteArray) ++ 32 :: bs s := ⟨⟨([40, 32] ++ bs s).toArray⟩, by simp [bs]⟩
  have hvs : v.size = s.size + 2 := by rw [← bs_len, hv, List.length_append, List.length_cons, bs_len, bs_len]; show 1 + _ = _ <;> omega
  obtain ⟨a, a1, a2, a3⟩ := joins' ⟨#[40]⟩ s v hv (by omega) lex_open.1 h0
  obtain ⟨b, b1, b2, b3⟩ := joins' v ⟨#[41]⟩ u (by rw [hv, hu]; simp [bs]) hz a2 lex_close.1
  rw [lex_open.2] at a1
  obtain rfl : a = [⟨5, gOpen, 0, false, (0, 0, 0)⟩] := (List.append_inj' (show [⟨5, gOpen, 0, false, (0, 0, 0)⟩] ++ [bareEnd] = a ++ [bareEnd] from a1) rfl).1.symm
  rw [a3, e1, ← List.append_assoc] at b1
  have hb : [⟨5, gOpen, 0, false, (0, 0, 0)⟩] ++ ts = b := (List.append_inj' b1 rfl).1
  rw [← hb, lex_close.2] at b3
  have gt : ∀ k t, ts[k]? = some t → LikeT (tk (lexAll s).toks k) t := fun k t ht => bare_kind e1 k t (by rw [List.getElem?_append_left (List.getElem?_eq_some_iff.1 ht).1]; exact ht)
  have gu : ∀ k t, ts[k]? = some t → LikeT (tk (lexAll u).toks (k + 1)) t := fun k t ht => bare_kind b3 (k + 1) t (by simp [List.getElem?_append_left (List.getElem?_eq_some_iff.1 ht).1, ht])
  have g0 : LikeT (tk (lexAll u).toks 0) ⟨5, gOpen, 0, false, (0, 0, 0)⟩ := bare_kind b3 0 _ rfl
  have g1 : LikeT (tk (lexAll u).toks (j + 1)) ⟨5, gClose, 0, false, (0, 0, 0)⟩ := bare_kind b3 (j + 1) _ (by subst hjl; simp)
  have g2 : LikeT (tk (lexAll u).toks (j + 2)) bareEnd := bare_kind b3 (j + 2) _ (by subst hjl; simp [List.getElem?_append_right])
  have win : Win (lexAll s).toks (lexAll u).toks 1 0 j := by
    refine ⟨fun k _ hk => ?_, .inr ⟨stop_end hj, ?_⟩⟩
    · obtain ⟨t, ht⟩ : ∃ t, ts[k]? = some t := ⟨_, List.getElem?_eq_getElem (by omega)⟩
      have x1 := gt k t ht
      have x2 := gu k t ht
      exact ⟨x1.1.trans x2.1.symm, x1.2.1.trans x2.2.1.symm, x1.2.2.trans x2.2.2.symm⟩
    · rintro ⟨_, h2⟩
      rw [g1.2.1] at h2
      simp only [List.mem_cons, List.not_mem_nil, or_false] at h2
      rcases h2 with h2 | h2 | h2 | h2 | h2 | h2 | h2 | h2 | h2 | h2 | h2 | h2 | h2 | h2 | h2 | h2 <;> exact absurd h2 (by decide)
  have hw := hd.win win
  have i0 : ∀ s, isT (lexAll u).toks 0 s = decide (gOpen = s) := fun s => by unfold isT; rw [g0.1, g0.2.1]; rfl
  have i1 : isT (lexAll u).toks (j + 1) gClose = true := by unfold isT; rw [g1.1, g1.2.1]; decide
  have st : StopT (tk (lexAll u).toks (j + 2)) := stop_end g2.1
  have d4 : Dv (lexAll u).toks (.lev 4) 0 e (j + 2) := .lev4 (.paren (by rw [i0]; decide) hw i1)
  have d3 : Dv (lexAll u).toks (.lev 3) 0 e (j + 2) := .lev (by decide) (by rw [i0]; decide) d4 (.levL0 (st.sign 3))
  have d2 : Dv (lexAll u).toks (.lev 2) 0 e (j + 2) := .lev (by decide) (by rw [i0]; decide) d3 (.levL0 (st.sign 2))
  have d1 : Dv (lexAll u).toks (.lev 1) 0 e (j + 2) := .lev (by decide) (by rw [i0]; decide) d2 (.levL0 (st.sign 1))
  exact (readE_iff u e).2 ⟨b2, hlo, hde, j + 2, d1, g2.1⟩
/-- What ends with a sign of two operands is none. -/
theorem whole_one (s u : ByteArray) (hu : bs u = bs s ++ [32, 42]) (hz : u.size ≤ 65536) (h0 : (lexAll s).code = 0) : (readE u).2.1 ≠ 0 := by
  intro hc
  obtain ⟨hl, _, _, j, hd, hj⟩ := (readE_iff u (readE u).1).1 ⟨hc, rfl⟩
  obtain ⟨ts, e1, e2⟩ := lexAll_kinds s h0
  obtain ⟨us, f1, f2⟩ := lexAll_kinds u hl
  obtain ⟨a, a1, a2, a3⟩ := joins' s ⟨#[42]⟩ u (by rw [hu]; simp [bs]) hz h0 lex_star.1
  rw [lex_star.2] at a3
  have hus : us = a ++ [⟨5, gStar, 0, false, (0, 0, 0)⟩] := by
    rw [f1, show a ++ [(⟨5, gStar, 0, false, (0, 0, 0)⟩ : TokL), bareEnd] = (a ++ [⟨5, gStar, 0, false, (0, 0, 0)⟩]) ++ [bareEnd] from by simp] at a3
    exact (List.append_inj' a3 rfl).1
  have hjl := dv_end f1 f2 hd hj
  rw [hus, List.length_append, List.length_singleton] at hjl
  have := hd.star (by omega)
  have g : LikeT (tk (lexAll u).toks (j - 1)) ⟨5, gStar, 0, false, (0, 0, 0)⟩ := bare_kind a3 (j - 1) _ (by rw [hjl]; simp)
  unfold isT at this
  rw [g.1, g.2.1] at this
  exact absurd this (by decide)
/-- A text up to one of its tokens has tokens. -/
theorem cut_ok (s : ByteArray) (h0 : (lexAll s).code = 0) (k : Nat) (t : TokL) (ht : (lexAll s).toks[k]? = some t) (v : ByteArray) (hv : bs v = (bs s).take t.pos.1) : t.pos.1 ≤ s.size ∧ (lexAll v).code = 0 := by
  have hs := lex_size s h0
  have hc : (lexAll s).toks.map (·.pos.1) = (cuts (s.size + 1) (bs s)) := by
    unfold lexAll at h0 ⊢
    rw [if_neg (by omega)] at h0 ⊢
    have := lexGo_cuts s _ 0 _ [] (bs s) (Nat.zero_le _) rfl h0 (by omega)
    simpa using this
  have hm : t.pos.1 ∈ cuts (s.size + 1) (bs s) := by
    rw [← hc]; exact List.mem_map.2 ⟨t, List.mem_of_getElem? ht, rfl⟩
  have hle := cuts_le _ _ _ hm
  rw [bs_len] at hle
  have hvs : v.size = t.pos.1 := by rw [← bs_len, hv, List.length_take, bs_len]; omega
  have lb := lexAll_bare v (by omega)
  refine ⟨hle, ?_⟩
  rw [lb.code, hv]
  exact lexB_cut _ _ _ hm _ _ _ (by omega)
end Go.Proofs.YtgmmjhelcpgakaaGreatDoor
/- The law ExprPasGroups: the walk. -/
namespace Go.Proofs.YtgmmjhelcpgakaaGreatDoor
open Go.RowKit
set_option linter.unusedVariables false
set_option linter.unusedSimpArgs false

def wrapS : Nat → Bs → Bs
  | 0, l => l
  | i + 1, l => [40, 32] ++ wrapS i l ++ [32, 41]
theorem wrapS_len : ∀ (i : Nat) (l : Bs), (wrapS i l).length = l.length + 4 * i
  | 0, l => rfl
  | i + 1, l => by simp [wrapS, wrapS_len i l]; omega
theorem groups_all (s : ByteArray) (e : Ex) (h : ReadsAs s e) : ∀ (i : Nat) (T : ByteArray), bs T = wrapS i (bs s) → s.size + 4 * i ≤ 65536 → ReadsAs T e
  | 0, T, hT, _ => by rw [byteArray_ext hT]; exact h
  | i + 1, T, hT, hz => by
    have h1 := groups_all s e h i ⟨(wrapS i (bs s)).toArray⟩ (bs_mk _) (by omega)
    refine group_one _ T e ?_ ?_ h1
    · rw [hT, bs_mk]; rfl
    · rw [← bs_len, hT, wrapS_len, bs_len]; exact hz
set_option maxRecDepth 100000 in
set_option maxHeartbeats 4000000 in
theorem exprPasGroups_any (s : ByteArray) (n : Nat) (w : World) (hs : s.size ≤ 140737488351232) (hn : n < 256) (hg : Glob w.heap.size w) :
    Calls Tryz.prog 7 #[.string s, .int .u8 n] w (TruePost w) := by
  have hu28 := Tryz.underlying30
  have hu26 := Tryz.underlying28
  have hu := Tryz.underlying25
  by_cases hbig : 5000 < s.size
  · have ht : decide ((5000 : Int) < (s.size : Int)) = true := by simp; omega
    have HAW := Lib.hid (awake8_any w hg)
    clear hg
    go_enter Tryz.func7, Tryz.ntmps7
    go_wp2_with fail
    refine HAW.out.mono ?_
    rintro e2 w2 ⟨rfl, hb⟩
    go_wp2_with fail
    go_ret
    exact ⟨rfl, hb⟩
  · have ht : decide ((5000 : Int) < (s.size : Int)) = false := by simp; omega
    have hsm : s.size ≤ 5000 := by omega
    have hlong := readE_long s
    have HRD := Lib.hid (exread_any s w hs hg)
    have HGA := Lib.hid (fun (h : (readE s).2.1 = 0) => groups_all s _ ⟨h, rfl⟩)
    obtain ⟨R, hR⟩ : ∃ R, R = readE s := ⟨_, rfl⟩
    rw [← hR] at HRD hlong HGA
    obtain ⟨x, code, pos⟩ := R
    have HG := Lib.hid hg; have HL := Lib.hid hlong
    clear hg hR hbig hlong
    have hn0 : (0 : Int) ≤ (n : Int) := by omega
    have hn1 : (n : Int) ≤ 255 := by omega
    go_enter Tryz.func7, Tryz.ntmps7
    go_wp2_with fail
    refine HRD.out.mono ?_
    rintro e1 w1 ⟨A1, c1, rfl, hr1, hk1⟩
    have HR1 := Lib.hid hr1; have HK1 := Lib.hid hk1
    clear hr1 hk1
    unfold exA diagA
    go_wp2_with fail
    obtain ⟨W, hW⟩ : ∃ W, W = (w1.alloc (.cells #[.int .i64 x.op, .int .i64 x.num, .string x.name, .string x.field, .slice A1 x.list.length c1] 25)).alloc (.cells #[.int .i64 code, .int .i64 pos.1, .int .i64 pos.2.1, .int .i64 pos.2.2] 30) := ⟨_, rfl⟩
    rw [← hW]
    have HB1 := Lib.hid (show Blk W w1.heap.size #[.int .i64 x.op, .int .i64 x.num, .string x.name, .string x.field, .slice A1 x.list.length c1] 25 by rw [hW]; exact (Blk.new w1 _ _).alloc _)
    have HB2 := Lib.hid (show Blk W (w1.heap.size + 1) #[.int .i64 code, .int .i64 pos.1, .int .i64 pos.2.1, .int .i64 pos.2.2] 30 by rw [hW]; exact Blk.new' (by simp) _ _)
    have HKW := Lib.hid (show Keep (fun _ => False) w1 W by rw [hW]; exact ((Keep.refl _ _).alloc _).alloc _)
    clear hW
    have hm9 : n % 9 < 9 := Nat.mod_lt _ (by decide)
    go_loopw [7, 8] (fun t i wr => ∃ (k : Nat) (T : ByteArray), k ≤ n % 9 ∧ i = .int .i64 k ∧ t = .string T ∧ T.size = s.size + 4 * k ∧ Hid (bs T = wrapS k (bs s)) ∧ Keep (fun _ => False) W wr) (fun _ i _ => n % 9 - (intOf i).toNat)
    case atStart => exact ⟨0, s, Nat.zero_le _, rfl, rfl, rfl, Lib.hid rfl, Keep.refl _ _⟩
    case round =>
      obtain ⟨k, T, hk, rfl, rfl, hTz, HT, hkp⟩ := hrel
      have HKP := Lib.hid hkp; clear hkp
      by_cases hlt : k < n % 9
      · have hs1 : ∀ V : World, (Op.stringOp .add ⟨#[40, 32]⟩ T).run Tryz.prog V = .ok (.string (⟨#[40, 32]⟩ ++ T)) V := fun V => run_string_add_sum (P := Tryz.prog) V ⟨#[40, 32]⟩ T (by show 2 + T.size ≤ 9223372036854775807; omega)
        have hz2 : (⟨#[40, 32]⟩ ++ T : ByteArray).size = 2 + T.size := ByteArray.size_append
        have hs2 : ∀ V : World, (Op.stringOp .add (⟨#[40, 32]⟩ ++ T) ⟨#[32, 41]⟩).run Tryz.prog V = .ok (.string (⟨#[40, 32]⟩ ++ T ++ ⟨#[32, 41]⟩)) V := fun V => run_string_add_sum (P := Tryz.prog) V (⟨#[40, 32]⟩ ++ T) ⟨#[32, 41]⟩ (by rw [hz2]; show 2 + T.size + 2 ≤ 9223372036854775807; omega)
        go_wp2_with fail
        refine ⟨⟨k + 1, _, by omega, by go_num, rfl, ?_, Lib.hid ?_, HKP.out⟩, by simp [intOf]; omega⟩
        · rw [ByteArray.size_append, hz2, hTz]; show 2 + _ + 2 = _; omega
        · have hd : bs (⟨#[40, 32]⟩ ++ T ++ ⟨#[32, 41]⟩) = [40, 32] ++ bs T ++ [32, 41] := by simp [bs]
          rw [hd, HT.out]; rfl
      · obtain rfl : k = n % 9 := by omega
        have hTs : T.size ≤ 140737488351232 := by omega
        have HRT := Lib.hid (fun V h => exread_any T V hTs h)
        have hlong2 := readE_long T
        have HGT := Lib.hid (fun (hc : code = 0) => HGA.out hc _ T HT.out (by omega))
        obtain ⟨R2, hR2⟩ : ∃ R2, R2 = readE T := ⟨_, rfl⟩
        unfold ReadsAs at HGT
        rw [← hR2] at HRT HGT hlong2
        obtain ⟨x2, code2, pos2⟩ := R2
        have HL2 := Lib.hid hlong2
        clear hR2 hlong2
        go_wp2_with fail
        refine (HRT.out _ (globW HG.out ((HK1.out.trans HKW.out).trans HKP.out))).mono ?_
        rintro e3 w3 ⟨A2, c2, rfl, hr3, hk3⟩
        have HR3 := Lib.hid hr3
        have HK3 := Lib.hid (HKP.out.trans hk3)
        clear hr3 hk3
        have b1 := HK3.out.blk HB1.out (fun h => h)
        have b2 := HK3.out.blk HB2.out (fun h => h)
        have HB1' := Lib.hid b1; have HB2' := Lib.hid b2
        have a1 := b1.all5
        have a2 := b2.all4
        have l1 := b1.lt
        have l2 := b2.lt
        clear b1 b2
        unfold exA diagA
        by_cases hc : code = 0
        · obtain ⟨e1, e2⟩ := HGT.out hc
          subst hc
          subst e1
          subst e2
          go_wp2_with fail
          have hk0 : ∀ a b : Obj, Keep (fun _ => False) w3 ((w3.alloc a).alloc b) := fun a b => ((Keep.refl _ _).alloc _).alloc _
          refine (same_any _ x2 (Nat.le_refl _) (by have := HL.out; omega) x2 A1 A2 c1 c2 _ _ _ ((((HR1.out.keepF HKW.out).keepF HK3.out).keepF (hk0 _ _))) (HR3.out.keepF (hk0 _ _))).mono ?_
          rintro e4 w4 ⟨rfl, hk4⟩
          rw [sameEx_refl]
          have HK4 := Lib.hid ((((HK1.out.trans HKW.out).trans HK3.out).trans (hk0 _ _)).trans hk4)
          clear hk4 hk0 a1 a2 l1 l2
          go_wp2_with fail
          refine (awake8_any w4 (globW HG.out HK4.out)).mono ?_
          rintro e5 w5 ⟨rfl, hk5⟩
          have HK5 := Lib.hid (HK4.out.trans hk5)
          clear hk5
          go_wp2_with fail
          go_ret
          exact ⟨rfl, HK5.out⟩
        · have hc1 : ((code : Int) == 0) = false := by rw [beq_eq_false_iff_ne]; omega
          have hc2 : (code == 0) = false := by rw [beq_eq_false_iff_ne]; exact hc
          have hc3 : ¬ (code : Int) = 0 := by omega
          clear HGT
          go_wp2_with fail
          have hk0 : ∀ a b : Obj, Keep (fun _ => False) w3 ((w3.alloc a).alloc b) := fun a b => ((Keep.refl _ _).alloc _).alloc _
          refine (awake8_any _ (globW HG.out (((HK1.out.trans HKW.out).trans HK3.out).trans (hk0 _ _)))).mono ?_
          rintro e5 w5 ⟨rfl, hk5⟩
          have HK5 := Lib.hid ((((HK1.out.trans HKW.out).trans HK3.out).trans (hk0 _ _)).trans hk5)
          clear hk5 hk0 a1 a2 l1 l2
          go_wp2_with fail
          go_ret
          exact ⟨rfl, HK5.out⟩
end Go.Proofs.YtgmmjhelcpgakaaGreatDoor
/- What the rows list gives the walks: the library's variables as they are laid. -/
namespace Go.Proofs.YtgmmjhelcpgakaaGreatDoor
open Go.RowKit
set_option linter.unusedVariables false
set_option linter.unusedSimpArgs false

theorem tab_of_reads {W : World} {name : String} {k : IntKind} {zs : List Int} {g : Nat} {t e : TypeId} {n : Nat}
    (hg : Tryz.prog.globalNamed name = some g) (hty : (Tryz.prog.globals[g]?).map (·.type) = some t) (ht : Tryz.prog.underlying t = some (.array n e)) (he : Tryz.prog.underlying e = some (.int k)) (hce : Tryz.prog.cellsOf e = 1) (hct : Tryz.prog.cellsOf t = n)
    (h : Lib.VarReads Tryz.prog W name (Lib.tabData k zs)) : Lib.TabIs Tryz.prog W name k zs := by
  obtain ⟨g', t', cs, fuel, p, hg', ht', hvar, hd⟩ := h
  obtain rfl := Option.some.inj (hg.symm.trans hg')
  obtain rfl := Option.some.inj (hty.symm.trans ht')
  unfold Lib.TabIs
  rw [hvar, ← Lib.cells_of_tab ht he hce hct hd]
theorem err_of_reads {W : World} {name : String} {d : DataW Unit} {g : Nat} {t : TypeId} {ms : Array (String × TypeId)}
    (hg : Tryz.prog.globalNamed name = some g) (hty : (Tryz.prog.globals[g]?).map (·.type) = some t) (ht : Tryz.prog.underlying t = some (.interface ms)) (h : Lib.VarReads Tryz.prog W name d) :
    ∃ ev, W.cell? ⟨g, 0, none⟩ = some ev ∧ (ev = .nilIface ∨ ∃ te pe, ev = .iface te pe) := by
  obtain ⟨g', t', cs, fuel, p, hg', ht', hvar, hd⟩ := h
  obtain rfl := Option.some.inj (hg.symm.trans hg')
  obtain rfl := Option.some.inj (hty.symm.trans ht')
  have hc := World.var?_cell hg hvar 0
  cases fuel with
  | zero => simp [DataW.trod] at hd
  | succ fuel =>
    unfold DataW.trod at hd
    simp only [ht] at hd
    split at hd
    all_goals first
      | (rename_i h1 h2; cases h1; done)
      | (rename_i h1 h2; exact ⟨.nilIface, by rw [hc, ← Array.getElem?_toList, h2]; rfl, .inl rfl⟩)
      | (rename_i h1 h2; exact ⟨_, by rw [hc, ← Array.getElem?_toList, h2]; rfl, .inr ⟨_, _, rfl⟩⟩)
      | (cases hd; done)
      | (rename_i h1; cases h1; done)
theorem globNamed3 : Tryz.prog.globalNamed "strconv.ErrSyntax" = some 3 := by kernel_rfl
theorem globNamed4 : Tryz.prog.globalNamed "strconv.ErrRange" = some 4 := by kernel_rfl
theorem space_data : (Rows.laid_strings_asciiSpace : DataW Unit) = Lib.tabData .u8 Lib.asciiSpaceTab := by kernel_rfl
theorem pow_data : (Rows.laid_internal_strconv_uint64pow10 : DataW Unit) = Lib.tabData .u64 Lib.pow10Tab := by kernel_rfl
theorem globTypes : (Tryz.prog.globals[5]?).map (·.type) = some 240 := by kernel_rfl
theorem glob_of_laid {W : World} {L : List (String × DataW Unit)} (h : laidMet Tryz.prog L W)
    (m1 : ("strings.asciiSpace", (Rows.laid_strings_asciiSpace : DataW Unit)) ∈ L) (m2 : ("internal/strconv.uint64pow10", (Rows.laid_internal_strconv_uint64pow10 : DataW Unit)) ∈ L)
    (m3 : ("strconv.ErrSyntax", (Rows.laid_strconv_ErrSyntax : DataW Unit)) ∈ L) (m4 : ("strconv.ErrRange", (Rows.laid_strconv_ErrRange : DataW Unit)) ∈ L) : Glob W.heap.size W := by
  have r1 := Lib.laidMet.reads h m1
  have r2 := Lib.laidMet.reads h m2
  rw [space_data] at r1
  rw [pow_data] at r2
  have t1 := tab_of_reads globNamed1 globTypes Tryz.underlying240 Tryz.underlying5 (by kernel_rfl) (by kernel_rfl) r1
  have t2 := tab_of_reads globNamed2 (show (Tryz.prog.globals[1]?).map (·.type) = some 223 by kernel_rfl) Tryz.underlying223 Tryz.underlying162 (by kernel_rfl) (by kernel_rfl) r2
  obtain ⟨e3, c3, f3⟩ := err_of_reads globNamed3 (show (Tryz.prog.globals[3]?).map (·.type) = some 154 by kernel_rfl) Tryz.underlying154 (Lib.laidMet.reads h m3)
  obtain ⟨e4, c4, f4⟩ := err_of_reads globNamed4 (show (Tryz.prog.globals[4]?).map (·.type) = some 154 by kernel_rfl) Tryz.underlying154 (Lib.laidMet.reads h m4)
  have lt_of : ∀ (n : String) (g : Nat), Tryz.prog.globalNamed n = some g → (W.var? Tryz.prog n).isSome = true → g < W.heap.size := by
    intro n g hn hs
    simp only [World.var?, hn, Option.bind_some] at hs
    rcases Nat.lt_or_ge g W.heap.size with h' | h'
    · exact h'
    · rw [Array.getElem?_eq_none h'] at hs; simp at hs
  refine ⟨t1, t2, ⟨e3, c3, f3⟩, ⟨e4, c4, f4⟩, lt_of _ _ globNamed1 (by rw [t1]; rfl), lt_of _ _ globNamed2 (by rw [t2]; rfl), World.block_lt_of_cell? W _ c3, World.block_lt_of_cell? W _ c4⟩
end Go.Proofs.YtgmmjhelcpgakaaGreatDoor
namespace Go.Proofs.YtgmmjhelcpgakaaGreatDoor.exprPasGroups
open Go.ChangeShapes Go.WideShapes Go.ChangeAt Go.RowKit Go.Lib
open Go.ChangeMaps (open_string shut_string)
set_option linter.unusedVariables false

theorem own : ownKnob Tryz.prog.godebug = none := by kernel_rfl
set_option maxRecDepth 100000 in
theorem lifted (os : Os) (started : os.Started) (H : Type) (enc : TypeId × Value → H) :
    ReturnsInHanded {} Tryz.checked os 7 .any (fun w args => (Rows.exprPasGroupsSpec.pre enc Tryz.prog Tryz.f7 [] false w args ∧ laidMetH Tryz.prog Rows.exprPasGroupsRow.laid w) ∧ sizedMet enc Tryz.prog Tryz.f7 (OpenSpec.ofChange Rows.exprPasGroupsSpec) false w args)
      (Rows.exprPasGroupsSpec.post enc Tryz.prog Tryz.f7 false true false false) := by
  refine returnsInHanded_of_change_and (C := Tryz.checked) (X := fun w _ => laidMetH Tryz.prog Rows.exprPasGroupsRow.laid w) (fun _ _ _ hh h => h.of_heap hh) own started (by kernel_rfl) Tryz.func7
    (ChangeSpec.witness_shaped (enc := enc) (C := Tryz.checked) (os := os) (X := fun w _ => laidMetH Tryz.prog Rows.exprPasGroupsRow.laid w) false (World.laidAll Tryz.prog os Rows.exprPasGroupsRow.laid) #[.string ByteArray.empty, .int .u8 0] 8 (World.laidAll_os _ _ _)
      (World.shaped_of_ZipB (by kernel_rfl) (by kernel_rfl)) (by kernel_rfl) (by kernel_rfl) (by kernel_rfl)
      (by rw [MakeChecks.laidMetH_plain _ _ _ (by kernel_rfl)]; exact laidMet_laidAll _ (by kernel_rfl) (by kernel_rfl))) ?_
  intro W base args ds gs before hval0 hW _ hsz0 hL _
  have hval : ∀ (j : Nat) t v, Tryz.f7.params[j]? = some t → args[j]? = some v → Value.okWide Tryz.prog W .any base t v := hval0
  have hsz : (DataW.weightsEach Tryz.prog (Tryz.f7.params.toList ++ Rows.exprPasGroupsSpec.plain.varTypes Tryz.prog) (ds ++ gs)).all (· ≤ reachBytes) = true := hsz0
  have hW' := hW
  obtain ⟨p, q, hA0, hV, rfl, _, _⟩ := hW
  have hA : DataW.TrodAll enc Tryz.prog W 0 (fun _ => true) true Tryz.f7.params.toList args.toList ds p := hA0
  rw [Tryz.params7] at hA hval hsz
  obtain ⟨v0, vs0, d0, ds0, p0, q0, hargs, rfl, rfl, h0, r0⟩ := trodAll_cons hA
  obtain ⟨v1, vs1, d1, ds1, p1, q1, rfl, rfl, rfl, h1, r1⟩ := trodAll_cons r0
  obtain ⟨rfl, rfl, rfl⟩ := trodAll_nil r1
  obtain rfl : args = #[v0, v1] := by cases args; simp_all
  obtain ⟨rfl, rfl⟩ := trodVars_none hV
  obtain ⟨a0, rfl, rfl, rfl, y0⟩ := open_string Tryz.underlying9 (hval 0 9 v0 rfl rfl) h0
  have w0 : a0.size ≤ 140737488351232 := by
    have z := sized_string hsz (j := 0) (t := 9) rfl rfl
    rw [Array.length_toList] at z
    exact z
  obtain ⟨n1, rfl, rfl, rfl, y1⟩ := open_int Tryz.underlying5 (hval 1 5 v1 rfl rfl) h1
  have z1 : 0 ≤ n1 ∧ n1 ≤ 255 := by
    have y := y1
    rw [Lit.wf, Bool.and_eq_true] at y
    have e1 : IntKind.u8.min = 0 := by decide
    have e2 : IntKind.u8.max = 255 := by decide
    have g1 := of_decide_eq_true y.1
    have g2 := of_decide_eq_true y.2
    omega
  obtain ⟨m1, rfl⟩ := Int.eq_ofNat_of_zero_le z1.1
  have w1 : m1 < 256 := by omega
  clear hA0 hval0 hsz0 hsz
  rw [MakeChecks.laidMetH_plain _ _ _ (by kernel_rfl)] at hL
  have hG : Glob W.heap.size W := glob_of_laid hL (by simp [Rows.exprPasGroupsRow]) (by simp [Rows.exprPasGroupsRow]) (by simp [Rows.exprPasGroupsRow]) (by simp [Rows.exprPasGroupsRow])
  refine (exprPasGroups_any a0 m1 W w0 w1 hG).mono fun e W' ⟨he, kp⟩ => ?_
  have bel : Below W.heap.size W W' := kp.belowB (Nat.le_refl _)
  subst he
  exact ⟨_, rfl, _, _, _, [], _, [], hW', trodAll_mk1 (shut_bool Tryz.underlying4 _), (trodAll_cons_mk (shut_string Tryz.underlying9 y0) (trodAll_cons_mk (shut_int Tryz.underlying5 y1) trodAll_mk0)), rfl, bel.frame _, fun h => by cases h⟩
theorem over : Rows.exprPasGroupsRow.holds Tryz.pinned (OpenSpec.ofChange Rows.exprPasGroupsSpec) :=
  OpenClaim.holds_of_wide 7 Tryz.f7 rfl rfl rfl rfl rfl rfl rfl ⟨rfl, rfl, rfl, rfl, rfl⟩ rfl rfl rfl rfl rfl (by kernel_rfl) Tryz.func7 (by kernel_rfl)
    (of_decide_eq_true (by kernel_rfl)) (by unfold Func.isWrapper; first | (rw [if_pos (by decide +kernel)]; kernel_rfl) | (rw [if_neg (by decide +kernel)]; exact ⟨rfl, rfl⟩))
    (fun os started H enc _ => lifted os started H enc)
theorem proved : Rows.ExprPasGroupsSaid := over
theorem carded : Rows.ExprPasGroupsCardSaid :=
  Claim7.holds_tied_plain_at .later [] [.data, .data, .data, .data, .sentinel, .sentinel, .listed, .data, .pinned, .pinned] true (true, "e8fae074b7593f3b881103c13f815a26967287ddf004a34f54198e15b970721f") true
    proved (fun _ h => by cases h) (by kernel_rfl) (fun _ h => by cases h) exprPasGroups_row_tie rfl ⟨rfl, rfl⟩ (by kernel_rfl) rfl
    (fun f fn hf hfn => by
      obtain rfl : f = 7 := Option.some.inj ((show Tryz.prog.funcNamed "pantograph/pantographlaw08.ExprPasGroups" = some 7 by kernel_rfl).symm.trans hf) |>.symm
      obtain rfl : fn = Tryz.f7 := (Option.some.inj (Tryz.func7.symm.trans hfn)).symm
      exact ⟨by kernel_rfl, fun j t ht => by
        rw [Tryz.params7] at ht
        have hm : t ∈ [9, 5] := by simpa using Array.mem_of_getElem? ht
        have hall : ([9, 5].all fun u => !Tryz.prog.wantsStandIn u) = true := by kernel_rfl
        exact (show Tryz.prog.wantsStandIn t = false by simpa using List.all_eq_true.1 hall t hm)⟩)
    (by kernel_rfl)
#print axioms carded
end Go.Proofs.YtgmmjhelcpgakaaGreatDoor.exprPasGroups
namespace Go.Proofs.YtgmmjhelcpgakaaGreatDoor
/-- The card, under a short name, for the claim. -/
theorem exprPasGroups_holds : Rows.ExprPasGroupsCardSaid := exprPasGroups.carded
end Go.Proofs.YtgmmjhelcpgakaaGreatDoor
