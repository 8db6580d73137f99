/- Package exprpas: the reader's functions, all together; toks: Deep, Bound. -/
import Derived.Test.YtgmmjhelcpgakaaGreatDoorGAj
import Derived.Test.YtgmmjhelcpgakaaGreatDoorGAd
import Derived.Test.YtgmmjhelcpgakaaGreatDoorGAe
import Derived.Test.YtgmmjhelcpgakaaGreatDoorGAf
import Derived.Test.YtgmmjhelcpgakaaGreatDoorGAg
import Derived.Test.YtgmmjhelcpgakaaGreatDoorGAh
import Derived.Test.YtgmmjhelcpgakaaGreatDoorGAi
import Derived.RegionTactic
namespace Go.Proofs.YtgmmjhelcpgakaaGreatDoor
open Go.RowKit
set_option linter.unusedVariables false
set_option linter.unusedSimpArgs false

theorem reads_all (l : List TokL) (b g c : Nat) (hdol : NoDol l) : ∀ f, Does l b g c 48 .expr f ∧ Does l b g c 88 .simple f ∧ Does l b g c 124 .term f ∧ Does l b g c 146 .factor f ∧ Does l b g c 180 .named f ∧ DoesO l b g c f := by
  intro f
  induction f using Nat.strongRecOn with
  | ind f ih =>
    exact ⟨expr_any l b g c f fun f' h => (ih f' h).2.1, simple_any l b g c f fun f' h => (ih f' h).2.2.1, term_any l b g c f fun f' h => (ih f' h).2.2.2.1,
      factor_any l b g c f (fun f' h => (ih f' h).2.2.2.1) (fun f' h => (ih f' h).1) (fun f' h => (ih f' h).2.2.2.2.1),
      named_any l b g c hdol f (fun f' h => (ih f' h).1) (fun f' h => (ih f' h).2.2.2.2.2), operands_any l b g c f fun f' h => (ih f' h).1⟩

theorem noUps_at {l : List Ex} (h : noUps l = true) {k : Nat} {x : Ex} (hk : l[k]? = some x) : noUp x = true := noUps_mem l x h (List.mem_of_getElem? hk)
theorem deepEs_mem : ∀ (l : List Ex) (x : Ex), x ∈ l → x.op ≠ 25 → deepE x ≤ deepEs l
  | a :: l, x, h, ho => by
    rw [deepEs]
    rcases List.mem_cons.1 h with rfl | h
    · rw [if_neg ho]; omega
    · have := deepEs_mem l x h ho; omega
theorem longEs_mem : ∀ (l : List Ex) (x : Ex), x ∈ l → longE x ≤ longEs l
  | a :: l, x, h => by
    rw [longEs]
    rcases List.mem_cons.1 h with rfl | h
    · omega
    · have := longEs_mem l x h; omega
theorem deepEs_take (l : List Ex) (k : Nat) (x : Ex) (hk : l[k]? = some x) (ho : x.op ≠ 25) : deepEs (l.take (k + 1)) = max (deepEs (l.take k)) (deepE x) := by
  have hlt := (List.getElem?_eq_some_iff.1 hk).1
  rw [List.take_succ_eq_append_getElem hlt, deepEs_snoc]
  have : l[k] = x := by rw [List.getElem?_eq_getElem hlt] at hk; injection hk
  rw [this, if_neg ho]
theorem longEs_take (l : List Ex) (k : Nat) (x : Ex) (hk : l[k]? = some x) : longEs (l.take (k + 1)) = max (longEs (l.take k)) (longE x) := by
  have hlt := (List.getElem?_eq_some_iff.1 hk).1
  rw [List.take_succ_eq_append_getElem hlt, longEs_snoc]
  have : l[k] = x := by rw [List.getElem?_eq_getElem hlt] at hk; injection hk
  rw [this]
theorem exs_take_le (l : List Ex) (k : Nat) : deepEs (l.take k) ≤ deepEs l ∧ longEs (l.take k) ≤ longEs l := by
  induction l generalizing k with
  | nil => simp
  | cons a l ih =>
    cases k with
    | zero => rw [List.take_zero, deepEs, longEs]; omega
    | succ k => rw [List.take_succ_cons, deepEs, deepEs, longEs, longEs]; have := ih k; omega
set_option maxRecDepth 100000 in
set_option maxHeartbeats 4000000 in
theorem deep_any (n : Nat) : ∀ (x : Ex) (A : Option Addr) (c : Nat) (S : Nat → Prop) (w : World), deepE x ≤ n → noUp x = true → deepE x ≤ 1000000 → longE x ≤ 1000000 → RdRow S w x.list A →
    Calls Tryz.prog 123 #[.agg (exA x A c)] w fun e w' => e = .returned (.tuple #[.int .i64 (deepE x), .int .i64 (longE x)]) ∧ Keep (fun _ => False) w w' := by
  have hu := Tryz.underlying25
  induction n with
  | zero => intro x A c S w h; have := deepE_pos x; omega
  | succ n ih =>
    intro x A c S w hn hup hd hl hrow
    have hups := noUp_eq x hup
    have hlen : x.list.length ≤ longE x := longE_len x
    obtain ⟨D, hD⟩ : ∃ D, D = deepE x := ⟨_, rfl⟩
    obtain ⟨L, hL⟩ : ∃ L, L = longE x := ⟨_, rfl⟩
    have hD' := deepE_eq x
    have hL' := longE_eq x
    obtain ⟨xs, hxs⟩ : ∃ xs, xs = x.list := ⟨_, rfl⟩
    obtain ⟨m, hm⟩ : ∃ m, m = xs.length := ⟨_, rfl⟩
    rw [← hD, ← hL]
    rw [← hD] at hD' hn hd
    rw [← hL] at hL' hl hlen
    unfold exA
    rw [← hxs] at hrow hups hD' hL' hlen ⊢
    rw [← hm] at hL' hlen ⊢
    have HM := Lib.hid hm; have HDD := Lib.hid hD'; have HLL := Lib.hid hL'
    have HROW := Lib.hid hrow; have HUP := Lib.hid hups; have HIH := Lib.hid ih
    clear hD hL hxs hm hrow hups ih hup hD' hL'
    go_enter Tryz.func123, Tryz.ntmps123
    go_wp2_with fail
    obtain ⟨W0, hWW0⟩ : ∃ W0, W0 = w.alloc (.cells #[.int .i64 x.op, .int .i64 x.num, .string x.name, .string x.field, .slice A m c] 25) := ⟨_, rfl⟩
    rw [← hWW0]
    have HBW0 := Lib.hid (show Blk W0 w.heap.size #[.int .i64 x.op, .int .i64 x.num, .string x.name, .string x.field, .slice A m c] 25 by rw [hWW0]; exact Blk.new _ _ _)
    have HAW0 := Lib.hid (show Keep (fun _ => False) w W0 by rw [hWW0]; exact (Keep.refl _ _).alloc _)
    have HZW0 := Lib.hid (show W0.heap.size = w.heap.size + 1 by rw [hWW0]; simp)
    clear hWW0
    go_loopw [2, 3, 11] (fun d lo i wr => ∃ k : Nat, k ≤ m ∧ i = .int .i64 k ∧ d = .int .i64 (deepEs (xs.take k)) ∧ lo = .int .i64 (longEs (xs.take k)) ∧ Keep (fun _ => False) W0 wr) (fun _ _ i _ => m - (intOf i).toNat)
    case atStart => exact ⟨0, Nat.zero_le _, rfl, by rw [List.take_zero, deepEs]; rfl, by rw [List.take_zero, longEs]; rfl, Keep.refl _ _⟩
    case round =>
      obtain ⟨k, hk, rfl, rfl, rfl, hkp⟩ := hrel
      have HKP := Lib.hid hkp; clear hkp
      have htl := exs_take_le xs k
      have hdl : deepEs xs + 1 ≤ 1000000 := by rw [← HDD.out]; exact hd
      have hll : longEs xs ≤ 1000000 := by have := HLL.out; omega
      obtain ⟨dk, hdk⟩ : ∃ dk, dk = deepEs (xs.take k) := ⟨_, rfl⟩
      obtain ⟨lk, hlk⟩ : ∃ lk, lk = longEs (xs.take k) := ⟨_, rfl⟩
      rw [← hdk, ← hlk] at htl ⊢
      have HDK := Lib.hid hdk; have HLK := Lib.hid hlk
      clear hdk hlk
      have c0 := (HKP.out.blk HBW0.out (fun h => h)).all5
      have hblt := (HKP.out.blk HBW0.out (fun h => h)).lt
      by_cases hlt : k < m
      · have hkx : k < xs.length := by rw [← HM.out]; exact hlt
        obtain ⟨y, hy⟩ : ∃ y, xs[k]? = some y := ⟨_, List.getElem?_eq_getElem hkx⟩
        have hymem := List.mem_of_getElem? hy
        have hyup := noUps_at HUP.out hy
        have hyop := noUp_op y hyup
        have hyd := deepEs_mem xs y hymem hyop
        have hyl := longEs_mem xs y hymem
        obtain ⟨bb, off, rfl, hbS, hcs⟩ := ((HROW.out.keepF HAW0.out).keepF HKP.out) (by intro h; rw [h] at hkx; simp at hkx)
        obtain ⟨Ay, cy, hyr, hyc⟩ := hcs.at_ k y hy
        have k0 := hyc 0 (by decide)
        have k1 := hyc 1 (by decide)
        have k2 := hyc 2 (by decide)
        have k3 := hyc 3 (by decide)
        have k4 := hyc 4 (by decide)
        have hbb : bb < wr.heap.size := hcs.lt (by intro h; rw [h] at hkx; simp at hkx)
        simp only [exA, List.getElem?_toArray, List.getElem?_cons_succ, List.getElem?_cons_zero, Nat.add_zero] at k0 k1 k2 k3 k4
        have hop : (y.op == 25) = false := by rw [beq_eq_false_iff_ne]; exact hyop
        have hi0 : (0 : Int) ≤ (k : Int) := by omega
        have hi1 : (k : Int) < (m : Int) := by omega
        have HYR := Lib.hid hyr; have HYU := Lib.hid hyup; have HY := Lib.hid hy
        clear hyc hcs hyr hyup hymem hy hyop
        go_wp2_with fail
        refine (HIH.out y Ay cy S _ (by have := HDD.out; omega) HYU.out (by omega) (by omega) (HYR.out.keepF ((Keep.refl _ _).alloc _))).mono ?_
        rintro e w1 ⟨rfl, hk1⟩
        have HK1 := Lib.hid hk1
        obtain ⟨dy, hdy⟩ : ∃ dy, dy = deepE y := ⟨_, rfl⟩
        obtain ⟨ly, hly⟩ : ∃ ly, ly = longE y := ⟨_, rfl⟩
        have hyo := noUp_op y HYU.out
        have e1 := deepEs_take xs k y HY.out hyo
        have e2 := longEs_take xs k y HY.out
        rw [← hdy] at e1 hyd ⊢
        rw [← hly] at e2 hyl ⊢
        have E1 := Lib.hid e1; have E2 := Lib.hid e2
        clear hk1 hdy hly e1 e2 hyo
        go_wp2_with fail
        exact ⟨⟨k + 1, by omega, by go_num, by rw [E1.out, ← HDK.out]; congr 1; omega, by rw [E2.out, ← HLK.out]; congr 1; omega, HKP.out.trans (((Keep.refl _ _).alloc _).trans HK1.out)⟩, by simp [intOf]; omega⟩
      · obtain rfl : k = m := by omega
        have hdk : dk = deepEs xs := by rw [HDK.out, HM.out, List.take_length]
        have hlk : lk = longEs xs := by rw [HLK.out, HM.out, List.take_length]
        have HDK2 := Lib.hid hdk; have HLK2 := Lib.hid hlk
        clear hdk hlk
        go_wp2_with fail
        go_region
        go_wp2_with fail
        go_ret2
        have e1 : (dk : Int) + 1 = (D : Int) := by have := HDD.out; have := HDK2.out; omega
        have e2 : max (lk : Int) (k : Int) = (L : Int) := by have := HLL.out; have := HLK2.out; omega
        refine ⟨?_, (HAW0.out.trans HKP.out).drew⟩
        show Ending.returned (.tuple #[.int .i64 ((dk : Int) + 1), .int .i64 (max (lk : Int) (k : Int))]) = _
        rw [e1, e2]
end Go.Proofs.YtgmmjhelcpgakaaGreatDoor
/- toks: Bound; package exprpas: read, Parse. -/
namespace Go.Proofs.YtgmmjhelcpgakaaGreatDoor
open Go.RowKit
set_option linter.unusedVariables false
set_option linter.unusedSimpArgs false

def boundS1 (st : RS) (x : Ex) (p : Pos3) : RS := if 512 < longE x then failP st 3 p else st
def boundS (st : RS) (x : Ex) (p : Pos3) : RS := if 48 < deepE x then failP (boundS1 st x p) 4 p else boundS1 st x p
set_option maxRecDepth 100000 in
set_option maxHeartbeats 4000000 in
theorem bound_any (b g c : Nat) (l : List TokL) (st : RS) (x : Ex) (A : Option Addr) (cc : Nat) (S : Nat → Prop) (p : Pos3) (w : World) (h : Rdr w b g c l st) (hup : noUp x = true) (hd : deepE x ≤ 1000000) (hl : longE x ≤ 1000000) (hrow : RdRow S w x.list A) :
    Calls Tryz.prog 87 #[.pointer (some ⟨b, 0, none⟩), .agg (exA x A cc), .agg #[.int .i64 p.1, .int .i64 p.2.1, .int .i64 p.2.2]] w fun e w' => e = .returned (.tuple #[]) ∧ Rdr w' b g c l (boundS st x p) ∧ Keep (· = b) w w' := by
  have hu := Tryz.underlying25
  have hu26 := Tryz.underlying28
  obtain ⟨D, hD⟩ : ∃ D, D = deepE x := ⟨_, rfl⟩
  obtain ⟨L, hL⟩ : ∃ L, L = longE x := ⟨_, rfl⟩
  have HDP : Hid (∀ W, Keep (fun _ => False) w W → Calls Tryz.prog 123 #[.agg (exA x A cc)] W fun e w' => e = .returned (.tuple #[.int .i64 D, .int .i64 L]) ∧ Keep (fun _ => False) W w') := fun W hk => by rw [hD, hL]; exact deep_any _ x A cc S W (Nat.le_refl _) hup hd hl (hrow.keepF hk)
  have HFA : Hid (∀ (s : RS) (k : Nat) W, k ≠ 0 → Rdr W b g c l s → Calls Tryz.prog 51 #[.pointer (some ⟨b, 0, none⟩), .int .i64 k, .agg #[.int .i64 p.1, .int .i64 p.2.1, .int .i64 p.2.2]] W fun e w' => e = .returned (.tuple #[]) ∧ Rdr w' b g c l (failP s k p) ∧ Keep (· = b) W w') := fun s k W hk hr => fail_any b g c l s k hk p W hr
  unfold boundS boundS1
  rw [← hD, ← hL]
  have HRD := Lib.hid h
  have hbw := h.blk.lt
  clear h hup hrow hD hL
  unfold exA at HDP ⊢
  by_cases h1 : 512 < L <;> by_cases h2 : 48 < D
  all_goals
    have t1 : decide ((512 : Int) < (L : Int)) = decide (512 < L) := by congr 1; exact propext (by omega)
    have t2 : decide ((48 : Int) < (D : Int)) = decide (48 < D) := by congr 1; exact propext (by omega)
    first | rw [if_pos h1] | rw [if_neg h1]
    first | rw [if_pos h2] | rw [if_neg h2]
    first | rw [decide_eq_true h1] at t1 | rw [decide_eq_false h1] at t1
    first | rw [decide_eq_true h2] at t2 | rw [decide_eq_false h2] at t2
    have H1 := Lib.hid h1; have H2 := Lib.hid h2
    clear h1 h2
    go_enter Tryz.func87, Tryz.ntmps87
    go_wp2_with fail
    obtain ⟨W0, hWW0⟩ : ∃ W0, W0 = w.alloc (.cells #[.int .i64 x.op, .int .i64 x.num, .string x.name, .string x.field, .slice A x.list.length cc] 25) := ⟨_, rfl⟩
    rw [← hWW0]
    have HBW0 := Lib.hid (show Blk W0 w.heap.size #[.int .i64 x.op, .int .i64 x.num, .string x.name, .string x.field, .slice A x.list.length cc] 25 by rw [hWW0]; exact Blk.new _ _ _)
    have HAW0 := Lib.hid (show Keep (fun _ => False) w W0 by rw [hWW0]; exact (Keep.refl _ _).alloc _)
    have HZW0 := Lib.hid (show W0.heap.size = w.heap.size + 1 by rw [hWW0]; simp)
    clear hWW0
    obtain ⟨W1, hWW1⟩ : ∃ W1, W1 = W0.alloc (.cells #[.int .i64 p.1, .int .i64 p.2.1, .int .i64 p.2.2] 28) := ⟨_, rfl⟩
    rw [← hWW1]
    have HBW1 := Lib.hid (show Blk W1 W0.heap.size #[.int .i64 p.1, .int .i64 p.2.1, .int .i64 p.2.2] 28 by rw [hWW1]; exact Blk.new _ _ _)
    have HAW1 := Lib.hid (show Keep (fun _ => False) W0 W1 by rw [hWW1]; exact (Keep.refl _ _).alloc _)
    have HZW1 := Lib.hid (show W1.heap.size = W0.heap.size + 1 by rw [hWW1]; simp)
    clear hWW1
    refine (HDP.out W1 (HAW0.out.trans HAW1.out)).mono ?_
    rintro e w1 ⟨rfl, hk1⟩
    have HK1 := Lib.hid ((HAW0.out.trans HAW1.out).trans hk1)
    have HBP := Lib.hid (hk1.blk HBW1.out (fun h => h))
    have HRD1 := Lib.hid (HRD.out.keepF HK1.out)
    have hz : W0.heap.size = w.heap.size + 1 := HZW0.out
    have hnb : b ≠ w.heap.size + 1 := by omega
    have HZ := Lib.hid hz
    clear hk1 hz
    have p3 := (show Blk w1 (w.heap.size + 1) _ _ by rw [← HZ.out]; exact HBP.out).all3
    go_wp2_with fail
  · refine (HFA.out st 3 w1 (by decide) HRD1.out).mono ?_
    rintro e w2 ⟨rfl, hr2, hk2⟩
    have HR2 := Lib.hid hr2; have HK2 := Lib.hid hk2
    have p3' := (hk2.blk (show Blk w1 (w.heap.size + 1) _ _ by rw [← HZ.out]; exact HBP.out) (Ne.symm hnb)).all3
    clear hr2 hk2
    go_wp2_with fail
    refine (HFA.out _ 4 w2 (by decide) HR2.out).mono ?_
    rintro e w3 ⟨rfl, hr3, hk3⟩
    go_wp2_with fail
    go_end0
    exact ⟨rfl, hr3, ((HK1.out.mono (fun _ _ h => h.elim)).trans HK2.out).trans hk3⟩
  · refine (HFA.out st 3 w1 (by decide) HRD1.out).mono ?_
    rintro e w2 ⟨rfl, hr2, hk2⟩
    go_wp2_with fail
    go_end0
    exact ⟨rfl, hr2, (HK1.out.mono (fun _ _ h => h.elim)).trans hk2⟩
  · refine (HFA.out st 4 w1 (by decide) HRD1.out).mono ?_
    rintro e w2 ⟨rfl, hr2, hk2⟩
    go_wp2_with fail
    go_end0
    exact ⟨rfl, hr2, (HK1.out.mono (fun _ _ h => h.elim)).trans hk2⟩
  · go_end0
    exact ⟨rfl, HRD1.out, HK1.out.mono (fun _ _ h => h.elim)⟩
end Go.Proofs.YtgmmjhelcpgakaaGreatDoor
/- Package exprpas: read, Parse. -/
namespace Go.Proofs.YtgmmjhelcpgakaaGreatDoor
open Go.RowKit
set_option linter.unusedVariables false
set_option linter.unusedSimpArgs false

theorem tokF4 (a b c d e f g : Value) (w : World) : (Instr.field 50 (.agg #[a, b, c, d, e, f, g]) 4).run Tryz.prog w = .ok (.agg #[e, f, g]) w := by kernel_rfl
def ParsePost (r : Res) (at_ : Nat) (w : World) (en : Ending) (w' : World) : Prop :=
  ∃ A cc, en = .returned (.tuple #[.agg (exA (resE r) A cc), .int .i64 (resI at_ r : Nat), .agg #[.int .i64 (resC r : Nat), .int .i64 (resP r).1, .int .i64 (resP r).2.1, .int .i64 (resP r).2.2]]) ∧ RdRow (w.heap.size ≤ ·) w' (resE r).list A ∧ Keep (fun _ => False) w w'
theorem bound_ok (l : List TokL) (i j : Nat) (e : Ex) : boundAt l i (.ok e j) = if (boundS (okS j) e (tk l i).pos).code = 0 then .ok e j else .bad (boundS (okS j) e (tk l i).pos).code (boundS (okS j) e (tk l i).pos).pos := by
  unfold boundAt boundS boundS1 failP okS
  by_cases h1 : 512 < longE e
  · simp [h1]
  · by_cases h2 : 48 < deepE e <;> simp [h1, h2]
theorem bad_code (l : List TokL) (i : Nat) (hi : i ≤ l.length) (c : Nat) (p : Pos3) (h : levAt l i = .bad c p) : c ≠ 0 := by
  obtain ⟨e', st, F, _, h2⟩ := pm_expr l i hi
  rw [h] at h2; exact h2.1
set_option maxRecDepth 100000 in
set_option maxHeartbeats 8000000 in
theorem read_any (l : List TokL) (g c : Nat) (i : Nat) (w : World) (ht : TokR w g l) (hpos : 0 < l.length) (hbig : l.length ≤ 1000000) (hi : i ≤ l.length) (hdol : NoDol l) :
    Calls Tryz.prog 47 #[.slice (some ⟨g, 0, none⟩) l.length c, .int .i64 i, .func (.func 48) #[] #[]] w (ParsePost (parseAt l i) i w) := by
  have hu := Tryz.underlying25
  have hu26 := Tryz.underlying28
  have hu28 := Tryz.underlying30
  have hu38 := Tryz.underlying50
  have fd4 := tokF4
  have hglt : g < w.heap.size := by
    obtain ⟨t, ht2⟩ : ∃ t, l[0]? = some t := ⟨_, List.getElem?_eq_getElem hpos⟩
    have k := ht 0 t ht2 0 (by decide)
    exact World.block_lt_of_cell? w ⟨g, 0 * 7 + 0, none⟩ (u := .int .i64 t.kind) (by rw [k]; rfl)
  obtain ⟨e, st, F, hpm, hfit⟩ := pm_expr l i hi
  have HT := Lib.hid ht; have HPM := Lib.hid hpm; have HFIT := Lib.hid hfit
  clear ht hpm hfit
  go_enter Tryz.func47, Tryz.ntmps47
  go_wp2_with fail
  obtain ⟨W0, hWW0⟩ : ∃ W0, W0 = w.alloc (.cells #[.int .i64 0, .int .i64 0, .string ⟨#[]⟩, .string ⟨#[]⟩, .slice none 0 0] 25) := ⟨_, rfl⟩
  rw [← hWW0]
  have HBW0 := Lib.hid (show Blk W0 w.heap.size #[.int .i64 0, .int .i64 0, .string ⟨#[]⟩, .string ⟨#[]⟩, .slice none 0 0] 25 by rw [hWW0]; exact Blk.new _ _ _)
  have HAW0 := Lib.hid (show Keep (fun _ => False) w W0 by rw [hWW0]; exact (Keep.refl _ _).alloc _)
  have HZW0 := Lib.hid (show W0.heap.size = w.heap.size + 1 by rw [hWW0]; simp)
  clear hWW0
  rw [← HZW0.out]
  obtain ⟨W1, hWW1⟩ : ∃ W1, W1 = W0.alloc (.cells #[.int .i64 0, .int .i64 0, .int .i64 0, .int .i64 0] 30) := ⟨_, rfl⟩
  rw [← hWW1]
  have HBW1 := Lib.hid (show Blk W1 W0.heap.size #[.int .i64 0, .int .i64 0, .int .i64 0, .int .i64 0] 30 by rw [hWW1]; exact Blk.new _ _ _)
  have HAW1 := Lib.hid (show Keep (fun _ => False) W0 W1 by rw [hWW1]; exact (Keep.refl _ _).alloc _)
  have HZW1 := Lib.hid (show W1.heap.size = W0.heap.size + 1 by rw [hWW1]; simp)
  clear hWW1
  rw [← HZW1.out]
  obtain ⟨W2, hWW2⟩ : ∃ W2, W2 = W1.alloc (.cells #[.slice (some ⟨g, 0, none⟩) l.length c, .int .i64 i, .int .i64 0, .int .i64 0, .int .i64 0, .int .i64 0] 59) := ⟨_, rfl⟩
  rw [← hWW2]
  have HBW2 := Lib.hid (show Blk W2 W1.heap.size #[.slice (some ⟨g, 0, none⟩) l.length c, .int .i64 i, .int .i64 0, .int .i64 0, .int .i64 0, .int .i64 0] 59 by rw [hWW2]; exact Blk.new _ _ _)
  have HAW2 := Lib.hid (show Keep (fun _ => False) W1 W2 by rw [hWW2]; exact (Keep.refl _ _).alloc _)
  have HZW2 := Lib.hid (show W2.heap.size = W1.heap.size + 1 by rw [hWW2]; simp)
  clear hWW2
  obtain ⟨b, hb⟩ : ∃ b, b = W1.heap.size := ⟨_, rfl⟩
  have hbw : w.heap.size + 2 = b := by have := HZW0.out; have := HZW1.out; omega
  have hw0 : W0.heap.size = w.heap.size + 1 := HZW0.out
  rw [← hb] at HBW2 ⊢
  have HK2 := Lib.hid ((HAW0.out.trans HAW1.out).trans HAW2.out)
  have HRD := Lib.hid (show Rdr W2 b g c l (okS i) from ⟨HBW2.out, HT.out.keep HK2.out (fun h => h), by omega, hpos, hbig, hi⟩)
  have HB6 := Lib.hid ((HAW1.out.trans HAW2.out).blk HBW0.out (fun h => h))
  have HB8 := Lib.hid (HAW2.out.blk HBW1.out (fun h => h))
  rw [hw0] at HB8 ⊢
  have HBB := Lib.hid hb; have HBWE := Lib.hid hbw
  have hb1 : w.heap.size < b := by omega
  have hb2 : w.heap.size + 1 < b := by omega
  obtain ⟨t, htk⟩ : ∃ t, t = tk l i := ⟨_, rfl⟩
  have HTK := Lib.hid htk
  have HLK := Lib.hid (look0_any b g c l (okS i) W2 HRD.out t htk)
  clear hb hbw htk hw0
  refine HLK.out.mono ?_
  rintro en w3 ⟨rfl, hk3⟩
  have HK3 := Lib.hid hk3
  clear hk3
  go_wp2_with fail
  obtain ⟨W4, hWW4⟩ : ∃ W4, W4 = w3.alloc (.cells #[.int .i64 t.pos.1, .int .i64 t.pos.2.1, .int .i64 t.pos.2.2] 28) := ⟨_, rfl⟩
  rw [← hWW4]
  have HBW4 := Lib.hid (show Blk W4 w3.heap.size #[.int .i64 t.pos.1, .int .i64 t.pos.2.1, .int .i64 t.pos.2.2] 28 by rw [hWW4]; exact Blk.new _ _ _)
  have HAW4 := Lib.hid (show Keep (fun _ => False) w3 W4 by rw [hWW4]; exact (Keep.refl _ _).alloc _)
  have HZW4 := Lib.hid (show W4.heap.size = w3.heap.size + 1 by rw [hWW4]; simp)
  clear hWW4
  have HRD4 := Lib.hid (HRD.out.keepF (HK3.out.trans HAW4.out))
  refine ((reads_all l b g c hdol F).1 (okS i) W4 e st HRD4.out HPM.out).mono ?_
  rintro en w5 ⟨A, cc, rfl, hrow5, hrd5, hk5⟩
  have HROW5 := Lib.hid hrow5; have HRD5 := Lib.hid hrd5; have HK5 := Lib.hid hk5
  have HB6' := Lib.hid (hk5.blk ((HK3.out.trans HAW4.out).blk HB6.out (fun h => h)) (by omega))
  have HB8' := Lib.hid (hk5.blk ((HK3.out.trans HAW4.out).blk HB8.out (fun h => h)) (by omega))
  have HBP := Lib.hid (hk5.blk HBW4.out (by have := HRD4.out.blk.lt; have h2 := HRD.out.blk.lt; have := HK3.out.size; omega))
  have hb3 : b < w3.heap.size := Nat.lt_of_lt_of_le HRD.out.blk.lt HK3.out.size
  clear hrow5 hrd5 hk5
  have a5 := HB6'.out.all5
  unfold exA
  go_upto_region 4 with fail
  obtain ⟨w6, hw6⟩ : ∃ w6, w6 = ((((w5.setCell ⟨w.heap.size, 0, none⟩ (.int .i64 e.op)).setCell ⟨w.heap.size, 1, none⟩ (.int .i64 e.num)).setCell ⟨w.heap.size, 2, none⟩ (.string e.name)).setCell ⟨w.heap.size, 3, none⟩ (.string e.field)).setCell ⟨w.heap.size, 4, none⟩ (.slice A e.list.length cc) := ⟨_, rfl⟩
  rw [← hw6]
  have hput : Keep (· = w.heap.size) w5 w6 := by rw [hw6]; exact Keep.put5 (P := (· = w.heap.size)) (b := w.heap.size) (Keep.refl _ _) (.inr rfl) _ _ _ _ _
  have HE6 := Lib.hid (show Blk w6 w.heap.size (exA e A cc) 25 by rw [hw6]; exact HB6'.out.set5 _ _ _ _ _)
  have hsz4 : w.heap.size < W4.heap.size := by have := HRD4.out.blk.lt; omega
  have HROW6 := Lib.hid (HROW5.out.keep hput (fun k h1 h2 => by have h2 : W4.heap.size ≤ k := h2; omega))
  have HRD6 := Lib.hid (HRD5.out.keep hput (by omega) (by omega))
  have HB86 := Lib.hid (hput.blk HB8'.out (by omega))
  have HBP6 := Lib.hid (hput.blk HBP.out (by omega))
  have HK6 := Lib.hid (show Keep (fun _ => False) w w6 from (((((HK2.out.trans HK3.out).trans HAW4.out).mono (Q := fun k => k = b ∨ k = w.heap.size) (fun _ _ h => h.elim)).trans ((HK5.out.mono (fun _ _ h => .inl h)).trans (hput.mono (fun _ _ h => .inr h)))).mono (fun k hk h => by omega)))
  clear hw6 hput a5
  have OKH : Hid (∀ W s, Rdr W b g c l s → Calls Tryz.prog 50 #[.pointer (some ⟨b, 0, none⟩)] W fun e w' => e = .returned (.bool (decide (s.code = 0))) ∧ w' = W) := fun W s h => rok_any b g c l s W h
  by_cases h0 : st.code = 0
  · obtain ⟨j, hlev, hst⟩ : ∃ j, levAt l i = .ok e j ∧ st = okS j := by
      have hf := HFIT.out
      cases hr : levAt l i with
      | ok e' j => rw [hr] at hf; obtain ⟨h1, h2⟩ := hf; exact ⟨j, by rw [h1], h2⟩
      | bad c' p' => rw [hr] at hf; obtain ⟨h1, h2, _⟩ := hf; omega
    have hup := levAt_noUp l i hi e j hlev
    obtain ⟨hds, hls⟩ := levAt_size l i hi e j hlev
    have hpar : parseAt l i = boundAt l i (.ok e j) := by unfold parseAt; rw [hlev]
    rw [bound_ok] at hpar
    rw [← HTK.out] at hpar
    subst hst
    have HO1 := OKH.out w6 _ HRD6.out
    rw [decide_eq_true h0] at HO1
    have HO := Lib.hid HO1
    have HBO : Hid (∀ W, Rdr W b g c l (okS j) → RdRow (W4.heap.size ≤ ·) W e.list A → Calls Tryz.prog 87 #[.pointer (some ⟨b, 0, none⟩), .agg (exA e A cc), .agg #[.int .i64 t.pos.1, .int .i64 t.pos.2.1, .int .i64 t.pos.2.2]] W fun e' w' => e' = .returned (.tuple #[]) ∧ Rdr w' b g c l (boundS (okS j) e t.pos) ∧ Keep (· = b) W w') := fun W hr hrow => bound_any b g c l (okS j) e A cc _ t.pos W hr hup (by omega) (by omega) hrow
    obtain ⟨s2, hs2⟩ : ∃ s2, s2 = boundS (okS j) e t.pos := ⟨_, rfl⟩
    rw [← hs2] at hpar HBO
    have HPAR := Lib.hid hpar
    have h0 : s2.at_ = j := by rw [hs2]; unfold boundS boundS1; split <;> (try split) <;> simp [failP_at, okS]
    have HAT := Lib.hid h0
    clear h0 hlev hup hpar HO1 hs2
    unfold exA at HBO
    go_wp2_with fail
    refine HO.out.mono ?_
    rintro en w7 ⟨rfl, rfl⟩
    have e5 := HE6.out.all5
    have p3 := HBP6.out.all3
    have hd7 : Keep (fun _ => False) w7 w7.drew := (Keep.refl _ w7).drew
    have HD7 := Lib.hid hd7
    clear hd7
    go_upto_region 5 with fail
    go_region_with (go_at_call 87; refine (HBO.out _ (HRD6.out.keepF HD7.out) (HROW6.out.keepF HD7.out)).mono ?_; rintro en w8 ⟨rfl, hrd8, hk8⟩; have HRD8 := Lib.hid hrd8; have HK8 := Lib.hid ((HD7.out.mono (Q := (· = b)) (fun _ _ h => h.elim)).trans hk8); clear hrd8 hk8)
    all_goals
      have HE8 := Lib.hid (HK8.out.blk HE6.out (by omega))
      have HB88 := Lib.hid (HK8.out.blk HB86.out (by omega))
      have HROW8 := Lib.hid (HROW6.out.keep HK8.out (fun k h1 h2 => by have h2 : W4.heap.size ≤ k := h2; have := HRD4.out.blk.lt; omega))
      have HKW8 := Lib.hid (((HK6.out.mono (Q := (· = b)) (fun _ _ h => h.elim)).trans HK8.out).mono (Q := fun _ => False) (fun k hk h => by omega))
      have HO2 := OKH.out w8 s2 HRD8.out
      have r6 := HRD8.out.all6
      have d4 := HB88.out.all4
      have e5' := HE8.out.all5
      clear e5 p3 HO
      by_cases h0 : s2.code = 0
      · rw [decide_eq_true h0] at HO2
        have hpar := HPAR.out
        rw [if_pos h0] at hpar
        have HPAR := Lib.hid hpar
        have HO := Lib.hid HO2
        clear HO2 h0 hpar
        go_wp2_with fail
        refine HO.out.mono ?_
        rintro en w9 ⟨rfl, rfl⟩
        go_wp2_with fail
        go_region
        all_goals
          go_wp2_with fail
          refine bodyPost_ret (v := .tuple #[.agg (exA e A cc), .int .i64 s2.at_, .agg #[.int .i64 0, .int .i64 0, .int .i64 0, .int .i64 0]]) (by simp [exA, results, Tryz.results47, go_sem, e5', d4]) rfl ?_
          rw [HPAR.out, HAT.out]
          refine ⟨A, cc, rfl, ?_, (Keep.put4 (Keep.put5 HKW8.out (.inl (Nat.le_refl _)) _ _ _ _ _) (.inl (by omega)) _ _ _ _).drew⟩
          have hrow := HROW8.out.base (Nat.le_of_lt hsz4)
          have hrow2 : RdRow (fun k => w.heap.size + 1 < k) w9 e.list A := HROW8.out.mono (fun k _ h => by have h : W4.heap.size ≤ k := h; have := HRD4.out.blk.lt; omega)
          exact ((((hrow2.keep (P := (· = w.heap.size)) (Keep.put5 (P := (· = w.heap.size)) (b := w.heap.size) (Keep.refl _ _) (.inr rfl) _ _ _ _ _) (fun k h1 h2 => by omega)).keep (P := (· = w.heap.size + 1)) (Keep.put4 (P := (· = w.heap.size + 1)) (b := w.heap.size + 1) (Keep.refl _ _) (.inr rfl) _ _ _ _) (fun k h1 h2 => by omega)).keepF ((Keep.refl _ _).drew))).mono (fun k _ h => by show w.heap.size ≤ k; omega)
      · rw [decide_eq_false h0] at HO2
        have hpar := HPAR.out
        rw [if_neg h0] at hpar
        have HPAR := Lib.hid hpar
        have HO := Lib.hid HO2
        clear HO2 h0 hpar
        go_wp2_with fail
        refine HO.out.mono ?_
        rintro en w9 ⟨rfl, rfl⟩
        go_wp2_with fail
        go_region
        all_goals
          go_wp2_with fail
          refine bodyPost_ret (v := .tuple #[.agg (exA exNil none 0), .int .i64 i, .agg #[.int .i64 s2.code, .int .i64 s2.pos.1, .int .i64 s2.pos.2.1, .int .i64 s2.pos.2.2]]) (by simp [exA, exNil, Ex.op, Ex.num, Ex.name, Ex.field, Ex.list, results, Tryz.results47, go_sem, e5', d4]) rfl ?_
          rw [HPAR.out]
          exact ⟨none, 0, rfl, RdRow.nil _ _ _, (Keep.put4 (Keep.put5 HKW8.out (.inl (Nat.le_refl _)) _ _ _ _ _) (.inl (by omega)) _ _ _ _).drew⟩
  · have hres : parseAt l i = .bad st.code st.pos := by
      have hf := HFIT.out
      unfold parseAt
      cases hr : levAt l i with
      | ok e' j => rw [hr] at hf; obtain ⟨_, rfl⟩ := hf; exact absurd rfl h0
      | bad c' p' => rw [hr] at hf; obtain ⟨_, rfl, rfl⟩ := hf; rfl
    have HRES := Lib.hid hres
    have HO1 := OKH.out w6 st HRD6.out
    rw [decide_eq_false h0] at HO1
    have HO := Lib.hid HO1
    clear h0 hres HO1
    go_wp2_with fail
    refine HO.out.mono ?_
    rintro en w7 ⟨rfl, rfl⟩
    go_wp2_with fail
    refine HO.out.mono ?_
    rintro en w8 ⟨rfl, rfl⟩
    have r6 := HRD6.out.all6
    have d4 := HB86.out.all4
    have e5 := HE6.out.all5
    go_wp2_with fail
    go_region
    all_goals
      go_wp2_with fail
      refine bodyPost_ret (v := .tuple #[.agg (exA exNil none 0), .int .i64 i, .agg #[.int .i64 st.code, .int .i64 st.pos.1, .int .i64 st.pos.2.1, .int .i64 st.pos.2.2]]) (by simp [exA, exNil, Ex.op, Ex.num, Ex.name, Ex.field, Ex.list, results, Tryz.results47, go_sem, e5, d4]) rfl ?_
      rw [HRES.out]
      exact ⟨none, 0, rfl, RdRow.nil _ _ _, (Keep.put4 (Keep.put5 HK6.out (.inl (Nat.le_refl _)) _ _ _ _ _) (.inl (by omega)) _ _ _ _).drew⟩
end Go.Proofs.YtgmmjhelcpgakaaGreatDoor
