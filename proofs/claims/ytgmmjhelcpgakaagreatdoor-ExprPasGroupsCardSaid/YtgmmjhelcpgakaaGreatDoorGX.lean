/- Package exprpas: two, relation. -/
import Derived.Test.YtgmmjhelcpgakaaGreatDoorGO
import Derived.Test.YtgmmjhelcpgakaaGreatDoorGP
import Derived.Deep.RegionLaw
import Derived.Deep.RegionHeld3
namespace Go.Proofs.YtgmmjhelcpgakaaGreatDoor
open Go.RowKit
set_option linter.unusedVariables false
set_option linter.unusedSimpArgs false

def TwoPost (S : Nat → Prop) (w : World) (e : Ex) (en : Ending) (w' : World) : Prop := ∃ A c, en = .returned (.agg (exA e A c)) ∧ RdRow S w' e.list A ∧ Keep (fun _ => False) w w'
set_option maxRecDepth 100000 in
set_option maxHeartbeats 2000000 in
theorem two_any (S : Nat → Prop) (o : Int) (x y : Ex) (A1 A2 : Option Addr) (c1 c2 : Nat) (w : World) (hB : ∀ k, w.heap.size ≤ k → S k) (h1 : RdRow S w x.list A1) (h2 : RdRow S w y.list A2) :
    Calls Tryz.prog 90 #[.int .i64 o, .agg #[.int .i64 x.op, .int .i64 x.num, .string x.name, .string x.field, .slice A1 x.list.length c1], .agg #[.int .i64 y.op, .int .i64 y.num, .string y.name, .string y.field, .slice A2 y.list.length c2]] w (TwoPost S w (exTwo o x y)) := by
  have hu := Tryz.underlying25
  have H1 := Lib.hid h1; have H2 := Lib.hid h2; have HB := Lib.hid hB
  clear h1 h2 hB
  go_enter Tryz.func90, Tryz.ntmps90
  go_wp2_with fail
  refine bodyPost_ret (v := .agg #[.int .i64 o, .int .i64 0, .string ⟨#[]⟩, .string ⟨#[]⟩, .slice (some ⟨w.heap.size + 1 + 1 + 1, 0, none⟩) 2 2]) (by simp [results, Tryz.results90, go_sem]) rfl ⟨_, _, rfl, ?_, ?_⟩
  · have hk : Keep (fun _ => False) w _ := (((((Keep.refl (fun _ => False) w).alloc (.cells (exA x A1 c1) 25)).alloc (.cells (exA y A2 c2) 25)).alloc (.cells #[.int .i64 o, .int .i64 0, .string ⟨#[]⟩, .string ⟨#[]⟩, .slice (some ⟨w.heap.size + 1 + 1 + 1, 0, none⟩) 2 2] 25)).alloc (.cells (exA x A1 c1 ++ exA y A2 c2) 25))
    refine RdRow.two (t := 25) (HB.out _ (by omega)) (H1.out.keepF hk) (H2.out.keepF hk) (c := c1) (c' := c2) ?_
    have := Blk.new (((w.alloc (.cells (exA x A1 c1) 25)).alloc (.cells (exA y A2 c2) 25)).alloc (.cells #[.int .i64 o, .int .i64 0, .string ⟨#[]⟩, .string ⟨#[]⟩, .slice (some ⟨w.heap.size + 1 + 1 + 1, 0, none⟩) 2 2] 25)) (exA x A1 c1 ++ exA y A2 c2) 25
    simpa [exA] using this
  · (repeat (first | exact Keep.refl _ _ | assumption | (refine Keep.setCell ?_ (fun h => absurd h (by first | (simp; done) | (simp; omega) | omega)) _) | refine Keep.alloc ?_ _ | refine Keep.drew ?_ | refine Keep.drewN ?_ _))
theorem beq_lit (s : ByteArray) (y : List UInt8) : (s.toList == y) = decide (s = ⟨y.toArray⟩) := by
  rw [← beq_str]
  congr 1
  rw [ByteArray.toList_eq]
theorem relation_any (s : ByteArray) (w : World) :
    Calls Tryz.prog 91 #[.string s] w fun e w' => e = .returned (.int .i64 (relOp s)) ∧ w' = w := by
  unfold relOp
  by_cases h0 : s = gEq
  · subst h0
    go_enter Tryz.func91, Tryz.ntmps91
    go_wp2_with fail
    go_ret
    exact ⟨rfl, rfl⟩
  have n0 : (s.toList == [61]) = false := by rw [beq_lit]; simpa using h0
  by_cases h1 : s = gNe
  · subst h1
    clear n0
    go_enter Tryz.func91, Tryz.ntmps91
    go_wp2_with fail
    go_ret
    exact ⟨rfl, rfl⟩
  have n1 : (s.toList == [60, 62]) = false := by rw [beq_lit]; simpa using h1
  by_cases h2 : s = gLt
  · subst h2
    clear n0 n1
    go_enter Tryz.func91, Tryz.ntmps91
    go_wp2_with fail
    go_ret
    exact ⟨rfl, rfl⟩
  have n2 : (s.toList == [60]) = false := by rw [beq_lit]; simpa using h2
  by_cases h3 : s = gLe
  · subst h3
    clear n0 n1 n2
    go_enter Tryz.func91, Tryz.ntmps91
    go_wp2_with fail
    go_ret
    exact ⟨rfl, rfl⟩
  have n3 : (s.toList == [60, 61]) = false := by rw [beq_lit]; simpa using h3
  by_cases h4 : s = gGt
  · subst h4
    clear n0 n1 n2 n3
    go_enter Tryz.func91, Tryz.ntmps91
    go_wp2_with fail
    go_ret
    exact ⟨rfl, rfl⟩
  have n4 : (s.toList == [62]) = false := by rw [beq_lit]; simpa using h4
  rw [if_neg h0, if_neg h1, if_neg h2, if_neg h3, if_neg h4]
  clear h0 h1 h2 h3 h4
  go_enter Tryz.func91, Tryz.ntmps91
  go_wp2_with fail
  go_ret
  exact ⟨rfl, rfl⟩
end Go.Proofs.YtgmmjhelcpgakaaGreatDoor
/- Package words: letter, Check; package tree: few, checker.name, checker.routine at Pas. -/
namespace Go.Proofs.YtgmmjhelcpgakaaGreatDoor
open Go.RowKit
set_option linter.unusedVariables false
set_option linter.unusedSimpArgs false

theorem globW {w w' : World} (h : Glob w.heap.size w) (hk : Keep (fun _ => False) w w') : Glob w'.heap.size w' := by
  have h2 : Glob w.heap.size w' := h.keep hk (Nat.le_refl _) (fun _ h => h.elim)
  have hs := hk.size
  exact ⟨h2.space, h2.pow, h2.syn, h2.rng, Nat.lt_of_lt_of_le h2.b1 hs, Nat.lt_of_lt_of_le h2.b2 hs, Nat.lt_of_lt_of_le h2.b3 hs, Nat.lt_of_lt_of_le h2.b4 hs⟩
theorem letW_eq (c : UInt8) (first : Bool) (n : Int) (hn : n = (c.toNat : Int)) : letW c first = (decide (97 ≤ n ∧ n ≤ 122) || (!first && (decide (n = 95) || decide (48 ≤ n ∧ n ≤ 57)))) := by
  subst hn
  have h1 : (c == 95) = decide ((c.toNat : Int) = 95) := by
    rw [Bool.eq_iff_iff, beq_iff_eq, decide_eq_true_iff]
    constructor
    · rintro rfl; rfl
    · intro h; exact UInt8.toNat_inj.1 (by show c.toNat = 95; omega)
  unfold letW
  rw [h1]
  congr 1
  · rw [decide_eq_decide]; omega
  · congr 2; rw [decide_eq_decide]; omega
set_option maxRecDepth 100000 in
set_option maxHeartbeats 2000000 in
theorem letter_any (c : UInt8) (first : Bool) (n : Int) (hn : n = (c.toNat : Int)) (w : World) :
    Calls Tryz.prog 152 #[.int .u8 n, .bool first] w fun e w' => e = .returned (.bool (letW c first)) ∧ w' = w := by
  rw [letW_eq c first n hn]
  clear hn
  cases first with
  | true =>
    go_enter Tryz.func152, Tryz.ntmps152
    go_wp2_with fail
    all_goals (go_ret; refine ⟨?_, rfl⟩; refine congrArg (fun b => Ending.returned (.bool b)) ?_; rw [Bool.eq_iff_iff]; (try simp only [Bool.or_eq_true, Bool.and_eq_true, decide_eq_true_eq, beq_iff_eq, Bool.not_false, Bool.not_true, true_and, false_and, Bool.false_eq_true, or_false, true_iff, iff_true, false_or]); (first | done | omega | (constructor <;> intro hq <;> first | exact hq.elim | omega)))
  | false =>
    go_enter Tryz.func152, Tryz.ntmps152
    go_wp2_with fail
    all_goals (go_ret; refine ⟨?_, rfl⟩; refine congrArg (fun b => Ending.returned (.bool b)) ?_; rw [Bool.eq_iff_iff]; (try simp only [Bool.or_eq_true, Bool.and_eq_true, decide_eq_true_eq, beq_iff_eq, Bool.not_false, Bool.not_true, true_and, false_and, Bool.false_eq_true, or_false, true_iff, iff_true, false_or]); (first | done | omega | (constructor <;> intro hq <;> first | exact hq.elim | omega)))
theorem lettersW_iff (l : Bs) : lettersW l = true ↔ ∀ j, j < l.length → letW (l.getD j 0) (j == 0) = true := by
  unfold lettersW; rw [List.all_eq_true]; simp
set_option maxRecDepth 100000 in
set_option maxHeartbeats 2000000 in
theorem check_any (s : ByteArray) (hs : s.size ≤ 9223372036854775807) (w : World) :
    Calls Tryz.prog 129 #[.string s] w fun e w' => e = .returned (.int .i64 (checkW (bs s))) ∧ w' = w := by
  obtain ⟨R, hR⟩ : ∃ R, R = checkW (bs s) := ⟨_, rfl⟩
  rw [← hR]
  have HR := Lib.hid hR
  clear hR
  go_enter Tryz.func129, Tryz.ntmps129
  go_wp2_with fail
  go_loop [6] (fun i => ∃ k : Nat, k ≤ s.size ∧ i = .int .i64 k ∧ Hid (∀ j, j < k → letW ((bs s).getD j 0) (j == 0) = true)) (fun i => s.size - (intOf i).toNat)
  case atStart => exact ⟨0, Nat.zero_le _, rfl, Lib.hid (fun j h => by omega)⟩
  case round =>
    obtain ⟨k, hk, rfl, HG⟩ := hrel
    by_cases hlt : k < s.size
    · have hb := bs_get s k hlt
      have hi0 : (0 : Int) ≤ (k : Int) := by omega
      have hi1 : (k : Int) < (s.size : Int) := by omega
      have hg : (bs s).getD k 0 = s[k] := by rw [List.getD_eq_getElem?_getD, hb]; rfl
      have HL := Lib.hid (fun (f : Bool) (n : Int) (hn : n = (s[k].toNat : Int)) (W : World) => letter_any s[k] f n hn W)
      have HGK := Lib.hid hg
      have hke : ((k : Int) == 0) = (k == 0) := by
        rw [Bool.eq_iff_iff, beq_iff_eq, beq_iff_eq]; omega
      obtain ⟨v, hv⟩ : ∃ v, v = letW s[k] (k == 0) := ⟨_, rfl⟩
      have HV := Lib.hid hv
      have HKE := Lib.hid hke
      clear hb hg hke hv
      go_wp2_with fail
      refine (HL.out _ _ (by first | rfl | (simp; done)) _).mono ?_
      rintro e w' ⟨rfl, rfl⟩
      rw [HKE.out, ← HV.out]
      cases v with
      | true =>
        go_wp2_with fail
        refine ⟨⟨k + 1, by omega, by go_num, Lib.hid (fun j hj => ?_)⟩, by simp [intOf]; omega⟩
        rcases Nat.lt_or_ge j k with h1 | h1
        · exact HG.out j h1
        · obtain rfl : j = k := by omega
          rw [HGK.out, ← HV.out]
      | false =>
        have hr : R = 11 := by
          rw [HR.out]; unfold checkW
          rw [if_pos]
          cases h : lettersW (bs s) with
          | false => rfl
          | true =>
            have := (lettersW_iff _).1 h k (by rw [bs_len]; exact hlt)
            rw [HGK.out, ← HV.out] at this
            cases this
        subst hr
        go_wp2_with fail
        go_ret
        exact ⟨rfl, rfl⟩
    · obtain rfl : k = s.size := by omega
      have hl : lettersW (bs s) = true := (lettersW_iff _).2 (by rw [bs_len]; exact HG.out)
      have HLL := Lib.hid hl
      clear hl
      by_cases he : s = ⟨#[]⟩
      · subst he
        have hr : R = 11 := by rw [HR.out]; decide
        subst hr
        go_wp2_with fail
        go_ret
        exact ⟨rfl, rfl⟩
      · have hne : bs s ≠ [] := fun h => he (byteArray_ext (by rw [h]; rfl))
        have hnl : (s.toList == []) = false := by rw [beq_lit]; simpa using he
        by_cases h32 : 32 < s.size
        · have hr : R = 3 := by rw [HR.out]; unfold checkW; rw [if_neg (by rw [HLL.out]; decide), if_neg hne, if_pos (by rw [bs_len]; exact h32)]
          subst hr
          clear he hne
          go_wp2_with fail
          go_ret
          exact ⟨rfl, rfl⟩
        · have hr : R = 0 := by rw [HR.out]; unfold checkW; rw [if_neg (by rw [HLL.out]; decide), if_neg hne, if_neg (by rw [bs_len]; exact h32)]
          subst hr
          clear he hne
          go_wp2_with fail
          go_ret
          exact ⟨rfl, rfl⟩
end Go.Proofs.YtgmmjhelcpgakaaGreatDoor
/- Package tree: few, checker.name, checker.routine, checker.deepest at Pas. -/
namespace Go.Proofs.YtgmmjhelcpgakaaGreatDoor
open Go.RowKit
set_option linter.unusedVariables false
set_option linter.unusedSimpArgs false

set_option maxRecDepth 100000 in
theorem few_any (A : Option Addr) (n c : Nat) (w : World) :
    Calls Tryz.prog 96 #[.slice A n c] w fun e w' => e = .returned (.bool (decide (n ≤ 512))) ∧ w' = w := by
  by_cases h : n ≤ 512
  · have h1 : decide ((n : Int) ≤ 512) = true := by simp; omega
    have h2 : decide (n ≤ 512) = true := by simpa using h
    rw [h2]
    clear h h2
    go_enter Tryz.func96, Tryz.ntmps96
    go_wp2_with fail
    go_ret
    exact ⟨rfl, rfl⟩
  · have h1 : decide ((n : Int) ≤ 512) = false := by simp; omega
    have h2 : decide (n ≤ 512) = false := by simpa using h
    rw [h2]
    clear h h2
    go_enter Tryz.func96, Tryz.ntmps96
    go_wp2_with fail
    go_ret
    exact ⟨rfl, rfl⟩
def BPostF (b : Bool) (w : World) (e : Ending) (w' : World) : Prop := e = .returned (.bool b) ∧ Keep (fun _ => False) w w'
set_option maxRecDepth 100000 in
set_option maxHeartbeats 2000000 in
theorem ckName_any (s : ByteArray) (hs : s.size ≤ 9223372036854775807) (w : World) (hg : Glob w.heap.size w) :
    Calls Tryz.prog 97 #[.agg #[.int .i64 0], .string s] w (BPostF (nameOK s) w) := by
  have HG := Lib.hid hg
  obtain ⟨R, hR⟩ : ∃ R, R = nameOK s := ⟨_, rfl⟩
  rw [← hR]
  have HR := Lib.hid hR
  obtain ⟨k, hk⟩ : ∃ k, k = checkW (bs s) := ⟨_, rfl⟩
  have HK := Lib.hid hk
  have HC := Lib.hid (fun W => check_any s hs W)
  rw [← hk] at HC
  clear hg hR hk hs
  go_enter Tryz.func97, Tryz.ntmps97
  go_wp2_with fail
  obtain ⟨W0, hWW0⟩ : ∃ W0, W0 = w.alloc (.cells #[.int .i64 0] 109) := ⟨_, rfl⟩
  rw [← hWW0]
  have HBW0 := Lib.hid (show Blk W0 w.heap.size #[.int .i64 0] 109 by rw [hWW0]; exact Blk.new _ _ _)
  have HAW0 := Lib.hid (show Keep (fun _ => False) w W0 by rw [hWW0]; exact (Keep.refl _ _).alloc _)
  have HZW0 := Lib.hid (show W0.heap.size = w.heap.size + 1 by rw [hWW0]; simp)
  clear hWW0
  refine (HC.out _).mono ?_
  rintro e w1 ⟨rfl, rfl⟩
  by_cases h0 : k = 0
  · subst h0
    have HN : Hid (R = !isWord (bs s)) := by show _ = _; rw [HR.out]; unfold nameOK; rw [← HK.out]; rfl
    have c0 := HBW0.out.at_ 0 (v := .int .i64 0) rfl
    have hgl := (globW HG.out HAW0.out).space
    obtain ⟨q, hq⟩ : ∃ q, q = isWord (bs s) := ⟨_, rfl⟩
    have HW := Lib.hid (wordsIs_any s w1 hgl)
    rw [← hq] at HW HN
    clear hq hgl
    go_wp2_with fail
    refine HW.out.mono ?_
    rintro e w2 ⟨rfl, hk2⟩
    have hr := HN.out
    subst hr
    go_wp2_with fail
    go_ret
    exact ⟨rfl, HAW0.out.trans hk2⟩
  · have hr : R = false := by rw [HR.out]; unfold nameOK; rw [← HK.out]; simp [h0]
    subst hr
    have h1 : ((k : Int) == 0) = false := by rw [beq_eq_false_iff_ne]; omega
    clear h0
    go_wp2_with fail
    go_ret
    exact ⟨rfl, HAW0.out⟩
set_option maxRecDepth 100000 in
set_option maxHeartbeats 2000000 in
theorem ckRoutine_any (s : ByteArray) (hs : s.size ≤ 9223372036854775807) (w : World) (hg : Glob w.heap.size w) :
    Calls Tryz.prog 131 #[.agg #[.int .i64 0], .string s] w (BPostF (nameOK s) w) := by
  have HG := Lib.hid hg
  obtain ⟨R, hR⟩ : ∃ R, R = nameOK s := ⟨_, rfl⟩
  have HC := Lib.hid (fun W h => ckName_any s hs W h)
  rw [← hR] at HC ⊢
  clear hg hs hR
  go_enter Tryz.func131, Tryz.ntmps131
  go_wp2_with fail
  have hk0 : Keep (fun _ => False) w ((w.alloc (.cells #[.int .i64 0] 109)).alloc (.cells #[.bool false] 4)) := ((Keep.refl _ w).alloc _).alloc _
  refine (HC.out _ (globW HG.out hk0)).mono ?_
  rintro e w2 ⟨rfl, hk2⟩
  have hb : Blk w2 (w.heap.size + 1) #[.bool false] 4 := hk2.blk (Blk.new' (by simp) _ _) (fun h => h)
  have hbf := hb.free 0
  have hbl := hb.lt
  have hbc := hb.at_ 0 (v := .bool false) rfl
  have HB := Lib.hid hb
  have HK := Lib.hid (hk0.trans hk2)
  clear hb hk0 hk2
  go_wp2_with fail
  have hc := (HB.out.set 0 (.bool R)).at_ 0 (v := .bool R) rfl
  clear hbc
  refine bodyPost_ret (by simp [results, Tryz.results131, go_sem, hc]; rfl) rfl ?_
  exact ⟨rfl, HK.out.setCell (p := ⟨w.heap.size + 1, 0, none⟩) (fun h => by simp at h; omega) _⟩
theorem foldl_max_le : ∀ (l : List Nat) (m : Nat), m ≤ l.foldl max m
  | [], m => Nat.le_refl _
  | a :: l, m => Nat.le_trans (Nat.le_max_left m a) (foldl_max_le l (max m a))
/-- What deepest needs of an operand. -/
def CkP (x : Ex) : Prop := ∀ (A : Option Addr) (c : Nat) (S : Nat → Prop) (w : World), Glob w.heap.size w → x.list.length ≤ c → KdRow S w x.list A →
    Calls Tryz.prog 54 #[.agg #[.int .i64 0], .agg (exA x A c)] w fun e w' => e = .returned (.int .i64 (chk x)) ∧ Keep (fun _ => False) w w'
def DPost (n : Nat) (w : World) (e : Ending) (w' : World) : Prop := e = .returned (.int .i64 n) ∧ Keep (fun _ => False) w w'
set_option maxRecDepth 100000 in
set_option maxHeartbeats 8000000 in
theorem deepest_any (l : List Ex) (hl : l.length ≤ 2305843009213693951) (ih : ∀ x ∈ l, CkP x) (hb : ∀ x ∈ l, chk x ≤ 48) (A : Option Addr) (c : Nat) (S : Nat → Prop) (w : World) (hg : Glob w.heap.size w) (hr : KdRow S w l A) :
    Calls Tryz.prog 99 #[.agg #[.int .i64 0], .slice A l.length c] w (DPost (deepS (l.map chk)) w) := by
  have HG := Lib.hid hg; have HR := Lib.hid hr; have HIH := Lib.hid ih; have HB := Lib.hid hb
  obtain ⟨D, hD⟩ : ∃ D, D = deepS (l.map chk) := ⟨_, rfl⟩
  rw [← hD]
  obtain ⟨n, hn⟩ : ∃ n, n = l.length := ⟨_, rfl⟩
  rw [← hn] at hl ⊢
  have HD := Lib.hid hD; have HN := Lib.hid hn
  clear hg hr ih hb hD hn
  go_enter Tryz.func99, Tryz.ntmps99
  go_wp2_with fail
  obtain ⟨W0, hWW0⟩ : ∃ W0, W0 = w.alloc (.cells #[.int .i64 0] 109) := ⟨_, rfl⟩
  rw [← hWW0]
  have HBW0 := Lib.hid (show Blk W0 w.heap.size #[.int .i64 0] 109 by rw [hWW0]; exact Blk.new _ _ _)
  have HAW0 := Lib.hid (show Keep (fun _ => False) w W0 by rw [hWW0]; exact (Keep.refl _ _).alloc _)
  have HZW0 := Lib.hid (show W0.heap.size = w.heap.size + 1 by rw [hWW0]; simp)
  clear hWW0
  have c0 := HBW0.out.at_ 0 (v := .int .i64 0) rfl
  have hz0 := HBW0.out.lt
  have HGW := Lib.hid (globW HG.out HAW0.out)
  go_loopw [5, 11] (fun d i wr => ∃ (k m : Nat), k ≤ n ∧ m ≤ 48 ∧ i = .int .i64 k ∧ d = .int .i64 m ∧ Hid (m = ((l.take k).map chk).foldl max 0 ∧ 0 ∉ (l.take k).map chk) ∧ Keep (fun _ => False) W0 wr) (fun _ i _ => n - (intOf i).toNat)
  case atStart => exact ⟨0, 0, Nat.zero_le _, by omega, rfl, rfl, Lib.hid ⟨rfl, by simp⟩, Keep.refl _ _⟩
  case round =>
    obtain ⟨k, m, hk, hm48, rfl, rfl, HM, hkp⟩ := hrel
    have HKP := Lib.hid hkp; clear hkp
    have c1 := (HKP.out.blk HBW0.out (fun h => h)).at_ 0 (v := .int .i64 0) rfl
    have hz1 := (HKP.out.blk HBW0.out (fun h => h)).lt
    by_cases hlt : k < n
    · have hkx : k < l.length := by rw [← HN.out]; exact hlt
      obtain ⟨y, hy⟩ : ∃ y, l[k]? = some y := ⟨_, List.getElem?_eq_getElem hkx⟩
      have hymem := List.mem_of_getElem? hy
      obtain ⟨bb, off, rfl, hbS, hcs⟩ := ((HR.out.keepF HAW0.out).keepF HKP.out) (by intro h; rw [h] at hkx; simp at hkx)
      obtain ⟨Ay, cy, hycap, hyr, hyc⟩ := hcs.at_ k y hy
      have k0 := hyc 0 (by decide)
      have k1 := hyc 1 (by decide)
      have k2 := hyc 2 (by decide)
      have k3 := hyc 3 (by decide)
      have k4 := hyc 4 (by decide)
      have hbb : bb < wr.heap.size := hcs.lt (by intro h; rw [h] at hkx; simp at hkx)
      simp only [exA, List.getElem?_toArray, List.getElem?_cons_succ, List.getElem?_cons_zero, Nat.add_zero] at k0 k1 k2 k3 k4
      have hi0 : (0 : Int) ≤ (k : Int) := by omega
      have hi1 : (k : Int) < (n : Int) := by omega
      have HYR := Lib.hid hyr; have HY := Lib.hid hy; have HYM := Lib.hid hymem
      clear hyc hcs hyr hymem hy
      go_wp2_with fail
      refine (HIH.out y HYM.out Ay cy S _ (globW HGW.out (HKP.out.alloc _)) hycap (HYR.out.keepF ((Keep.refl _ _).alloc _))).mono ?_
      rintro e w1 ⟨rfl, hk1⟩
      have HK1 := Lib.hid (HKP.out.trans (((Keep.refl _ _).alloc _).trans hk1))
      obtain ⟨dy, hdy⟩ : ∃ dy, dy = chk y := ⟨_, rfl⟩
      have hy48 := HB.out y HYM.out
      rw [← hdy] at hy48 ⊢
      have HDY := Lib.hid hdy
      clear hk1 hdy
      by_cases h0 : dy = 0
      · subst h0
        have hd0 : D = 0 := by
          rw [HD.out]; unfold deepS
          rw [if_pos (List.mem_map.2 ⟨y, HYM.out, HDY.out.symm⟩)]
        subst hd0
        go_wp2_with fail
        go_ret
        exact ⟨rfl, HAW0.out.trans HK1.out⟩
      · have h1 : ((dy : Int) == 0) = false := by rw [beq_eq_false_iff_ne]; omega
        have HNE := Lib.hid h0
        clear h0
        go_wp2_with fail
        refine ⟨⟨k + 1, max m dy, by omega, by omega, by go_num, by congr 1; omega, Lib.hid ⟨?_, ?_⟩, HK1.out⟩, by simp [intOf]; omega⟩
        · rw [List.take_add_one, HY.out]; simp [List.foldl_append, ← HDY.out]; rw [← List.map_take, ← HM.out.1]
        · rw [List.take_add_one, HY.out]
          have := HM.out.2
          have h2 := HNE.out
          simp only [Option.toList_some, List.map_append, List.map_cons, List.map_nil, List.mem_append, List.mem_singleton, not_or]
          exact ⟨this, by rw [← HDY.out]; omega⟩
    · obtain rfl : k = n := by omega
      have hall := HM.out
      rw [HN.out, List.take_length] at hall
      have hDD : D = if 48 ≤ m then 0 else m + 1 := by
        rw [HD.out]; unfold deepS
        rw [if_neg hall.2, ← hall.1]
      by_cases h48 : m = 48
      · have hd0 : D = 0 := by rw [hDD, if_pos (by omega)]
        subst hd0
        clear hDD hall
        have h1 : decide ((48 : Int) ≤ (m : Int)) = true := by simp; omega
        clear h48
        go_wp2_with fail
        go_ret
        exact ⟨rfl, HAW0.out.trans HKP.out⟩
      · have hd0 : D = m + 1 := by rw [hDD, if_neg (by omega)]
        clear hDD hall
        have h1 : decide ((48 : Int) ≤ (m : Int)) = false := by simp; omega
        have HD1 := Lib.hid hd0
        clear h48 hd0
        go_wp2_with fail
        go_ret
        refine ⟨?_, HAW0.out.trans HKP.out⟩
        rw [HD1.out]; rfl
end Go.Proofs.YtgmmjhelcpgakaaGreatDoor
/- Package exprpas: what its functions leave. -/
namespace Go.Proofs.YtgmmjhelcpgakaaGreatDoor
open Go.RowKit
set_option linter.unusedVariables false
set_option linter.unusedSimpArgs false

/-- What a reader's function leaves: an expression, read; the reader's state. -/
def ExPost (l : List TokL) (b g c : Nat) (e : Ex) (st' : RS) (w : World) (en : Ending) (w' : World) : Prop := ∃ A cc, en = .returned (.agg (exA e A cc)) ∧ RdRow (w.heap.size ≤ ·) w' e.list A ∧ Rdr w' b g c l st' ∧ Keep (· = b) w w'
def Does (l : List TokL) (b g c : Nat) (fn : FuncId) (tag : Pg) (f : Nat) : Prop := ∀ (st : RS) (w : World) (e : Ex) (st' : RS), Rdr w b g c l st → pm l f tag st = some (e, st') → Calls Tryz.prog fn #[.pointer (some ⟨b, 0, none⟩)] w (ExPost l b g c e st' w)
theorem thn_some {o : Option (Ex × RS)} {K : Ex → RS → Option (Ex × RS)} {r : Ex × RS} (h : thn o K = some r) : ∃ e st, o = some (e, st) ∧ K e st = some r := by
  cases o with
  | none => cases h
  | some q => exact ⟨q.1, q.2, rfl, h⟩
theorem textR_blk {w : World} {b t : Nat} {ts : List ByteArray} (h : Blk w b (ts.map Value.string).toArray t) : TextR w b ts := by
  intro j hj
  rw [h.cell]
  simp [List.getD_eq_getElem?_getD, List.getElem?_eq_getElem hj]
theorem isP_text {l : List TokL} {st : RS} {ts : List ByteArray} (h : isP l st ts = true) : takeT l st ts ∈ ts := by
  unfold takeT; rw [if_pos h]
  unfold isP at h
  simp only [Bool.and_eq_true, List.any_eq_true, decide_eq_true_eq] at h
  obtain ⟨_, _, x, h1, h2⟩ := h
  rw [h2]; exact h1

def OpsPost (l : List TokL) (b g c : Nat) (e : Ex) (st' : RS) (w : World) (en : Ending) (w' : World) : Prop := ∃ A cc, en = .returned (.slice A e.list.length cc) ∧ RdRow (w.heap.size ≤ ·) w' e.list A ∧ Rdr w' b g c l st' ∧ Keep (· = b) w w'
def DoesO (l : List TokL) (b g c : Nat) (f : Nat) : Prop := ∀ (st : RS) (w : World) (e : Ex) (st' : RS), Rdr w b g c l st → pm l f .operands st = some (e, st') → Calls Tryz.prog 203 #[.pointer (some ⟨b, 0, none⟩)] w (OpsPost l b g c e st' w)
end Go.Proofs.YtgmmjhelcpgakaaGreatDoor
