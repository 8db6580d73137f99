/- Package exprpas: level, sign, char; package text: Digits, Join. -/
import Derived.Test.YtgmmjhelcpgakaaGreatDoorGO
import Derived.Test.YtgmmjhelcpgakaaGreatDoorGP
import Derived.Test.YtgmmjhelcpgakaaGreatDoorShelf
import Derived.Lib.AppendIntMem
import Derived.Lib.Join
import Derived.Deep.RegionWith
namespace Go.Proofs.YtgmmjhelcpgakaaGreatDoor
open Go.RowKit
set_option linter.unusedVariables false
set_option linter.unusedSimpArgs false

set_option maxRecDepth 100000 in
set_option maxHeartbeats 2000000 in
theorem levelPas_any (o : Int) (w : World) :
    Calls Tryz.prog 59 #[.int .i64 o] w fun e w' => e = .returned (.int .i64 (lvlP o)) ∧ w' = w := by
  go_enter Tryz.func59, Tryz.ntmps59
  go_wp2_with fail
  all_goals (go_ret; refine ⟨?_, rfl⟩; unfold lvlP; (try simp only [beq_iff_eq, beq_eq_false_iff_ne, ne_eq] at *); first | (rw [if_pos (by omega)]; rfl) | (rw [if_neg (by omega), if_pos (by omega)]; rfl) | (rw [if_neg (by omega), if_neg (by omega), if_pos (by omega)]; rfl) | (rw [if_neg (by omega), if_neg (by omega), if_neg (by omega)]; rfl) | skip)
theorem globF {base : Nat} {w w' : World} (h : Glob base w) (hk : Keep (fun _ => False) w w') (hb : base ≤ w.heap.size) : Glob base w' := h.keep hk hb (fun _ h => h.elim)
set_option maxRecDepth 100000 in
theorem digits_any (n : Int) (h0 : -9223372036854775808 ≤ n) (h1 : n ≤ 9223372036854775807) (w : World) (hg : Lib.TabIs Tryz.prog w "internal/strconv.uint64pow10" .u64 Lib.pow10Tab) :
    Calls Tryz.prog 56 #[.int .i64 n] w fun e w' => e = .returned (.string ⟨(Lib.itoa n).toArray⟩) ∧ Keep (fun _ => False) w w' := by
  have C := fun (W : World) (h : Lib.TabIs Tryz.prog W "internal/strconv.uint64pow10" .u64 Lib.pow10Tab) => (Any.strconv_FormatInt_10 Tryz.laysM173 n h0 h1 W h).mono (R' := fun e w' => e = .returned (.string ⟨(Lib.itoa n).toArray⟩) ∧ Keep (fun _ => False) W w') (by rintro e w' ⟨rfl, k, os, rfl⟩; exact ⟨rfl, Keep.of_below (Lib.below_grow _ _ (Nat.le_refl _) _ _)⟩)
  go_enter Tryz.func56, Tryz.ntmps56
  go_wp2_with (go_at_call 102; refine (C _ hg).mono ?_; rintro e w' ⟨rfl, hk⟩)
  go_ret
  exact ⟨rfl, hk⟩
theorem join_flat : ∀ l : List Bs, Lib.join l [] = l.flatten
  | [] => rfl
  | [a] => by rw [Lib.join_one]; simp
  | a :: b :: r => by
    have ih := join_flat (b :: r)
    unfold Lib.join at *
    rw [List.flatten_cons, ← ih]
    simp [List.intercalate, List.intersperse]
set_option maxRecDepth 100000 in
theorem join_any (bk c : Nat) (t : Nat) (xs : List ByteArray) (w : World) (hb : Blk w bk (xs.map Value.string).toArray t) (hc : xs.length ≤ c) (hn : xs.length ≤ 1000) (hl : (xs.map bs).flatten.length ≤ 1000000) :
    Calls Tryz.prog 103 #[.slice (some ⟨bk, 0, none⟩) xs.length c] w fun e w' => e = .returned (.string ⟨(xs.map bs).flatten.toArray⟩) ∧ Keep (fun _ => False) w w' := by
  have hf : Lib.join (xs.map (·.data.toList)) [] = (xs.map bs).flatten := join_flat _
  have C := (Any.strings_Join Tryz.lays156 Tryz.Builder_Extra_156 bk 0 c xs ⟨#[]⟩ w (fun j x hx => by rw [Nat.zero_add]; exact hb.at_ j (by simp [hx])) hb.lt (by omega) hc (by show (Lib.join _ []).length ≤ _; rw [hf]; omega)).mono (R' := fun e w' => e = .returned (.string ⟨(xs.map bs).flatten.toArray⟩) ∧ Keep (fun _ => False) w w') (by rintro e w' ⟨rfl, hk⟩; exact ⟨by show Ending.returned (.string ⟨(Lib.join _ []).toArray⟩) = _; rw [hf], Keep.of_below hk⟩)
  clear hb hf
  go_enter Tryz.func103, Tryz.ntmps103
  go_wp2_with (go_at_call 134; refine C.mono ?_; rintro e w' ⟨rfl, hk⟩)
  go_ret
  exact ⟨rfl, hk⟩
end Go.Proofs.YtgmmjhelcpgakaaGreatDoor
/- Package exprpas: char. -/
namespace Go.Proofs.YtgmmjhelcpgakaaGreatDoor
open Go.RowKit
set_option linter.unusedVariables false
set_option linter.unusedSimpArgs false

theorem itoa_len (n : Int) (h0 : 0 ≤ n) (h1 : n ≤ 255) : (Lib.itoa n).length ≤ 3 := by
  obtain ⟨k, rfl⟩ := Int.eq_ofNat_of_zero_le h0
  have hk : k ≤ 255 := by omega
  unfold Lib.itoa
  rw [if_neg (by omega)]
  show (Lib.decDigits k).length ≤ 3
  rw [Lib.decDigits]
  split
  · simp
  · rw [List.length_append, Lib.decDigits]
    split
    · simp
    · rw [List.length_append, Lib.decDigits]
      split
      · simp
      · omega
set_option maxRecDepth 100000 in
set_option maxHeartbeats 4000000 in
theorem charPas_any (n : Int) (n0 : 0 ≤ n) (n1 : n ≤ 255) (w : World) (hg : Lib.TabIs Tryz.prog w "internal/strconv.uint64pow10" .u64 Lib.pow10Tab) :
    Calls Tryz.prog 57 #[.int .i64 n] w fun e w' => e = .returned (.string ⟨(charP n).toArray⟩) ∧ Keep (fun _ => False) w w' := by
  by_cases h39 : n = 39
  · subst h39
    go_enter Tryz.func57, Tryz.ntmps57
    go_wp2_with fail
    go_ret
    exact ⟨rfl, Keep.refl _ _⟩
  · have t39 : (n == 39) = false := by rw [beq_eq_false_iff_ne]; omega
    by_cases h32 : 32 ≤ n ∧ n ≤ 126
    · have t32 : decide (32 ≤ n) = true := by simp; omega
      have t126 : decide (n ≤ 126) = true := by simp; omega
      have HC : Hid (charP n = [39, UInt8.ofNat n.toNat, 39]) := by show _ = _; unfold charP; rw [if_neg h39, if_pos h32]
      obtain ⟨c, hc⟩ : ∃ c, c = UInt8.ofNat n.toNat := ⟨_, rfl⟩
      rw [← hc] at HC
      have hcn : (c.toNat : Int) = n := by rw [hc, UInt8.toNat_ofNat']; omega
      have HCN := Lib.hid hcn
      have hcv : ∀ W : World, Blk W w.heap.size #[.int .u8 n] 5 → (convert 112 9 (.slice (some ⟨w.heap.size, 0, none⟩) 1 1)).run Tryz.prog W = .ok (.string ⟨#[c]⟩) W := by
        intro W hW
        have h1 : strOfNums [(c.toNat : Int)] = ⟨#[c]⟩ := nums_bytes [c]
        rw [← h1]
        refine run_convert_bytes_arg _ _ _ Tryz.underlying112 Tryz.underlying5 w.heap.size 0 1 1 [(c.toNat : Int)] rfl (fun i hi => ?_) _ Tryz.underlying9
        obtain rfl : i = 0 := by omega
        rw [hcn]; exact hW.at_ 0 rfl
      have hcv2 := hcv _ (Blk.new w _ _)
      clear hcv hc hcn hg
      go_enter Tryz.func57, Tryz.ntmps57
      go_wp2_with fail
      refine (join_any (w.heap.size + 1) 3 9 [⟨#[39]⟩, ⟨#[c]⟩, ⟨#[39]⟩] _ (Blk.new' (by simp) _ _) (by simp) (by simp) (by simp [bs])).mono ?_
      rintro e w' ⟨rfl, hk⟩
      go_wp2_with fail
      go_ret
      exact ⟨by rw [HC.out]; rfl, (((Keep.refl _ w).alloc _).alloc _).trans hk⟩
    · have t32 : (decide (32 ≤ n) && decide (n ≤ 126)) = false := by simp; omega
      have HC : Hid (charP n = 35 :: Lib.itoa n) := by show _ = _; unfold charP; rw [if_neg h39, if_neg h32]
      have hil := itoa_len n n0 n1
      obtain ⟨D, hD⟩ : ∃ D, D = Lib.itoa n := ⟨_, rfl⟩
      have HDG := Lib.hid (fun W h => digits_any n (by omega) (by omega) W h)
      rw [← hD] at HDG HC hil
      clear hD
      have HN := Lib.hid n0
      by_cases h3 : 32 ≤ n
      · have q1 : decide (32 ≤ n) = true := by simpa using h3
        have q2 : decide (n ≤ 126) = false := by simp; omega
        clear h32 h39 h3 n0 n1
        go_enter Tryz.func57, Tryz.ntmps57
        go_wp2_with fail
        refine (HDG.out _ hg).mono ?_
        rintro e w1 ⟨rfl, hk1⟩
        go_wp2_with fail
        refine (join_any w1.heap.size 2 9 [⟨#[35]⟩, ⟨D.toArray⟩] _ (Blk.new _ _ _) (by simp) (by simp) (by simp [bs]; omega)).mono ?_
        rintro e w' ⟨rfl, hk⟩
        go_wp2_with fail
        go_ret
        exact ⟨by rw [HC.out]; simp [bs], (hk1.alloc _).trans hk⟩
      · have q1 : decide (32 ≤ n) = false := by simpa using h3
        clear h32 h39 h3 n0 n1
        go_enter Tryz.func57, Tryz.ntmps57
        go_wp2_with fail
        refine (HDG.out _ hg).mono ?_
        rintro e w1 ⟨rfl, hk1⟩
        go_wp2_with fail
        refine (join_any w1.heap.size 2 9 [⟨#[35]⟩, ⟨D.toArray⟩] _ (Blk.new _ _ _) (by simp) (by simp) (by simp [bs]; omega)).mono ?_
        rintro e w' ⟨rfl, hk⟩
        go_wp2_with fail
        go_ret
        exact ⟨by rw [HC.out]; simp [bs], (hk1.alloc _).trans hk⟩
end Go.Proofs.YtgmmjhelcpgakaaGreatDoor
/- Package exprpas: sign. -/
namespace Go.Proofs.YtgmmjhelcpgakaaGreatDoor
open Go.RowKit
set_option linter.unusedVariables false
set_option linter.unusedSimpArgs false

set_option maxRecDepth 100000 in
set_option maxHeartbeats 4000000 in
theorem sign_any (o : Int) (w : World) :
    Calls Tryz.prog 60 #[.int .i64 o] w fun e w' => e = .returned (.string (sgnP o)) ∧ w' = w := by
  by_cases h10 : o = 10
  · subst h10
    go_enter Tryz.func60, Tryz.ntmps60
    go_wp2_with fail
    go_ret
    exact ⟨rfl, rfl⟩
  have n10 : (o == 10) = false := by rw [beq_eq_false_iff_ne]; exact h10
  by_cases h11 : o = 11
  · subst h11
    go_enter Tryz.func60, Tryz.ntmps60
    go_wp2_with fail
    go_ret
    exact ⟨rfl, rfl⟩
  have n11 : (o == 11) = false := by rw [beq_eq_false_iff_ne]; exact h11
  by_cases h12 : o = 12
  · subst h12
    go_enter Tryz.func60, Tryz.ntmps60
    go_wp2_with fail
    go_ret
    exact ⟨rfl, rfl⟩
  have n12 : (o == 12) = false := by rw [beq_eq_false_iff_ne]; exact h12
  by_cases h13 : o = 13
  · subst h13
    go_enter Tryz.func60, Tryz.ntmps60
    go_wp2_with fail
    go_ret
    exact ⟨rfl, rfl⟩
  have n13 : (o == 13) = false := by rw [beq_eq_false_iff_ne]; exact h13
  by_cases h14 : o = 14
  · subst h14
    go_enter Tryz.func60, Tryz.ntmps60
    go_wp2_with fail
    go_ret
    exact ⟨rfl, rfl⟩
  have n14 : (o == 14) = false := by rw [beq_eq_false_iff_ne]; exact h14
  by_cases h15 : o = 15
  · subst h15
    go_enter Tryz.func60, Tryz.ntmps60
    go_wp2_with fail
    go_ret
    exact ⟨rfl, rfl⟩
  have n15 : (o == 15) = false := by rw [beq_eq_false_iff_ne]; exact h15
  by_cases h16 : o = 16
  · subst h16
    go_enter Tryz.func60, Tryz.ntmps60
    go_wp2_with fail
    go_ret
    exact ⟨rfl, rfl⟩
  have n16 : (o == 16) = false := by rw [beq_eq_false_iff_ne]; exact h16
  by_cases h17 : o = 17
  · subst h17
    go_enter Tryz.func60, Tryz.ntmps60
    go_wp2_with fail
    go_ret
    exact ⟨rfl, rfl⟩
  have n17 : (o == 17) = false := by rw [beq_eq_false_iff_ne]; exact h17
  by_cases h18 : o = 18
  · subst h18
    go_enter Tryz.func60, Tryz.ntmps60
    go_wp2_with fail
    go_ret
    exact ⟨rfl, rfl⟩
  have n18 : (o == 18) = false := by rw [beq_eq_false_iff_ne]; exact h18
  by_cases h19 : o = 19
  · subst h19
    go_enter Tryz.func60, Tryz.ntmps60
    go_wp2_with fail
    go_ret
    exact ⟨rfl, rfl⟩
  have n19 : (o == 19) = false := by rw [beq_eq_false_iff_ne]; exact h19
  by_cases h20 : o = 20
  · subst h20
    go_enter Tryz.func60, Tryz.ntmps60
    go_wp2_with fail
    go_ret
    exact ⟨rfl, rfl⟩
  have n20 : (o == 20) = false := by rw [beq_eq_false_iff_ne]; exact h20
  by_cases h21 : o = 21
  · subst h21
    go_enter Tryz.func60, Tryz.ntmps60
    go_wp2_with fail
    go_ret
    exact ⟨rfl, rfl⟩
  have n21 : (o == 21) = false := by rw [beq_eq_false_iff_ne]; exact h21
  by_cases h22 : o = 22
  · subst h22
    go_enter Tryz.func60, Tryz.ntmps60
    go_wp2_with fail
    go_ret
    exact ⟨rfl, rfl⟩
  have n22 : (o == 22) = false := by rw [beq_eq_false_iff_ne]; exact h22
  by_cases h23 : o = 23
  · subst h23
    go_enter Tryz.func60, Tryz.ntmps60
    go_wp2_with fail
    go_ret
    exact ⟨rfl, rfl⟩
  have n23 : (o == 23) = false := by rw [beq_eq_false_iff_ne]; exact h23
  have hs : sgnP o = ⟨#[32, 62, 61, 32]⟩ := by unfold sgnP; simp [*]
  rw [hs]
  clear hs h10 h11 h12 h13 h14 h15 h16 h17 h18 h19 h20 h21 h22 h23
  go_enter Tryz.func60, Tryz.ntmps60
  go_wp2_with fail
  go_ret
  exact ⟨rfl, rfl⟩
end Go.Proofs.YtgmmjhelcpgakaaGreatDoor
/- Package exprpas: printer.at. -/
namespace Go.Proofs.YtgmmjhelcpgakaaGreatDoor
open Go.RowKit
set_option linter.unusedVariables false
set_option linter.unusedSimpArgs false

def PrP (B b m : Nat) (st : Bs × Bool) (w : World) (e : Ending) (w' : World) : Prop := e = .returned (.tuple #[]) ∧ Snk B w' b st.1 m st.2 ∧ SK B b w w'
/-- An array of texts is put. -/
theorem put_arr (B b a c : Nat) (xs : List ByteArray) (st : Bs × Bool) (m : Nat) (w : World) (h : Snk B w b st.1 m st.2) (ha : Blk w a (xs.map Value.string).toArray 9) (hn : xs.length ≤ 1000000) :
    Calls Tryz.prog 55 #[.pointer (some ⟨b, 0, none⟩), .slice (some ⟨a, 0, none⟩) xs.length c] w (PutP B b m (putS m st (xs.map bs)) w) := by
  obtain ⟨p, v, hp, hb, ho⟩ := h.ex
  exact put_any B b a c 9 _ xs st.1 m st.2 w h ha (by decide) (fun e => by subst e; exact Blk.ne ha hb (by decide) rfl) (fun j x hx => by simp [hx]) hn
set_option maxRecDepth 100000 in
set_option maxHeartbeats 4000000 in
theorem at_any (B b m : Nat) (o n : Int) (nm f : ByteArray) (k : Nat) (A : Option Addr) (c : Nat) (P : Pc) (least : Nat) (z : Int) (hz : z = (least : Int)) (st : Bs × Bool) (w : World) (h : Snk B w b st.1 m st.2)
    (HE : Hid (∀ W st', SK B b w W → Snk B W b st'.1 m st'.2 → Calls Tryz.prog 29 #[.agg #[.pointer (some ⟨b, 0, none⟩)], .agg #[.int .i64 o, .int .i64 n, .string nm, .string f, .slice A k c]] W (PrP B b m (putsS m st' P) W))) :
    Calls Tryz.prog 58 #[.agg #[.pointer (some ⟨b, 0, none⟩)], .agg #[.int .i64 o, .int .i64 n, .string nm, .string f, .slice A k c], .int .i64 z] w (PrP B b m (putsS m st (atP least o P)) w) := by
  subst hz
  have hblt := h.lt
  have HK0 := Lib.hid (show Keep (fun _ => False) w ((w.alloc (.cells #[.pointer (some ⟨b, 0, none⟩)] 72)).alloc (.cells #[.int .i64 o, .int .i64 n, .string nm, .string f, .slice A k c] 25)) from ((Keep.refl _ w).alloc _).alloc _)
  have HB0 := Lib.hid (show Blk ((w.alloc (.cells #[.pointer (some ⟨b, 0, none⟩)] 72)).alloc (.cells #[.int .i64 o, .int .i64 n, .string nm, .string f, .slice A k c] 25)) w.heap.size #[.pointer (some ⟨b, 0, none⟩)] 72 from (Blk.new w _ _).alloc _)
  have HB1 := Lib.hid (show Blk ((w.alloc (.cells #[.pointer (some ⟨b, 0, none⟩)] 72)).alloc (.cells #[.int .i64 o, .int .i64 n, .string nm, .string f, .slice A k c] 25)) (w.heap.size + 1) #[.int .i64 o, .int .i64 n, .string nm, .string f, .slice A k c] 25 from Blk.new' (by simp) _ _)
  have HS := Lib.hid h
  have HLV := Lib.hid (fun W => levelPas_any o W)
  obtain ⟨lv, hlv⟩ : ∃ lv, lv = lvlP o := ⟨_, rfl⟩
  rw [← hlv] at HLV
  have HLE := Lib.hid hlv
  have HNE := Lib.hid hblt
  by_cases hlt : lv < least
  · have t1 : decide (lv < least) = true := decide_eq_true hlt
    have HP : Hid (atP least o P = [[[40]]] ++ P ++ [[[41]]]) := by show _ = _; unfold atP; rw [← hlv, if_pos hlt]
    clear h hblt hlv hlt
    go_enter Tryz.func58, Tryz.ntmps58
    go_wp2_with fail
    refine (HLV.out _).mono ?_
    rintro e w' ⟨rfl, rfl⟩
    go_wp2_with fail
    refine (put_arr B b (w.heap.size + 2) 1 [⟨#[40]⟩] st m _ (HS.out.keepF (HK0.out.alloc _)) (Blk.new' (by simp) _ _) (by decide)).mono ?_
    rintro e w1 ⟨rfl, hs1, hk1⟩
    have HS1 := Lib.hid hs1
    have HK1 := Lib.hid ((SK.ofF ((Keep.refl _ _).alloc _)).trans hk1)
    have p0 := (HK1.out.2 _ _ _ (by have := HNE.out; omega) (by decide) HB0.out).at_ 0 (v := .pointer (some ⟨b, 0, none⟩)) rfl
    have pl0 := (HK1.out.2 _ _ _ (by have := HNE.out; omega) (by decide) HB0.out).lt
    have p1 := (HK1.out.2 _ _ _ (by have := HNE.out; omega) (by decide) HB1.out).all5
    have pl1 := (HK1.out.2 _ _ _ (by have := HNE.out; omega) (by decide) HB1.out).lt
    clear hs1 hk1
    go_wp2_with fail
    refine (HE.out _ _ ((SK.ofF HK0.out).trans HK1.out) HS1.out).mono ?_
    rintro e w2 ⟨rfl, hs2, hk2⟩
    have HS2 := Lib.hid hs2
    have HK2 := Lib.hid (HK1.out.trans hk2)
    clear p0 pl0 p1 pl1
    have p0 := (HK2.out.2 _ _ _ (by have := HNE.out; omega) (by decide) HB0.out).at_ 0 (v := .pointer (some ⟨b, 0, none⟩)) rfl
    have pl0 := (HK2.out.2 _ _ _ (by have := HNE.out; omega) (by decide) HB0.out).lt
    clear hs2 hk2
    go_wp2_with fail
    refine (put_arr B b w2.heap.size 1 [⟨#[41]⟩] _ m _ (HS2.out.keepF ((Keep.refl _ _).alloc _)) (Blk.new' (by simp) _ _) (by decide)).mono ?_
    rintro e w3 ⟨rfl, hs3, hk3⟩
    have HS3 := Lib.hid hs3
    have HK3 := Lib.hid (((SK.ofF HK0.out).trans HK2.out).trans ((SK.ofF ((Keep.refl _ _).alloc _)).trans hk3))
    clear hs3 hk3
    go_wp2_with fail
    go_end0
    refine ⟨rfl, ?_, HK3.out⟩
    rw [HP.out, putsS_append, putsS_append]
    exact HS3.out
  · have t1 : decide (lv < least) = false := decide_eq_false hlt
    have HP : Hid (atP least o P = P) := by show _ = _; unfold atP; rw [← hlv, if_neg hlt]
    clear h hblt hlv hlt
    go_enter Tryz.func58, Tryz.ntmps58
    go_wp2_with fail
    refine (HLV.out _).mono ?_
    rintro e w' ⟨rfl, rfl⟩
    go_wp2_with fail
    refine (HE.out _ _ (SK.ofF HK0.out) (HS.out.keepF HK0.out)).mono ?_
    rintro e w2 ⟨rfl, hs2, hk2⟩
    have HS2 := Lib.hid hs2
    have HK2 := Lib.hid ((SK.ofF HK0.out).trans hk2)
    clear hs2 hk2
    go_wp2_with fail
    go_end0
    refine ⟨rfl, ?_, HK2.out⟩
    rw [HP.out]
    exact HS2.out
end Go.Proofs.YtgmmjhelcpgakaaGreatDoor
