/- The reference's First, at Pas. -/
import Derived.Test.YtgmmjhelcpgakaaGreatDoorGAw
import Derived.RegionTactic
import Derived.Outline
import Derived.Deep.QuietTactic
import Derived.BigQuiet
namespace Go.Proofs.YtgmmjhelcpgakaaGreatDoor
open Go.RowKit
set_option linter.unusedVariables false
set_option linter.unusedSimpArgs false

/-- What First answers: the token, if there is one; else its error. -/
def FirstV (F : Fd) (v : Value) : Prop := ∃ F' : Fd, v = foundV F' ∧ F'.err = F.err ∧ (F.err = 0 → F' = F)
def FirstPost (w : World) (F : Fd) (e : Ending) (w' : World) : Prop := (∃ v, e = .returned v ∧ FirstV F v) ∧ Keep (fun _ => False) w w'

theorem byteArray_mk (x : ByteArray) : (⟨(bs x).toArray⟩ : ByteArray) = x := by cases x; simp [bs]
theorem refSigns_at : ∀ x ∈ refSigns, x.size ≤ 2 := by decide
theorem sign_pre (x s : ByteArray) : (bs x).isPrefixOf (bs s) = true ↔ x.size ≤ s.size ∧ ((s.extract 0 x.size).toList == x.toList) = true := by
  rw [List.isPrefixOf_iff_prefix, beq_iff_eq, ByteArray.toList_eq, ByteArray.toList_eq]
  show _ ↔ _ ∧ bs (s.extract 0 x.size) = bs x
  rw [bs_extract, List.drop_zero]
  constructor
  · intro h
    have h1 := h.length_le
    rw [bs_len, bs_len] at h1
    refine ⟨h1, ?_⟩
    have := List.prefix_iff_eq_take.1 h
    rw [bs_len] at this
    exact this.symm
  · rintro ⟨h1, h2⟩
    rw [← h2]; exact List.take_prefix _ _
theorem signs_drop (k : Nat) (x : ByteArray) (h : refSigns[k]? = some x) : pasSigns.drop k = bs x :: pasSigns.drop (k + 1) := by
  have hk : k < refSigns.length := (List.getElem?_eq_some_iff.1 h).1
  have hx : refSigns[k] = x := (List.getElem?_eq_some_iff.1 h).2
  rw [← refSigns_eq, ← List.map_drop, ← List.map_drop, List.drop_eq_getElem_cons hk, List.map_cons, hx]

set_option maxRecDepth 100000 in
set_option maxHeartbeats 8000000 in
theorem refFirst_note (s : ByteArray) (w : World) (hs : s.size ≤ 140737488351232) (hb : noteBegins (bs s) = true) :
    Calls Tryz.prog 39 #[.int .i64 0, .string s] w (FirstPost w (tokOf (bs s))) := by
  have hu61 := Tryz.underlying83
  have hu38 := Tryz.underlying50
  have hu26 := Tryz.underlying28
  have HBG : Hid (∀ W, Calls Tryz.prog 69 #[.int .i64 0, .string s] W fun e w' => e = .returned (.bool true) ∧ w' = W) := fun W => by rw [← hb]; exact refBegins_any s W
  obtain ⟨T, n, er, hrd⟩ : ∃ T n er, noteRead (bs s) = (T, n, er) := ⟨_, _, _, rfl⟩
  have HRD : Hid (∀ W, Calls Tryz.prog 70 #[.int .i64 0, .string s] W fun e w' => e = .returned (.tuple #[.string ⟨T.toArray⟩, .int .i64 n, .int .i64 er]) ∧ Keep (fun _ => False) W w') := fun W => by
    have := refRead_any s W hs
    rw [hrd] at this
    exact this
  obtain ⟨F, hF⟩ : ∃ F, F = tokOf (bs s) := ⟨_, rfl⟩
  rw [← hF]
  unfold tokOf at hF
  rw [if_pos hb, hrd] at hF
  have HF := Lib.hid hF
  clear hF hrd hb
  go_enter Tryz.func39, Tryz.ntmps39
  go_wp2_with fail
  obtain ⟨w0, hw0⟩ : ∃ w0, w0 = w.alloc (.cells found0 83) := ⟨_, rfl⟩
  rw [← hw0]
  have HB : Hid (Blk w0 w.heap.size found0 83) := by show Blk _ _ _ _; rw [hw0]; exact Blk.new _ _ _
  have HKW : Hid (Keep (fun _ => False) w w0) := by show Keep _ _ _; rw [hw0]; exact (Keep.refl _ w).alloc _
  clear hw0
  refine (HBG.out _).mono ?_
  rintro e wb ⟨rfl, rfl⟩
  go_wp2_with fail
  refine (HRD.out _).mono ?_
  rintro e w2 ⟨rfl, hk2⟩
  have HBk := Lib.hid (hk2.blk HB.out (fun h => h))
  have HK := Lib.hid (HKW.out.trans hk2)
  clear hk2
  have hbc := HBk.out.all9
  go_wp2_with fail
  have X := Blk.set9 HBk.out (.int .i64 6) (.string ⟨T.toArray⟩) (.int .i64 0) (.bool false) (.int .i64 0) (.int .i64 0) (.int .i64 0) (.int .i64 n) (.int .i64 er)
  have x0 := X.at_ 0 rfl
  have x1 := X.at_ 1 rfl
  have x2 := X.at_ 2 rfl
  have x3 := X.at_ 3 rfl
  have x4 := X.at_ 4 rfl
  have x5 := X.at_ 5 rfl
  have x6 := X.at_ 6 rfl
  have x7 := X.at_ 7 rfl
  have x8 := X.at_ 8 rfl
  refine bodyPost_ret (v := .agg #[.int .i64 6, .string ⟨T.toArray⟩, .int .i64 0, .bool false, .int .i64 0, .int .i64 0, .int .i64 0, .int .i64 n, .int .i64 er]) (by simp [results, Tryz.results39, go_sem, x0, x1, x2, x3, x4, x5, x6, x7, x8]) rfl ?_
  exact ⟨⟨_, rfl, ⟨⟨er, 6, T, 0, n⟩, rfl, by rw [HF.out]; by_cases h : er = 0 <;> simp [h, fail], fun h => by rw [HF.out] at h ⊢; by_cases h0 : er = 0 <;> simp [h0, fail] at h ⊢⟩⟩, Keep.set9 HK.out (Nat.le_refl _) _ _ _ _ _ _ _ _ _⟩

set_option maxRecDepth 100000 in
set_option maxHeartbeats 16000000 in
theorem refFirst_plain (s : ByteArray) (w : World) (hs : s.size ≤ 140737488351232) (h0 : 0 < s.size) (hb : noteBegins (bs s) = false) :
    Calls Tryz.prog 39 #[.int .i64 0, .string s] w (FirstPost w (tokOf (bs s))) := by
  have hu61 := Tryz.underlying83
  have hu38 := Tryz.underlying50
  have hu26 := Tryz.underlying28
  have HBG : Hid (∀ W, Calls Tryz.prog 69 #[.int .i64 0, .string s] W fun e w' => e = .returned (.bool false) ∧ w' = W) := fun W => by rw [← hb]; exact refBegins_any s W
  obtain ⟨F, hF⟩ : ∃ F, F = tokOf (bs s) := ⟨_, rfl⟩
  rw [← hF]
  unfold tokOf at hF
  rw [if_neg (by rw [hb]; decide)] at hF
  obtain ⟨c, hc⟩ : ∃ c, c = s[0] := ⟨_, rfl⟩
  have hd := bs_drop s 0 h0
  rw [List.drop_zero, ← hc] at hd
  have hF2 := hF
  unfold tokPlain at hF2
  rw [hd] at hF2
  simp only at hF2
  rw [← hd] at hF2
  have j1 : (0 : Int) < (s.size : Int) := by omega
  have hix : ∀ (h : 0 < s.size), ((s[0]'h).toNat : Int) = (c.toNat : Int) := fun h => by rw [hc]
  have hcl := c.toNat_lt
  have HC := Lib.hid hc
  have HD := Lib.hid hd
  clear hF hb hc hd
  by_cases hle : letterB c = true
  · rw [if_pos hle] at hF2
    have HF := Lib.hid hF2
    have HFF : Hid ((tokName (bs s)).err = F.err) := by show _ = _; rw [HF.out]
    clear hF2
    have hcs : (97 ≤ c.toNat ∧ c.toNat ≤ 122) ∨ (c.toNat < 97 ∧ 65 ≤ c.toNat ∧ c.toNat ≤ 90) := by
      unfold letterB smallB greatB at hle; simp at hle; omega
    clear hle
    rcases hcs with ⟨g1, g2⟩ | ⟨g1, g2, g3⟩
    · have t1 : decide ((97 : Int) ≤ (c.toNat : Int)) = true := by simp; omega
      have t2 : decide ((c.toNat : Int) ≤ 122) = true := by simp; omega
      go_enter Tryz.func39, Tryz.ntmps39
      go_wp2_with fail
      obtain ⟨w0, hw0⟩ : ∃ w0, w0 = w.alloc (.cells found0 83) := ⟨_, rfl⟩
      rw [← hw0]
      have HB : Hid (Blk w0 w.heap.size found0 83) := by show Blk _ _ _ _; rw [hw0]; exact Blk.new _ _ _
      have HKW : Hid (Keep (fun _ => False) w w0) := by show Keep _ _ _; rw [hw0]; exact (Keep.refl _ w).alloc _
      clear hw0
      refine (HBG.out _).mono ?_
      rintro e wb ⟨rfl, rfl⟩
      go_wp2_with fail
      refine (refName_any s _ hs).mono ?_
      rintro e w2 ⟨rfl, hk2⟩
      have HBk := Lib.hid (hk2.blk HB.out (fun h => h))
      have HK := Lib.hid (HKW.out.trans hk2)
      clear hk2
      have hbc := HBk.out.all9
      unfold foundV foundC
      go_wp2_with fail
      have X := Blk.set9 HBk.out (.int .i64 (tokName (bs s)).kind) (.string ⟨(tokName (bs s)).text.toArray⟩) (.int .i64 (tokName (bs s)).n) (.bool false) (.int .i64 0) (.int .i64 0) (.int .i64 0) (.int .i64 (tokName (bs s)).len) (.int .i64 (tokName (bs s)).err)
      have x0 := X.at_ 0 rfl
      have x1 := X.at_ 1 rfl
      have x2 := X.at_ 2 rfl
      have x3 := X.at_ 3 rfl
      have x4 := X.at_ 4 rfl
      have x5 := X.at_ 5 rfl
      have x6 := X.at_ 6 rfl
      have x7 := X.at_ 7 rfl
      have x8 := X.at_ 8 rfl
      refine bodyPost_ret (v := .agg #[.int .i64 (tokName (bs s)).kind, .string ⟨(tokName (bs s)).text.toArray⟩, .int .i64 (tokName (bs s)).n, .bool false, .int .i64 0, .int .i64 0, .int .i64 0, .int .i64 (tokName (bs s)).len, .int .i64 (tokName (bs s)).err]) (by simp [results, Tryz.results39, go_sem, x0, x1, x2, x3, x4, x5, x6, x7, x8]) rfl ?_
      exact ⟨⟨_, rfl, ⟨(tokName (bs s)), rfl, HFF.out, fun _ => HF.out.symm⟩⟩, Keep.set9 HK.out (Nat.le_refl _) _ _ _ _ _ _ _ _ _⟩
    · have t1 : decide ((97 : Int) ≤ (c.toNat : Int)) = false := by simp; omega
      have t2 : decide ((65 : Int) ≤ (c.toNat : Int)) = true := by simp; omega
      have t3 : decide ((c.toNat : Int) ≤ 90) = true := by simp; omega
      go_enter Tryz.func39, Tryz.ntmps39
      go_wp2_with fail
      obtain ⟨w0, hw0⟩ : ∃ w0, w0 = w.alloc (.cells found0 83) := ⟨_, rfl⟩
      rw [← hw0]
      have HB : Hid (Blk w0 w.heap.size found0 83) := by show Blk _ _ _ _; rw [hw0]; exact Blk.new _ _ _
      have HKW : Hid (Keep (fun _ => False) w w0) := by show Keep _ _ _; rw [hw0]; exact (Keep.refl _ w).alloc _
      clear hw0
      refine (HBG.out _).mono ?_
      rintro e wb ⟨rfl, rfl⟩
      go_wp2_with fail
      refine (refName_any s _ hs).mono ?_
      rintro e w2 ⟨rfl, hk2⟩
      have HBk := Lib.hid (hk2.blk HB.out (fun h => h))
      have HK := Lib.hid (HKW.out.trans hk2)
      clear hk2
      have hbc := HBk.out.all9
      unfold foundV foundC
      go_wp2_with fail
      have X := Blk.set9 HBk.out (.int .i64 (tokName (bs s)).kind) (.string ⟨(tokName (bs s)).text.toArray⟩) (.int .i64 (tokName (bs s)).n) (.bool false) (.int .i64 0) (.int .i64 0) (.int .i64 0) (.int .i64 (tokName (bs s)).len) (.int .i64 (tokName (bs s)).err)
      have x0 := X.at_ 0 rfl
      have x1 := X.at_ 1 rfl
      have x2 := X.at_ 2 rfl
      have x3 := X.at_ 3 rfl
      have x4 := X.at_ 4 rfl
      have x5 := X.at_ 5 rfl
      have x6 := X.at_ 6 rfl
      have x7 := X.at_ 7 rfl
      have x8 := X.at_ 8 rfl
      refine bodyPost_ret (v := .agg #[.int .i64 (tokName (bs s)).kind, .string ⟨(tokName (bs s)).text.toArray⟩, .int .i64 (tokName (bs s)).n, .bool false, .int .i64 0, .int .i64 0, .int .i64 0, .int .i64 (tokName (bs s)).len, .int .i64 (tokName (bs s)).err]) (by simp [results, Tryz.results39, go_sem, x0, x1, x2, x3, x4, x5, x6, x7, x8]) rfl ?_
      exact ⟨⟨_, rfl, ⟨(tokName (bs s)), rfl, HFF.out, fun _ => HF.out.symm⟩⟩, Keep.set9 HK.out (Nat.le_refl _) _ _ _ _ _ _ _ _ _⟩
  rw [if_neg hle] at hF2
  have hnl : (97 ≤ c.toNat → 122 < c.toNat) ∧ (65 ≤ c.toNat → 90 < c.toNat) := by
    unfold letterB smallB greatB at hle; simp at hle; omega
  clear hle
  have HNL : Hid ((decide ((97 : Int) ≤ (c.toNat : Int)) = true ∧ decide ((c.toNat : Int) ≤ 122) = false ∧ decide ((65 : Int) ≤ (c.toNat : Int)) = true ∧ decide ((c.toNat : Int) ≤ 90) = false) ∨ (decide ((97 : Int) ≤ (c.toNat : Int)) = false ∧ decide ((65 : Int) ≤ (c.toNat : Int)) = true ∧ decide ((c.toNat : Int) ≤ 90) = false) ∨ (decide ((97 : Int) ≤ (c.toNat : Int)) = false ∧ decide ((65 : Int) ≤ (c.toNat : Int)) = false)) := by
    show _ ∨ _ ∨ _
    simp only [decide_eq_true_eq, decide_eq_false_iff_not]
    omega
  by_cases hdg : digB c = true
  · rw [if_pos hdg] at hF2
    obtain ⟨g1, g2⟩ := dig_range hdg
    clear hnl hdg HNL
    have t1 : decide ((97 : Int) ≤ (c.toNat : Int)) = false := by simp; omega
    have t2 : decide ((65 : Int) ≤ (c.toNat : Int)) = false := by simp; omega
    have t3 : decide ((48 : Int) ≤ (c.toNat : Int)) = true := by simp; omega
    have t4 : decide ((c.toNat : Int) ≤ 57) = true := by simp; omega
    obtain ⟨k, hk⟩ : ∃ k, k = spanLen digB (bs s) := ⟨_, rfl⟩
    have hle := spanLen_le digB (bs s)
    rw [← hk, bs_len] at hle
    have hk1 : 1 ≤ k := by rw [hk, HD.out]; exact span_pos digB c _ (by unfold digB; simp; omega)
    obtain ⟨D, hD⟩ : ∃ D, D = s.extract 0 k := ⟨_, rfl⟩
    have hDb : bs D = (bs s).take k := by rw [hD, bs_extract, List.drop_zero]
    have hDs : D.size = k := by rw [hD, ByteArray.size_extract]; omega
    have hDd : ∀ c ∈ bs D, digB c = true := by rw [hDb, hk]; exact span_take digB _
    have HDG : Hid (∀ W, Calls Tryz.prog 72 #[.string s] W fun e w' => e = .returned (.int .i64 (k : Nat)) ∧ w' = W) := fun W => by rw [hk]; exact refDigits_any s hs W
    obtain ⟨R, hR⟩ : ∃ R, R = numGo 0 (bs D) := ⟨_, rfl⟩
    obtain ⟨r1, r2, hr⟩ : ∃ r1 r2, numRes R = (r1, r2) := ⟨_, _, rfl⟩
    have HNU : Hid (∀ W, Calls Tryz.prog 73 #[.string D] W fun e w' => e = .returned (.tuple #[.int .i64 r1, .int .i64 r2]) ∧ w' = W) := by
      intro W
      have := refNumber_any D W (by rw [hDs]; omega) (by rw [hDs]; omega) hDd
      rw [← hR, hr] at this
      exact this
    unfold tokInt at hF2
    rw [← hk, ← hDb, ← hR] at hF2
    have HF : Hid (F.err = (r2 : Int).toNat ∧ (r2 : Int) = (F.err : Int) ∧ (F.err = 0 → F = ⟨0, 3, [], r1, k⟩)) := by
      show _ ∧ _ ∧ _
      cases R with
      | none =>
        simp only at hF2
        unfold numRes at hr
        simp only [Prod.mk.injEq] at hr
        obtain ⟨rfl, rfl⟩ := hr
        rw [hF2]
        exact ⟨rfl, rfl, fun h => by cases h⟩
      | some n =>
        simp only at hF2
        unfold numRes at hr
        simp only [Prod.mk.injEq] at hr
        obtain ⟨rfl, rfl⟩ := hr
        rw [hF2]
        exact ⟨rfl, rfl, fun _ => rfl⟩
    have hDe := hD.symm
    clear hD hDb hDs hDd hR hr hk hF2
    go_enter Tryz.func39, Tryz.ntmps39
    go_wp2_with fail
    obtain ⟨w0, hw0⟩ : ∃ w0, w0 = w.alloc (.cells found0 83) := ⟨_, rfl⟩
    rw [← hw0]
    have HB : Hid (Blk w0 w.heap.size found0 83) := by show Blk _ _ _ _; rw [hw0]; exact Blk.new _ _ _
    have HKW : Hid (Keep (fun _ => False) w w0) := by show Keep _ _ _; rw [hw0]; exact (Keep.refl _ w).alloc _
    clear hw0
    refine (HBG.out _).mono ?_
    rintro e wb ⟨rfl, rfl⟩
    go_wp2_with fail
    refine (HDG.out _).mono ?_
    rintro e w2 ⟨rfl, rfl⟩
    have hbc := HB.out.all9
    go_wp2_with fail
    refine (HNU.out _).mono ?_
    rintro e w3 ⟨rfl, rfl⟩
    go_wp2_with fail
    have X := Blk.set9 HB.out (.int .i64 3) (.string ⟨#[]⟩) (.int .i64 r1) (.bool false) (.int .i64 0) (.int .i64 0) (.int .i64 0) (.int .i64 k) (.int .i64 r2)
    have x0 := X.at_ 0 rfl
    have x1 := X.at_ 1 rfl
    have x2 := X.at_ 2 rfl
    have x3 := X.at_ 3 rfl
    have x4 := X.at_ 4 rfl
    have x5 := X.at_ 5 rfl
    have x6 := X.at_ 6 rfl
    have x7 := X.at_ 7 rfl
    have x8 := X.at_ 8 rfl
    refine bodyPost_ret (v := .agg #[.int .i64 3, .string ⟨#[]⟩, .int .i64 r1, .bool false, .int .i64 0, .int .i64 0, .int .i64 0, .int .i64 k, .int .i64 r2]) (by simp [results, Tryz.results39, go_sem, x0, x1, x2, x3, x4, x5, x6, x7, x8]) rfl ?_
    exact ⟨⟨_, rfl, ⟨⟨F.err, 3, [], r1, k⟩, by rw [HF.out.2.1]; rfl, rfl, fun h => by rw [HF.out.2.2 h]⟩⟩, Keep.set9 HKW.out (Nat.le_refl _) _ _ _ _ _ _ _ _ _⟩
  rw [if_neg hdg] at hF2
  have HND : Hid ((decide ((48 : Int) ≤ (c.toNat : Int)) = true ∧ decide ((c.toNat : Int) ≤ 57) = false) ∨ decide ((48 : Int) ≤ (c.toNat : Int)) = false) := by
    show _ ∨ _
    unfold digB at hdg
    simp at hdg
    simp only [decide_eq_true_eq, decide_eq_false_iff_not]
    omega
  clear hdg
  by_cases h39 : c = 39 ∨ c = 35
  · have HCH : Hid (∀ W, Calls Tryz.prog 74 #[.int .i64 0, .string s] W fun e w' => e = .returned (foundV F) ∧ Keep (fun _ => False) W w') := by
      intro W
      rcases h39 with rfl | rfl
      · rw [if_pos rfl] at hF2
        rw [hF2]; exact refChar_quo s W hs h0 HC.out.symm
      · rw [if_neg (by decide), if_pos rfl] at hF2
        rw [hF2]; exact refChar_num s W hs h0 HC.out.symm
    have HFF : Hid (F.err = F.err ∨ True) := Or.inr trivial
    clear hF2 HNL HND hnl
    rcases h39 with rfl | rfl
    · have hq : True := trivial
      go_enter Tryz.func39, Tryz.ntmps39
      go_wp2_with fail
      obtain ⟨w0, hw0⟩ : ∃ w0, w0 = w.alloc (.cells found0 83) := ⟨_, rfl⟩
      rw [← hw0]
      have HB : Hid (Blk w0 w.heap.size found0 83) := by show Blk _ _ _ _; rw [hw0]; exact Blk.new _ _ _
      have HKW : Hid (Keep (fun _ => False) w w0) := by show Keep _ _ _; rw [hw0]; exact (Keep.refl _ w).alloc _
      clear hw0
      refine (HBG.out _).mono ?_
      rintro e wb ⟨rfl, rfl⟩
      go_wp2_with fail
      refine (HCH.out _).mono ?_
      rintro e w2 ⟨rfl, hk2⟩
      have HBk := Lib.hid (hk2.blk HB.out (fun h => h))
      have HK := Lib.hid (HKW.out.trans hk2)
      clear hk2
      have hbc := HBk.out.all9
      unfold foundV foundC
      go_wp2_with fail
      have X := Blk.set9 HBk.out (.int .i64 F.kind) (.string ⟨F.text.toArray⟩) (.int .i64 F.n) (.bool false) (.int .i64 0) (.int .i64 0) (.int .i64 0) (.int .i64 F.len) (.int .i64 F.err)
      have x0 := X.at_ 0 rfl
      have x1 := X.at_ 1 rfl
      have x2 := X.at_ 2 rfl
      have x3 := X.at_ 3 rfl
      have x4 := X.at_ 4 rfl
      have x5 := X.at_ 5 rfl
      have x6 := X.at_ 6 rfl
      have x7 := X.at_ 7 rfl
      have x8 := X.at_ 8 rfl
      refine bodyPost_ret (v := .agg #[.int .i64 F.kind, .string ⟨F.text.toArray⟩, .int .i64 F.n, .bool false, .int .i64 0, .int .i64 0, .int .i64 0, .int .i64 F.len, .int .i64 F.err]) (by simp [results, Tryz.results39, go_sem, x0, x1, x2, x3, x4, x5, x6, x7, x8]) rfl ?_
      exact ⟨⟨_, rfl, ⟨F, rfl, rfl, fun _ => rfl⟩⟩, Keep.set9 HK.out (Nat.le_refl _) _ _ _ _ _ _ _ _ _⟩
    · have hq : True := trivial
      go_enter Tryz.func39, Tryz.ntmps39
      go_wp2_with fail
      obtain ⟨w0, hw0⟩ : ∃ w0, w0 = w.alloc (.cells found0 83) := ⟨_, rfl⟩
      rw [← hw0]
      have HB : Hid (Blk w0 w.heap.size found0 83) := by show Blk _ _ _ _; rw [hw0]; exact Blk.new _ _ _
      have HKW : Hid (Keep (fun _ => False) w w0) := by show Keep _ _ _; rw [hw0]; exact (Keep.refl _ w).alloc _
      clear hw0
      refine (HBG.out _).mono ?_
      rintro e wb ⟨rfl, rfl⟩
      go_wp2_with fail
      refine (HCH.out _).mono ?_
      rintro e w2 ⟨rfl, hk2⟩
      have HBk := Lib.hid (hk2.blk HB.out (fun h => h))
      have HK := Lib.hid (HKW.out.trans hk2)
      clear hk2
      have hbc := HBk.out.all9
      unfold foundV foundC
      go_wp2_with fail
      have X := Blk.set9 HBk.out (.int .i64 F.kind) (.string ⟨F.text.toArray⟩) (.int .i64 F.n) (.bool false) (.int .i64 0) (.int .i64 0) (.int .i64 0) (.int .i64 F.len) (.int .i64 F.err)
      have x0 := X.at_ 0 rfl
      have x1 := X.at_ 1 rfl
      have x2 := X.at_ 2 rfl
      have x3 := X.at_ 3 rfl
      have x4 := X.at_ 4 rfl
      have x5 := X.at_ 5 rfl
      have x6 := X.at_ 6 rfl
      have x7 := X.at_ 7 rfl
      have x8 := X.at_ 8 rfl
      refine bodyPost_ret (v := .agg #[.int .i64 F.kind, .string ⟨F.text.toArray⟩, .int .i64 F.n, .bool false, .int .i64 0, .int .i64 0, .int .i64 0, .int .i64 F.len, .int .i64 F.err]) (by simp [results, Tryz.results39, go_sem, x0, x1, x2, x3, x4, x5, x6, x7, x8]) rfl ?_
      exact ⟨⟨_, rfl, ⟨F, rfl, rfl, fun _ => rfl⟩⟩, Keep.set9 HK.out (Nat.le_refl _) _ _ _ _ _ _ _ _ _⟩
  have hF3 : F = tokSign (bs s) := by
    rw [if_neg (fun h => h39 (.inl h)), if_neg (fun h => h39 (.inr h))] at hF2
    exact hF2
  clear hF2
  have t39 : ((c.toNat : Int) == 39) = false := u8_ne (d := 39) (fun h => h39 (.inl h))
  have t35 : ((c.toNat : Int) == 35) = false := u8_ne (d := 35) (fun h => h39 (.inr h))
  clear h39 hnl
  unfold tokSign at hF3
  obtain ⟨R, hR⟩ : ∃ R, R = signOf pasSigns (bs s) := ⟨_, rfl⟩
  rw [← hR] at hF3
  have HR := Lib.hid hR
  have HF3 := Lib.hid hF3
  clear hR hF3
  have HT : Hid ((decide ((97 : Int) ≤ (c.toNat : Int)) = true ∧ decide ((c.toNat : Int) ≤ 122) = false ∧ decide ((65 : Int) ≤ (c.toNat : Int)) = true ∧ decide ((c.toNat : Int) ≤ 90) = false ∧ decide ((48 : Int) ≤ (c.toNat : Int)) = true ∧ decide ((c.toNat : Int) ≤ 57) = false) ∨ (decide ((97 : Int) ≤ (c.toNat : Int)) = false ∧ decide ((65 : Int) ≤ (c.toNat : Int)) = true ∧ decide ((c.toNat : Int) ≤ 90) = false ∧ decide ((48 : Int) ≤ (c.toNat : Int)) = true ∧ decide ((c.toNat : Int) ≤ 57) = false) ∨ (decide ((97 : Int) ≤ (c.toNat : Int)) = false ∧ decide ((65 : Int) ≤ (c.toNat : Int)) = false ∧ decide ((48 : Int) ≤ (c.toNat : Int)) = true ∧ decide ((c.toNat : Int) ≤ 57) = false) ∨ (decide ((97 : Int) ≤ (c.toNat : Int)) = false ∧ decide ((65 : Int) ≤ (c.toNat : Int)) = false ∧ decide ((48 : Int) ≤ (c.toNat : Int)) = false)) := by
    show _ ∨ _ ∨ _ ∨ _
    have h1 := HNL.out
    have h2 := HND.out
    simp only [decide_eq_true_eq, decide_eq_false_iff_not] at h1 h2 ⊢
    omega
  clear HNL HND
  have hsc := fun (w : World) (i : Nat) (x : ByteArray) (h : refSigns[i]? = some x) => Blk.at_ (Blk.new w (refSigns.map Value.string).toArray 9) i (v := .string x) (by simp [h])
  have HSG : Hid (∀ W, Calls Tryz.prog 75 #[.int .i64 0] W fun e w' => ∃ g, e = .returned (.slice (some ⟨g, 0, none⟩) 18 18) ∧ (∀ i x, refSigns[i]? = some x → w'.cell? ⟨g, i, none⟩ = some (.string x)) ∧ Keep (fun _ => False) W w') := by
    intro W
    refine (refSignsAll_any W).mono ?_
    rintro e w' ⟨rfl, rfl⟩
    exact ⟨_, rfl, hsc W, (Keep.refl _ W).alloc _⟩
  clear hsc
  rcases HT.out with ⟨t1, t2, t3, t4, t5, t6⟩ | ⟨t1, t3, t4, t5, t6⟩ | ⟨t1, t3, t5, t6⟩ | ⟨t1, t3, t5⟩
  all_goals
    go_enter Tryz.func39, Tryz.ntmps39
    go_wp2_with fail
    obtain ⟨w0, hw0⟩ : ∃ w0, w0 = w.alloc (.cells found0 83) := ⟨_, rfl⟩
    rw [← hw0]
    have HB : Hid (Blk w0 w.heap.size found0 83) := by show Blk _ _ _ _; rw [hw0]; exact Blk.new _ _ _
    have HKW : Hid (Keep (fun _ => False) w w0) := by show Keep _ _ _; rw [hw0]; exact (Keep.refl _ w).alloc _
    clear hw0
    refine (HBG.out _).mono ?_
    rintro e wb ⟨rfl, rfl⟩
    go_wp2_with fail
    refine (HSG.out _).mono ?_
    rintro e W1 ⟨g, rfl, hcs, hk1⟩
    have HCS := Lib.hid hcs
    have HB1 := Lib.hid (hk1.blk HB.out (fun h => h))
    have HK1 := Lib.hid (HKW.out.trans hk1)
    clear hcs hk1 HB HKW
    go_wp2_with fail
    go_loopw [13] (fun i wr => ∃ k : Nat, k ≤ 18 ∧ i = .int .i64 k ∧ Hid (signOf (pasSigns.drop k) (bs s) = R) ∧ Drawn W1 wr) (fun i _ => 18 - (intOf i).toNat)
    case atStart => exact ⟨0, Nat.zero_le _, rfl, HR.out.symm, Drawn.refl _⟩
    case round =>
      obtain ⟨k, hk, rfl, HG, q, rfl⟩ := hrel
      by_cases hk18 : k < 18
      · obtain ⟨x, hx⟩ : ∃ x, refSigns[k]? = some x := ⟨refSigns[k]'hk18, List.getElem?_eq_getElem hk18⟩
        have hcell := HCS.out k x hx
        have hx2 := refSigns_at x (List.mem_of_getElem? hx)
        have HDR := Lib.hid (signs_drop k x hx)
        have HPR := Lib.hid (sign_pre x s)
        have j0 : (0 : Int) ≤ (k : Int) := by omega
        have j18 : (k : Int) < 18 := by omega
        have tk : decide ((k : Int) < 18) = true := by simp; omega
        have h1 := HG.out
        rw [HDR.out] at h1
        unfold signOf at h1
        have HH1 := Lib.hid h1
        clear hx h1 HG
        by_cases hp : (bs x).isPrefixOf (bs s) = true
        · obtain ⟨hsz, hq⟩ := HPR.out.1 hp
          have HR2 : Hid (F = ⟨0, 5, bs x, 0, x.size⟩) := by
            show F = _
            have := HH1.out
            rw [List.find?_cons_of_pos (p := fun g => List.isPrefixOf g (bs s)) hp] at this
            rw [HF3.out, ← this, ← bs_len]
          clear hp
          have t7 : decide (x.size ≤ s.size) = true := by simpa using hsz
          have j7 : (x.size : Int) ≤ (s.size : Int) := by omega
          have hbc := HB1.out.all9
          go_wp2_with fail
          go_quiet (fail)
          go_wp2_with fail
          have hbc2 := (HB1.out.drewN q).all9
          go_region
          all_goals
            go_wp2_with fail
            have X := Blk.set9 (HB1.out.drewN (q + nq + 1)) (.int .i64 5) (.string x) (.int .i64 0) (.bool false) (.int .i64 0) (.int .i64 0) (.int .i64 0) (.int .i64 x.size) (.int .i64 0)
            have x0 := X.at_ 0 rfl
            have x1 := X.at_ 1 rfl
            have x2 := X.at_ 2 rfl
            have x3 := X.at_ 3 rfl
            have x4 := X.at_ 4 rfl
            have x5 := X.at_ 5 rfl
            have x6 := X.at_ 6 rfl
            have x7 := X.at_ 7 rfl
            have x8 := X.at_ 8 rfl
            refine bodyPost_ret (v := .agg #[.int .i64 5, .string x, .int .i64 0, .bool false, .int .i64 0, .int .i64 0, .int .i64 0, .int .i64 x.size, .int .i64 0]) (by simp [results, Tryz.results39, go_sem, x0, x1, x2, x3, x4, x5, x6, x7, x8]) rfl ?_
            exact ⟨⟨_, rfl, ⟨F, by rw [HR2.out]; simp [foundV, foundC, byteArray_mk], rfl, fun _ => rfl⟩⟩, Keep.set9 (HK1.out.drewN (q + nq + 1)) (Nat.le_refl _) _ _ _ _ _ _ _ _ _⟩
        · have HR2 : Hid (signOf (pasSigns.drop (k + 1)) (bs s) = R) := by
            have := HH1.out
            rw [List.find?_cons_of_neg (p := fun g => List.isPrefixOf g (bs s)) hp] at this
            exact this
          have hcs : (x.size ≤ s.size ∧ ((s.extract 0 x.size).toList == x.toList) = false) ∨ s.size < x.size := by
            rcases Nat.lt_or_ge s.size x.size with h | h
            · exact .inr h
            · refine .inl ⟨h, ?_⟩
              cases h2 : ((s.extract 0 x.size).toList == x.toList) with
              | false => rfl
              | true => exact absurd (HPR.out.2 ⟨h, h2⟩) hp
          clear hp
          rcases hcs with ⟨hsz, hq⟩ | hsz
          · have t7 : decide (x.size ≤ s.size) = true := by simpa using hsz
            have j7 : (x.size : Int) ≤ (s.size : Int) := by omega
            go_wp2_with fail
            go_quiet (fail)
            go_wp2_with fail
            go_roundw
            case rel => exact ⟨k + 1, by omega, by go_num, HR2, Drawn.n _ _⟩
            case measure => simp [intOf]; omega
          · have t7 : decide (x.size ≤ s.size) = false := by simp; omega
            go_wp2_with fail
            go_quiet (fail)
            go_wp2_with fail
            go_roundw
            case rel => exact ⟨k + 1, by omega, by go_num, HR2, Drawn.n _ _⟩
            case measure => simp [intOf]; omega
      · obtain rfl : k = 18 := by omega
        have HR2 : Hid (F = fail 5) := by
          show F = _
          have := HG.out
          rw [show pasSigns.drop 18 = [] from rfl] at this
          rw [HF3.out, ← this]; rfl
        have hbc2 := (HB1.out.drewN q).all9
        go_wp2_with fail
        have X := Blk.set9 (HB1.out.drewN q) (.int .i64 0) (.string ⟨#[]⟩) (.int .i64 0) (.bool false) (.int .i64 0) (.int .i64 0) (.int .i64 0) (.int .i64 0) (.int .i64 5)
        have x0 := X.at_ 0 rfl
        have x1 := X.at_ 1 rfl
        have x2 := X.at_ 2 rfl
        have x3 := X.at_ 3 rfl
        have x4 := X.at_ 4 rfl
        have x5 := X.at_ 5 rfl
        have x6 := X.at_ 6 rfl
        have x7 := X.at_ 7 rfl
        have x8 := X.at_ 8 rfl
        refine bodyPost_ret (v := .agg #[.int .i64 0, .string ⟨#[]⟩, .int .i64 0, .bool false, .int .i64 0, .int .i64 0, .int .i64 0, .int .i64 0, .int .i64 5]) (by simp [results, Tryz.results39, go_sem, x0, x1, x2, x3, x4, x5, x6, x7, x8]) rfl ?_
        exact ⟨⟨_, rfl, ⟨F, by rw [HR2.out]; rfl, rfl, fun _ => rfl⟩⟩, Keep.set9 (HK1.out.drewN q) (Nat.le_refl _) _ _ _ _ _ _ _ _ _⟩
end Go.Proofs.YtgmmjhelcpgakaaGreatDoor
