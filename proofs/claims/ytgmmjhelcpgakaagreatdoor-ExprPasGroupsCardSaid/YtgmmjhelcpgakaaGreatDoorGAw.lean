/- The reference's char, at Pas. -/
import Derived.Test.YtgmmjhelcpgakaaGreatDoorGI
import Derived.Test.YtgmmjhelcpgakaaGreatDoorGAv
import Derived.Outline
import Derived.Laws.DeepStrings4
namespace Go.Proofs.YtgmmjhelcpgakaaGreatDoor
open Go.RowKit
set_option linter.unusedVariables false
set_option linter.unusedSimpArgs false

theorem u8_ne {c d : UInt8} (h : c ≠ d) : ((c.toNat : Int) == (d.toNat : Int)) = false := by
  rw [beq_eq_false_iff_ne]; intro e
  exact h (UInt8.toNat_inj.1 (by omega))
abbrev found0 : Array Value := #[.int .i64 0, .string ⟨#[]⟩, .int .i64 0, .bool false, .int .i64 0, .int .i64 0, .int .i64 0, .int .i64 0, .int .i64 0]
theorem Found.new (w : World) : Blk (w.alloc (.cells found0 83 (0, 0))) w.heap.size found0 83 := Blk.new w _ _

set_option maxRecDepth 100000 in
set_option maxHeartbeats 8000000 in
theorem refChar_num (s : ByteArray) (w : World) (hs : s.size ≤ 140737488351232) (h0 : 0 < s.size) (hc : s[0] = 35) :
    Calls Tryz.prog 74 #[.int .i64 0, .string s] w fun e w' => e = .returned (foundV (tokNumbered (bs s))) ∧ Keep (fun _ => False) w w' := by
  have j1 : (0 : Int) < (s.size : Int) := by omega
  have hix : ∀ (h : 0 < s.size), ((s[0]'h).toNat : Int) = 35 := fun h => by rw [hc]; rfl
  have hu61 := Tryz.underlying83
  have hu38 := Tryz.underlying50
  have hu26 := Tryz.underlying28
  obtain ⟨T, hT⟩ : ∃ T, T = s.extract 1 s.size := ⟨_, rfl⟩
  have hTb : bs T = (bs s).drop 1 := by rw [hT]; exact bs_tail s 1
  have hTs : T.size = s.size - 1 := by rw [hT, ByteArray.size_extract]; omega
  obtain ⟨k, hk⟩ : ∃ k, k = spanLen digB (bs T) := ⟨_, rfl⟩
  have hle := spanLen_le digB (bs T)
  rw [← hk, bs_len, hTs] at hle
  have HDG : Hid (∀ W, Calls Tryz.prog 72 #[.string T] W fun e w' => e = .returned (.int .i64 (k : Nat)) ∧ w' = W) := fun W => by rw [hk]; exact refDigits_any T (by omega) W
  obtain ⟨F, hF⟩ : ∃ F, F = tokNumbered (bs s) := ⟨_, rfl⟩
  have hF1 := hF
  unfold tokNumbered at hF1
  rw [← hTb, ← hk] at hF1
  rw [← hF]
  obtain ⟨D, hD⟩ : ∃ D, D = s.extract 1 (1 + k) := ⟨_, rfl⟩
  have hDb : bs D = (bs T).take k := by rw [hD, hTb, bs_extract, Nat.add_comm 1 k, List.drop_take]; congr 1
  have hDs : D.size = k := by rw [hD, ByteArray.size_extract]; omega
  have hDd : ∀ c ∈ bs D, digB c = true := by rw [hDb, hk]; exact span_take digB _
  rw [← hDb] at hF1
  have HT := Lib.hid hT
  have HD := Lib.hid hD
  have HDS := Lib.hid hDs
  have HDD := Lib.hid hDd
  clear hF hT hTb hTs hk hc hD hDb hDs hDd
  by_cases hk0 : k = 0 ∨ 3 < k
  · rw [if_pos hk0] at hF1
    have HF := Lib.hid hF1
    clear hF1
    have hcs : ((k : Int) == 0) = true ∨ (((k : Int) == 0) = false ∧ decide ((3 : Int) < (k : Int)) = true) := by
      by_cases h : k = 0
      · exact .inl (by rw [h]; rfl)
      · exact .inr ⟨by rw [beq_eq_false_iff_ne]; omega, by simp; omega⟩
    have hTe := HT.out.symm
    clear hk0
    rcases hcs with t1 | ⟨t1, t2⟩
    all_goals
      go_enter Tryz.func74, Tryz.ntmps74
      go_wp2_with fail
      obtain ⟨w0, hw0⟩ : ∃ w0, w0 = w.alloc (.cells found0 83) := ⟨_, rfl⟩
      rw [← hw0]
      have HB : Hid (Blk w0 w.heap.size found0 83) := by show Blk _ _ _ _; rw [hw0]; exact Blk.new _ _ _
      have HKW : Hid (Keep (fun _ => False) w w0) := by show Keep _ _ _; rw [hw0]; exact (Keep.refl _ w).alloc _
      clear hw0
      refine (HDG.out _).mono ?_
      rintro e w2 ⟨rfl, rfl⟩
      have hbc := HB.out.all9
      go_wp2_with fail
      have X := Blk.set9 HB.out (.int .i64 0) (.string ⟨#[]⟩) (.int .i64 0) (.bool false) (.int .i64 0) (.int .i64 0) (.int .i64 0) (.int .i64 0) (.int .i64 7)
      have x0 := X.at_ 0 rfl
      have x1 := X.at_ 1 rfl
      have x2 := X.at_ 2 rfl
      have x3 := X.at_ 3 rfl
      have x4 := X.at_ 4 rfl
      have x5 := X.at_ 5 rfl
      have x6 := X.at_ 6 rfl
      have x7 := X.at_ 7 rfl
      have x8 := X.at_ 8 rfl
      refine bodyPost_ret (v := .agg #[.int .i64 0, .string ⟨#[]⟩, .int .i64 0, .bool false, .int .i64 0, .int .i64 0, .int .i64 0, .int .i64 0, .int .i64 7]) (by simp [results, Tryz.results74, go_sem, x0, x1, x2, x3, x4, x5, x6, x7, x8]) rfl ?_
      exact ⟨by rw [HF.out]; simp [foundV, foundC, fail], Keep.set9 HKW.out (Nat.le_refl _) _ _ _ _ _ _ _ _ _⟩
  · rw [if_neg hk0] at hF1
    have t1 : ((k : Int) == 0) = false := by rw [beq_eq_false_iff_ne]; omega
    have t2 : decide ((3 : Int) < (k : Int)) = false := by simp; omega
    have hk1 : 1 ≤ k := by omega
    have hk3 : k ≤ 3 := by omega
    have hTe := HT.out.symm
    have hDe := HD.out.symm
    obtain ⟨u, hu1, hu2⟩ := atoi_small (bs D) HDD.out (fun h => by have := bs_len D; rw [h, HDS.out] at this; simp at this; omega) (by rw [bs_len, HDS.out]; omega)
    rw [hu2] at hF1
    simp only at hF1
    have HNU : Hid (∀ W, Calls Tryz.prog 73 #[.string D] W fun e w' => e = .returned (.tuple #[.int .i64 (u : Int), .int .i64 0]) ∧ w' = W) := by
      intro W
      have := refNumber_any D W (by rw [HDS.out]; omega) (by rw [HDS.out]; omega) HDD.out
      rw [hu2] at this
      exact this
    have HDE : Hid (∀ W, (Instr.slice 9 (.string s) (some (.int .i64 1)) (some (.int .i64 (1 + (k : Int)))) none).run Tryz.prog W = .ok (.string D) W) := by
      intro W
      rw [run_slice_string_if W 9 s .i64 .i64 1 (1 + (k : Int)) Tryz.underlying9, if_pos (by omega), if_pos (by omega), show (1 + (k : Int)).toNat = 1 + k from by omega, show (1 : Int).toNat = 1 from rfl, hDe]
    clear hu1 hu2 hk0 hDe
    have hd1 : (1 : Int) + (k : Int) ≤ (s.size : Int) := by omega
    have hdx : (1 + (k : Int)).toNat = 1 + k := by omega
    by_cases hu : 255 < u
    · rw [if_pos hu] at hF1
      have t3 : decide ((255 : Int) < (u : Int)) = true := by simp; omega
      have HF := Lib.hid hF1
      clear hF1 hu
      go_enter Tryz.func74, Tryz.ntmps74
      go_wp2_with fail
      obtain ⟨w0, hw0⟩ : ∃ w0, w0 = w.alloc (.cells found0 83) := ⟨_, rfl⟩
      rw [← hw0]
      have HB : Hid (Blk w0 w.heap.size found0 83) := by show Blk _ _ _ _; rw [hw0]; exact Blk.new _ _ _
      have HKW : Hid (Keep (fun _ => False) w w0) := by show Keep _ _ _; rw [hw0]; exact (Keep.refl _ w).alloc _
      clear hw0
      refine (HDG.out _).mono ?_
      rintro e w2 ⟨rfl, rfl⟩
      have hbc := HB.out.all9
      have hDe := HDE.out
      go_wp2_with fail
      refine (HNU.out _).mono ?_
      rintro e w2 ⟨rfl, rfl⟩
      go_wp2_with fail
      have X := Blk.set9 HB.out (.int .i64 0) (.string ⟨#[]⟩) (.int .i64 0) (.bool false) (.int .i64 0) (.int .i64 0) (.int .i64 0) (.int .i64 0) (.int .i64 7)
      have x0 := X.at_ 0 rfl
      have x1 := X.at_ 1 rfl
      have x2 := X.at_ 2 rfl
      have x3 := X.at_ 3 rfl
      have x4 := X.at_ 4 rfl
      have x5 := X.at_ 5 rfl
      have x6 := X.at_ 6 rfl
      have x7 := X.at_ 7 rfl
      have x8 := X.at_ 8 rfl
      refine bodyPost_ret (v := .agg #[.int .i64 0, .string ⟨#[]⟩, .int .i64 0, .bool false, .int .i64 0, .int .i64 0, .int .i64 0, .int .i64 0, .int .i64 7]) (by simp [results, Tryz.results74, go_sem, x0, x1, x2, x3, x4, x5, x6, x7, x8]) rfl ?_
      exact ⟨by rw [HF.out]; simp [foundV, foundC, fail], Keep.set9 HKW.out (Nat.le_refl _) _ _ _ _ _ _ _ _ _⟩
    · rw [if_neg hu] at hF1
      have t3 : decide ((255 : Int) < (u : Int)) = false := by simp; omega
      have HF := Lib.hid hF1
      clear hF1 hu
      go_enter Tryz.func74, Tryz.ntmps74
      go_wp2_with fail
      obtain ⟨w0, hw0⟩ : ∃ w0, w0 = w.alloc (.cells found0 83) := ⟨_, rfl⟩
      rw [← hw0]
      have HB : Hid (Blk w0 w.heap.size found0 83) := by show Blk _ _ _ _; rw [hw0]; exact Blk.new _ _ _
      have HKW : Hid (Keep (fun _ => False) w w0) := by show Keep _ _ _; rw [hw0]; exact (Keep.refl _ w).alloc _
      clear hw0
      refine (HDG.out _).mono ?_
      rintro e w2 ⟨rfl, rfl⟩
      have hbc := HB.out.all9
      have hDe := HDE.out
      go_wp2_with fail
      refine (HNU.out _).mono ?_
      rintro e w2 ⟨rfl, rfl⟩
      go_wp2_with fail
      have X := Blk.set9 HB.out (.int .i64 4) (.string ⟨#[]⟩) (.int .i64 u) (.bool false) (.int .i64 0) (.int .i64 0) (.int .i64 0) (.int .i64 (1 + (k : Int))) (.int .i64 0)
      have x0 := X.at_ 0 rfl
      have x1 := X.at_ 1 rfl
      have x2 := X.at_ 2 rfl
      have x3 := X.at_ 3 rfl
      have x4 := X.at_ 4 rfl
      have x5 := X.at_ 5 rfl
      have x6 := X.at_ 6 rfl
      have x7 := X.at_ 7 rfl
      have x8 := X.at_ 8 rfl
      refine bodyPost_ret (v := .agg #[.int .i64 4, .string ⟨#[]⟩, .int .i64 u, .bool false, .int .i64 0, .int .i64 0, .int .i64 0, .int .i64 (1 + (k : Int)), .int .i64 0]) (by simp [results, Tryz.results74, go_sem, x0, x1, x2, x3, x4, x5, x6, x7, x8]) rfl ?_
      exact ⟨by rw [HF.out]; simp [foundV, foundC, fail], Keep.set9 HKW.out (Nat.le_refl _) _ _ _ _ _ _ _ _ _⟩

set_option maxRecDepth 100000 in
set_option maxHeartbeats 16000000 in
theorem refChar_quo (s : ByteArray) (w : World) (hs : s.size ≤ 140737488351232) (h0 : 0 < s.size) (hc : s[0] = 39) :
    Calls Tryz.prog 74 #[.int .i64 0, .string s] w fun e w' => e = .returned (foundV (tokQuoted (bs s))) ∧ Keep (fun _ => False) w w' := by
  have j1 : (0 : Int) < (s.size : Int) := by omega
  have hix : ∀ (h : 0 < s.size), ((s[0]'h).toNat : Int) = 39 := fun h => by rw [hc]; rfl
  have hu61 := Tryz.underlying83
  have hu38 := Tryz.underlying50
  have hu26 := Tryz.underlying28
  obtain ⟨F, hF⟩ : ∃ F, F = tokQuoted (bs s) := ⟨_, rfl⟩
  rw [← hF]
  have hF1 := hF
  unfold tokQuoted at hF1
  clear hF hc
  by_cases hp : ([39, 39, 39, 39] : Bs).isPrefixOf (bs s) = true
  · rw [if_pos hp] at hF1
    have hle := prefix_len hp
    rw [bs_len] at hle
    have hl : 4 ≤ s.size := hle
    have t1 : decide ((4 : Int) ≤ (s.size : Int)) = true := by simp; omega
    have j4 : (4 : Int) ≤ (s.size : Int) := by omega
    have hex : bs (s.extract 0 4) = [39, 39, 39, 39] := by
      rw [bs_extract, List.drop_zero]
      have := List.isPrefixOf_iff_prefix.1 hp
      exact (List.prefix_iff_eq_take.1 this).symm
    have hxl : (s.extract 0 4).toList = [39, 39, 39, 39] := by rw [ByteArray.toList_eq]; exact hex
    obtain ⟨E, hE⟩ : ∃ E, E = s.extract 0 4 := ⟨_, rfl⟩
    have hxb : ((s.extract 0 4).toList == [39, 39, 39, 39]) = true := by rw [hxl]; rfl
    have HF := Lib.hid hF1
    clear hF1 hp hle hex hE hxl
    go_enter Tryz.func74, Tryz.ntmps74
    go_wp2_with fail
    have X := Blk.new w #[.int .i64 4, .string ⟨#[]⟩, .int .i64 39, .bool false, .int .i64 0, .int .i64 0, .int .i64 0, .int .i64 4, .int .i64 0] 83
    have x0 := X.at_ 0 rfl
    have x1 := X.at_ 1 rfl
    have x2 := X.at_ 2 rfl
    have x3 := X.at_ 3 rfl
    have x4 := X.at_ 4 rfl
    have x5 := X.at_ 5 rfl
    have x6 := X.at_ 6 rfl
    have x7 := X.at_ 7 rfl
    have x8 := X.at_ 8 rfl
    refine bodyPost_ret (v := .agg #[.int .i64 4, .string ⟨#[]⟩, .int .i64 39, .bool false, .int .i64 0, .int .i64 0, .int .i64 0, .int .i64 4, .int .i64 0]) (by simp [results, Tryz.results74, go_sem, x0, x1, x2, x3, x4, x5, x6, x7, x8]) rfl ?_
    exact ⟨by rw [HF.out]; simp [foundV, foundC, fail], (Keep.refl _ w).alloc _⟩
  · rw [if_neg hp] at hF1
    have HNP : Hid (4 ≤ s.size → ((s.extract 0 4).toList == [39, 39, 39, 39]) = false) := by
      intro h4
      rw [beq_eq_false_iff_ne, ByteArray.toList_eq]
      intro h
      refine hp (List.isPrefixOf_iff_prefix.2 ?_)
      have h2 : bs (s.extract 0 4) = [39, 39, 39, 39] := h
      rw [bs_extract, List.drop_zero] at h2
      rw [← h2]; exact List.take_prefix _ _
    clear hp
    by_cases h3 : 3 ≤ s.size
    · obtain ⟨c, hc⟩ : ∃ c, c = s[1] := ⟨_, rfl⟩
      obtain ⟨d, hd⟩ : ∃ d, d = s[2] := ⟨_, rfl⟩
      have hbs : bs s = s[0] :: c :: d :: (bs s).drop 3 := by
        have e0 := bs_drop s 0 (by omega)
        have e1 := bs_drop s 1 (by omega)
        have e2 := bs_drop s 2 (by omega)
        rw [List.drop_zero] at e0
        rw [e0, e1, e2, ← hc, ← hd]; rfl
      rw [hbs] at hF1
      simp only at hF1
      have hix1 : ∀ (h : 1 < s.size), ((s[1]'h).toNat : Int) = (c.toNat : Int) := fun h => by rw [hc]
      have hix2 : ∀ (h : 2 < s.size), ((s[2]'h).toNat : Int) = (d.toNat : Int) := fun h => by rw [hd]
      have i1 : (1 : Int) < (s.size : Int) := by omega
      have i2 : (2 : Int) < (s.size : Int) := by omega
      have hcl := c.toNat_lt
      have t3 : decide ((3 : Int) ≤ (s.size : Int)) = true := by simp; omega
      have HF1 := Lib.hid hF1
      clear hc hd hbs hF1
      by_cases h4 : 4 ≤ s.size
      · have t4 : decide ((4 : Int) ≤ (s.size : Int)) = true := by simp; omega
        have j4 : (4 : Int) ≤ (s.size : Int) := by omega
        have hxl := HNP.out h4
        by_cases a1 : 32 ≤ c.toNat
        · by_cases a2 : c.toNat ≤ 126
          · by_cases a3 : c ≠ 39
            · by_cases a4 : d = 39
              · skip
                have t5 : decide ((32 : Int) ≤ (c.toNat : Int)) = true := by simp; omega
                have t6 : decide ((c.toNat : Int) ≤ 126) = true := by simp; omega
                have t7 : ((c.toNat : Int) != 39) = true := by have h := u8_ne (d := 39) a3; rw [show ((39 : UInt8).toNat : Int) = 39 from rfl] at h; unfold bne; rw [h]; rfl
                have t8 : ((d.toNat : Int) == 39) = true := by rw [a4]; rfl
                have HF : Hid (F = ⟨0, 4, [], c.toNat, 3⟩) := by
                  show F = _
                  rw [HF1.out]
                  unfold plainB
                  simp only [Bool.and_eq_true, decide_eq_true_eq, bne_iff_ne]
                  rw [if_pos ⟨⟨⟨a1, a2⟩, a3⟩, a4⟩]
                go_enter Tryz.func74, Tryz.ntmps74
                go_wp2_with fail
                have X := Blk.new w #[.int .i64 4, .string ⟨#[]⟩, .int .i64 (c.toNat : Int), .bool false, .int .i64 0, .int .i64 0, .int .i64 0, .int .i64 3, .int .i64 0] 83
                have x0 := X.at_ 0 rfl
                have x1 := X.at_ 1 rfl
                have x2 := X.at_ 2 rfl
                have x3 := X.at_ 3 rfl
                have x4 := X.at_ 4 rfl
                have x5 := X.at_ 5 rfl
                have x6 := X.at_ 6 rfl
                have x7 := X.at_ 7 rfl
                have x8 := X.at_ 8 rfl
                refine bodyPost_ret (v := .agg #[.int .i64 4, .string ⟨#[]⟩, .int .i64 (c.toNat : Int), .bool false, .int .i64 0, .int .i64 0, .int .i64 0, .int .i64 3, .int .i64 0]) (by simp [results, Tryz.results74, go_sem, x0, x1, x2, x3, x4, x5, x6, x7, x8]) rfl ?_
                exact ⟨by rw [HF.out]; simp [foundV, foundC, fail], (Keep.refl _ w).alloc _⟩
              · skip
                have t5 : decide ((32 : Int) ≤ (c.toNat : Int)) = true := by simp; omega
                have t6 : decide ((c.toNat : Int) ≤ 126) = true := by simp; omega
                have t7 : ((c.toNat : Int) != 39) = true := by have h := u8_ne (d := 39) a3; rw [show ((39 : UInt8).toNat : Int) = 39 from rfl] at h; unfold bne; rw [h]; rfl
                have t8 : ((d.toNat : Int) == 39) = false := u8_ne (d := 39) a4
                have HF : Hid (F = fail 7) := by
                  show F = _
                  rw [HF1.out]
                  unfold plainB
                  simp only [Bool.and_eq_true, decide_eq_true_eq, bne_iff_ne]
                  rw [if_neg (fun h => a4 h.2)]
                go_enter Tryz.func74, Tryz.ntmps74
                go_wp2_with fail
                have X := Blk.new w #[.int .i64 0, .string ⟨#[]⟩, .int .i64 0, .bool false, .int .i64 0, .int .i64 0, .int .i64 0, .int .i64 0, .int .i64 7] 83
                have x0 := X.at_ 0 rfl
                have x1 := X.at_ 1 rfl
                have x2 := X.at_ 2 rfl
                have x3 := X.at_ 3 rfl
                have x4 := X.at_ 4 rfl
                have x5 := X.at_ 5 rfl
                have x6 := X.at_ 6 rfl
                have x7 := X.at_ 7 rfl
                have x8 := X.at_ 8 rfl
                refine bodyPost_ret (v := .agg #[.int .i64 0, .string ⟨#[]⟩, .int .i64 0, .bool false, .int .i64 0, .int .i64 0, .int .i64 0, .int .i64 0, .int .i64 7]) (by simp [results, Tryz.results74, go_sem, x0, x1, x2, x3, x4, x5, x6, x7, x8]) rfl ?_
                exact ⟨by rw [HF.out]; simp [foundV, foundC, fail], (Keep.refl _ w).alloc _⟩
            · skip
              have t5 : decide ((32 : Int) ≤ (c.toNat : Int)) = true := by simp; omega
              have t6 : decide ((c.toNat : Int) ≤ 126) = true := by simp; omega
              have a3' : c = 39 := Classical.not_not.1 a3
              have t7 : ((c.toNat : Int) != 39) = false := by rw [a3']; rfl
              have HF : Hid (F = fail 7) := by
                show F = _
                rw [HF1.out]
                unfold plainB
                simp only [Bool.and_eq_true, decide_eq_true_eq, bne_iff_ne]
                rw [if_neg (fun h => a3 h.1.2)]
              go_enter Tryz.func74, Tryz.ntmps74
              go_wp2_with fail
              have X := Blk.new w #[.int .i64 0, .string ⟨#[]⟩, .int .i64 0, .bool false, .int .i64 0, .int .i64 0, .int .i64 0, .int .i64 0, .int .i64 7] 83
              have x0 := X.at_ 0 rfl
              have x1 := X.at_ 1 rfl
              have x2 := X.at_ 2 rfl
              have x3 := X.at_ 3 rfl
              have x4 := X.at_ 4 rfl
              have x5 := X.at_ 5 rfl
              have x6 := X.at_ 6 rfl
              have x7 := X.at_ 7 rfl
              have x8 := X.at_ 8 rfl
              refine bodyPost_ret (v := .agg #[.int .i64 0, .string ⟨#[]⟩, .int .i64 0, .bool false, .int .i64 0, .int .i64 0, .int .i64 0, .int .i64 0, .int .i64 7]) (by simp [results, Tryz.results74, go_sem, x0, x1, x2, x3, x4, x5, x6, x7, x8]) rfl ?_
              exact ⟨by rw [HF.out]; simp [foundV, foundC, fail], (Keep.refl _ w).alloc _⟩
          · skip
            have t5 : decide ((32 : Int) ≤ (c.toNat : Int)) = true := by simp; omega
            have t6 : decide ((c.toNat : Int) ≤ 126) = false := by simp; omega
            have HF : Hid (F = fail 7) := by
              show F = _
              rw [HF1.out]
              unfold plainB
              simp only [Bool.and_eq_true, decide_eq_true_eq, bne_iff_ne]
              rw [if_neg (fun h => a2 h.1.1.2)]
            go_enter Tryz.func74, Tryz.ntmps74
            go_wp2_with fail
            have X := Blk.new w #[.int .i64 0, .string ⟨#[]⟩, .int .i64 0, .bool false, .int .i64 0, .int .i64 0, .int .i64 0, .int .i64 0, .int .i64 7] 83
            have x0 := X.at_ 0 rfl
            have x1 := X.at_ 1 rfl
            have x2 := X.at_ 2 rfl
            have x3 := X.at_ 3 rfl
            have x4 := X.at_ 4 rfl
            have x5 := X.at_ 5 rfl
            have x6 := X.at_ 6 rfl
            have x7 := X.at_ 7 rfl
            have x8 := X.at_ 8 rfl
            refine bodyPost_ret (v := .agg #[.int .i64 0, .string ⟨#[]⟩, .int .i64 0, .bool false, .int .i64 0, .int .i64 0, .int .i64 0, .int .i64 0, .int .i64 7]) (by simp [results, Tryz.results74, go_sem, x0, x1, x2, x3, x4, x5, x6, x7, x8]) rfl ?_
            exact ⟨by rw [HF.out]; simp [foundV, foundC, fail], (Keep.refl _ w).alloc _⟩
        · skip
          have t5 : decide ((32 : Int) ≤ (c.toNat : Int)) = false := by simp; omega
          have HF : Hid (F = fail 7) := by
            show F = _
            rw [HF1.out]
            unfold plainB
            simp only [Bool.and_eq_true, decide_eq_true_eq, bne_iff_ne]
            rw [if_neg (fun h => a1 h.1.1.1)]
          go_enter Tryz.func74, Tryz.ntmps74
          go_wp2_with fail
          have X := Blk.new w #[.int .i64 0, .string ⟨#[]⟩, .int .i64 0, .bool false, .int .i64 0, .int .i64 0, .int .i64 0, .int .i64 0, .int .i64 7] 83
          have x0 := X.at_ 0 rfl
          have x1 := X.at_ 1 rfl
          have x2 := X.at_ 2 rfl
          have x3 := X.at_ 3 rfl
          have x4 := X.at_ 4 rfl
          have x5 := X.at_ 5 rfl
          have x6 := X.at_ 6 rfl
          have x7 := X.at_ 7 rfl
          have x8 := X.at_ 8 rfl
          refine bodyPost_ret (v := .agg #[.int .i64 0, .string ⟨#[]⟩, .int .i64 0, .bool false, .int .i64 0, .int .i64 0, .int .i64 0, .int .i64 0, .int .i64 7]) (by simp [results, Tryz.results74, go_sem, x0, x1, x2, x3, x4, x5, x6, x7, x8]) rfl ?_
          exact ⟨by rw [HF.out]; simp [foundV, foundC, fail], (Keep.refl _ w).alloc _⟩
      · have t4 : decide ((4 : Int) ≤ (s.size : Int)) = false := by simp; omega
        by_cases a1 : 32 ≤ c.toNat
        · by_cases a2 : c.toNat ≤ 126
          · by_cases a3 : c ≠ 39
            · by_cases a4 : d = 39
              · skip
                have t5 : decide ((32 : Int) ≤ (c.toNat : Int)) = true := by simp; omega
                have t6 : decide ((c.toNat : Int) ≤ 126) = true := by simp; omega
                have t7 : ((c.toNat : Int) != 39) = true := by have h := u8_ne (d := 39) a3; rw [show ((39 : UInt8).toNat : Int) = 39 from rfl] at h; unfold bne; rw [h]; rfl
                have t8 : ((d.toNat : Int) == 39) = true := by rw [a4]; rfl
                have HF : Hid (F = ⟨0, 4, [], c.toNat, 3⟩) := by
                  show F = _
                  rw [HF1.out]
                  unfold plainB
                  simp only [Bool.and_eq_true, decide_eq_true_eq, bne_iff_ne]
                  rw [if_pos ⟨⟨⟨a1, a2⟩, a3⟩, a4⟩]
                go_enter Tryz.func74, Tryz.ntmps74
                go_wp2_with fail
                have X := Blk.new w #[.int .i64 4, .string ⟨#[]⟩, .int .i64 (c.toNat : Int), .bool false, .int .i64 0, .int .i64 0, .int .i64 0, .int .i64 3, .int .i64 0] 83
                have x0 := X.at_ 0 rfl
                have x1 := X.at_ 1 rfl
                have x2 := X.at_ 2 rfl
                have x3 := X.at_ 3 rfl
                have x4 := X.at_ 4 rfl
                have x5 := X.at_ 5 rfl
                have x6 := X.at_ 6 rfl
                have x7 := X.at_ 7 rfl
                have x8 := X.at_ 8 rfl
                refine bodyPost_ret (v := .agg #[.int .i64 4, .string ⟨#[]⟩, .int .i64 (c.toNat : Int), .bool false, .int .i64 0, .int .i64 0, .int .i64 0, .int .i64 3, .int .i64 0]) (by simp [results, Tryz.results74, go_sem, x0, x1, x2, x3, x4, x5, x6, x7, x8]) rfl ?_
                exact ⟨by rw [HF.out]; simp [foundV, foundC, fail], (Keep.refl _ w).alloc _⟩
              · skip
                have t5 : decide ((32 : Int) ≤ (c.toNat : Int)) = true := by simp; omega
                have t6 : decide ((c.toNat : Int) ≤ 126) = true := by simp; omega
                have t7 : ((c.toNat : Int) != 39) = true := by have h := u8_ne (d := 39) a3; rw [show ((39 : UInt8).toNat : Int) = 39 from rfl] at h; unfold bne; rw [h]; rfl
                have t8 : ((d.toNat : Int) == 39) = false := u8_ne (d := 39) a4
                have HF : Hid (F = fail 7) := by
                  show F = _
                  rw [HF1.out]
                  unfold plainB
                  simp only [Bool.and_eq_true, decide_eq_true_eq, bne_iff_ne]
                  rw [if_neg (fun h => a4 h.2)]
                go_enter Tryz.func74, Tryz.ntmps74
                go_wp2_with fail
                have X := Blk.new w #[.int .i64 0, .string ⟨#[]⟩, .int .i64 0, .bool false, .int .i64 0, .int .i64 0, .int .i64 0, .int .i64 0, .int .i64 7] 83
                have x0 := X.at_ 0 rfl
                have x1 := X.at_ 1 rfl
                have x2 := X.at_ 2 rfl
                have x3 := X.at_ 3 rfl
                have x4 := X.at_ 4 rfl
                have x5 := X.at_ 5 rfl
                have x6 := X.at_ 6 rfl
                have x7 := X.at_ 7 rfl
                have x8 := X.at_ 8 rfl
                refine bodyPost_ret (v := .agg #[.int .i64 0, .string ⟨#[]⟩, .int .i64 0, .bool false, .int .i64 0, .int .i64 0, .int .i64 0, .int .i64 0, .int .i64 7]) (by simp [results, Tryz.results74, go_sem, x0, x1, x2, x3, x4, x5, x6, x7, x8]) rfl ?_
                exact ⟨by rw [HF.out]; simp [foundV, foundC, fail], (Keep.refl _ w).alloc _⟩
            · skip
              have t5 : decide ((32 : Int) ≤ (c.toNat : Int)) = true := by simp; omega
              have t6 : decide ((c.toNat : Int) ≤ 126) = true := by simp; omega
              have a3' : c = 39 := Classical.not_not.1 a3
              have t7 : ((c.toNat : Int) != 39) = false := by rw [a3']; rfl
              have HF : Hid (F = fail 7) := by
                show F = _
                rw [HF1.out]
                unfold plainB
                simp only [Bool.and_eq_true, decide_eq_true_eq, bne_iff_ne]
                rw [if_neg (fun h => a3 h.1.2)]
              go_enter Tryz.func74, Tryz.ntmps74
              go_wp2_with fail
              have X := Blk.new w #[.int .i64 0, .string ⟨#[]⟩, .int .i64 0, .bool false, .int .i64 0, .int .i64 0, .int .i64 0, .int .i64 0, .int .i64 7] 83
              have x0 := X.at_ 0 rfl
              have x1 := X.at_ 1 rfl
              have x2 := X.at_ 2 rfl
              have x3 := X.at_ 3 rfl
              have x4 := X.at_ 4 rfl
              have x5 := X.at_ 5 rfl
              have x6 := X.at_ 6 rfl
              have x7 := X.at_ 7 rfl
              have x8 := X.at_ 8 rfl
              refine bodyPost_ret (v := .agg #[.int .i64 0, .string ⟨#[]⟩, .int .i64 0, .bool false, .int .i64 0, .int .i64 0, .int .i64 0, .int .i64 0, .int .i64 7]) (by simp [results, Tryz.results74, go_sem, x0, x1, x2, x3, x4, x5, x6, x7, x8]) rfl ?_
              exact ⟨by rw [HF.out]; simp [foundV, foundC, fail], (Keep.refl _ w).alloc _⟩
          · skip
            have t5 : decide ((32 : Int) ≤ (c.toNat : Int)) = true := by simp; omega
            have t6 : decide ((c.toNat : Int) ≤ 126) = false := by simp; omega
            have HF : Hid (F = fail 7) := by
              show F = _
              rw [HF1.out]
              unfold plainB
              simp only [Bool.and_eq_true, decide_eq_true_eq, bne_iff_ne]
              rw [if_neg (fun h => a2 h.1.1.2)]
            go_enter Tryz.func74, Tryz.ntmps74
            go_wp2_with fail
            have X := Blk.new w #[.int .i64 0, .string ⟨#[]⟩, .int .i64 0, .bool false, .int .i64 0, .int .i64 0, .int .i64 0, .int .i64 0, .int .i64 7] 83
            have x0 := X.at_ 0 rfl
            have x1 := X.at_ 1 rfl
            have x2 := X.at_ 2 rfl
            have x3 := X.at_ 3 rfl
            have x4 := X.at_ 4 rfl
            have x5 := X.at_ 5 rfl
            have x6 := X.at_ 6 rfl
            have x7 := X.at_ 7 rfl
            have x8 := X.at_ 8 rfl
            refine bodyPost_ret (v := .agg #[.int .i64 0, .string ⟨#[]⟩, .int .i64 0, .bool false, .int .i64 0, .int .i64 0, .int .i64 0, .int .i64 0, .int .i64 7]) (by simp [results, Tryz.results74, go_sem, x0, x1, x2, x3, x4, x5, x6, x7, x8]) rfl ?_
            exact ⟨by rw [HF.out]; simp [foundV, foundC, fail], (Keep.refl _ w).alloc _⟩
        · skip
          have t5 : decide ((32 : Int) ≤ (c.toNat : Int)) = false := by simp; omega
          have HF : Hid (F = fail 7) := by
            show F = _
            rw [HF1.out]
            unfold plainB
            simp only [Bool.and_eq_true, decide_eq_true_eq, bne_iff_ne]
            rw [if_neg (fun h => a1 h.1.1.1)]
          go_enter Tryz.func74, Tryz.ntmps74
          go_wp2_with fail
          have X := Blk.new w #[.int .i64 0, .string ⟨#[]⟩, .int .i64 0, .bool false, .int .i64 0, .int .i64 0, .int .i64 0, .int .i64 0, .int .i64 7] 83
          have x0 := X.at_ 0 rfl
          have x1 := X.at_ 1 rfl
          have x2 := X.at_ 2 rfl
          have x3 := X.at_ 3 rfl
          have x4 := X.at_ 4 rfl
          have x5 := X.at_ 5 rfl
          have x6 := X.at_ 6 rfl
          have x7 := X.at_ 7 rfl
          have x8 := X.at_ 8 rfl
          refine bodyPost_ret (v := .agg #[.int .i64 0, .string ⟨#[]⟩, .int .i64 0, .bool false, .int .i64 0, .int .i64 0, .int .i64 0, .int .i64 0, .int .i64 7]) (by simp [results, Tryz.results74, go_sem, x0, x1, x2, x3, x4, x5, x6, x7, x8]) rfl ?_
          exact ⟨by rw [HF.out]; simp [foundV, foundC, fail], (Keep.refl _ w).alloc _⟩
    · have t3 : decide ((3 : Int) ≤ (s.size : Int)) = false := by simp; omega
      have t4 : decide ((4 : Int) ≤ (s.size : Int)) = false := by simp; omega
      have HF : Hid (F = fail 7) := by
        show F = _
        rw [hF1]
        have hlen := bs_len s
        match h : bs s with
        | [] => rfl
        | [_] => rfl
        | [_, _] => rfl
        | _ :: _ :: _ :: _ => rw [h] at hlen; simp at hlen; omega
      clear hF1
      go_enter Tryz.func74, Tryz.ntmps74
      go_wp2_with fail
      have X := Blk.new w #[.int .i64 0, .string ⟨#[]⟩, .int .i64 0, .bool false, .int .i64 0, .int .i64 0, .int .i64 0, .int .i64 0, .int .i64 7] 83
      have x0 := X.at_ 0 rfl
      have x1 := X.at_ 1 rfl
      have x2 := X.at_ 2 rfl
      have x3 := X.at_ 3 rfl
      have x4 := X.at_ 4 rfl
      have x5 := X.at_ 5 rfl
      have x6 := X.at_ 6 rfl
      have x7 := X.at_ 7 rfl
      have x8 := X.at_ 8 rfl
      refine bodyPost_ret (v := .agg #[.int .i64 0, .string ⟨#[]⟩, .int .i64 0, .bool false, .int .i64 0, .int .i64 0, .int .i64 0, .int .i64 0, .int .i64 7]) (by simp [results, Tryz.results74, go_sem, x0, x1, x2, x3, x4, x5, x6, x7, x8]) rfl ?_
      exact ⟨by rw [HF.out]; simp [foundV, foundC, fail], (Keep.refl _ w).alloc _⟩

end Go.Proofs.YtgmmjhelcpgakaaGreatDoor
