/- Package words at Pas: All, Is. -/
import Derived.Test.YtgmmjhelcpgakaaGreatDoorGA
namespace Go.Proofs.YtgmmjhelcpgakaaGreatDoor
open Go.RowKit
set_option linter.unusedVariables false
set_option linter.unusedSimpArgs false

/-- The words of Pas, as one text. -/
def pasText : ByteArray := ⟨#[97, 110, 100, 32, 97, 114, 114, 97, 121, 32, 98, 101, 103, 105, 110, 32, 98, 111, 111, 108, 101, 97, 110, 32, 99, 104, 97, 114, 32, 100, 105, 118, 32, 100, 111, 32, 100, 111, 119, 110, 116, 111, 32, 101, 108, 115, 101, 32, 101, 110, 100, 32, 102, 97, 108, 115, 101, 32, 102, 111, 114, 32, 102, 111, 114, 119, 97, 114, 100, 32, 102, 117, 110, 99, 116, 105, 111, 110, 32, 105, 102, 32, 105, 110, 116, 101, 103, 101, 114, 32, 109, 111, 100, 32, 110, 111, 116, 32, 111, 102, 32, 111, 114, 32, 112, 114, 111, 99, 101, 100, 117, 114, 101, 32, 112, 114, 111, 103, 114, 97, 109, 32, 114, 101, 97, 100, 32, 114, 101, 99, 111, 114, 100, 32, 114, 101, 112, 101, 97, 116, 32, 114, 101, 116, 117, 114, 110, 32, 116, 104, 101, 110, 32, 116, 111, 32, 116, 114, 117, 101, 32, 116, 121, 112, 101, 32, 117, 110, 116, 105, 108, 32, 118, 97, 114, 32, 119, 104, 105, 108, 101, 32, 119, 114, 105, 116, 101]⟩
def pasWords : List Bs := Lib.fields (bs pasText)
def isWord (l : Bs) : Bool := pasWords.contains l
def wordAt (t : Nat) : ByteArray := ⟨(pasWords.getD t []).toArray⟩
theorem pasWords_len : pasWords.length = 34 := by decide
theorem bs_mk (l : Bs) : bs ⟨l.toArray⟩ = l := by simp [bs]
theorem byteArray_ext {a b : ByteArray} (h : bs a = bs b) : a = b := by
  cases a; cases b; simp only [bs] at h; congr 1; exact Array.toList_inj.1 h
def searchAt (x : Bs) : Nat := Lib.bsGo (fun t => Op.bytesLess (pasWords.getD t []) x) 34 0 34
theorem search_all : (List.range 34).all (fun j => searchAt (pasWords.getD j []) == j) = true := by decide
theorem search_is (x : Bs) : decide (searchAt x < 34 ∧ pasWords.getD (searchAt x) [] = x) = isWord x := by
  rw [Bool.eq_iff_iff, decide_eq_true_eq]
  unfold isWord
  rw [List.contains_iff_mem]
  constructor
  · rintro ⟨h1, h2⟩
    rw [← h2, List.getD_eq_getElem?_getD, List.getElem?_eq_getElem (by rw [pasWords_len]; exact h1)]
    exact List.getElem_mem _
  · intro h
    obtain ⟨j, hj0, rfl⟩ := List.mem_iff_getElem.1 h
    have hj : j < 34 := by rw [← pasWords_len]; exact hj0
    have h1 := List.all_eq_true.1 search_all j (List.mem_range.2 hj)
    have h2 : pasWords.getD j [] = pasWords[j] := by rw [List.getD_eq_getElem?_getD, List.getElem?_eq_getElem (by rw [pasWords_len]; exact hj)]; rfl
    rw [h2] at h1
    have h3 : searchAt pasWords[j] = j := by simpa using h1
    exact ⟨Nat.lt_of_le_of_lt (Nat.le_of_eq h3) hj, (congrArg (fun k => pasWords.getD k []) h3).trans h2⟩
set_option maxRecDepth 100000 in
theorem pas_ascii : ∀ (j : Nat) b, pasText.data.toList[j]? = some b → b.toNat < 128 := by
  have h : pasText.data.toList.all (fun b => decide (b.toNat < 128)) = true := by decide
  intro j b hj
  have := List.all_eq_true.1 h b (List.mem_of_getElem? hj)
  simpa using this
def wordCells : Array Value := (pasWords.map fun l => Value.string ⟨l.toArray⟩).toArray
set_option maxRecDepth 100000 in
theorem wordsAll_any (w : World) (hg : Lib.TabIs Tryz.prog w "strings.asciiSpace" .u8 Lib.asciiSpaceTab) :
    Calls Tryz.prog 154 #[.int .i64 0] w fun e w' => e = .returned (.slice (some ⟨w.heap.size, 0, none⟩) 34 34) ∧ w' = w.alloc (.cells wordCells 9) := by
  have hF := fields_laid pasText w (by decide) pas_ascii hg
  have e1 : (Lib.fields pasText.data.toList).length = 34 := pasWords_len
  have e2 : ((Lib.fields pasText.data.toList).map fun l => Value.string ⟨l.toArray⟩).toArray = wordCells := rfl
  rw [e1, e2] at hF
  have HF := Lib.hid hF
  clear hF e1 e2
  go_enter Tryz.func154, Tryz.ntmps154
  go_wp2_with fail
  refine HF.out.mono ?_
  rintro e w' ⟨rfl, rfl⟩
  go_wp2_with fail
  go_ret
  exact ⟨rfl, rfl⟩
theorem wordsIs_any (x : ByteArray) (w : World) (hg : Lib.TabIs Tryz.prog w "strings.asciiSpace" .u8 Lib.asciiSpaceTab) :
    Calls Tryz.prog 130 #[.int .i64 0, .string x] w fun e w' => e = .returned (.bool (isWord (bs x))) ∧ Keep (fun _ => False) w w' := by
  have HG := Lib.hid hg; clear hg
  go_enter Tryz.func130, Tryz.ntmps130
  go_wp2_with fail
  refine (wordsAll_any w HG.out).mono ?_
  rintro e w' ⟨rfl, hw⟩
  have hk : Keep (fun _ => False) w w' := by rw [hw]; exact (Keep.refl _ w).alloc _
  have hb : Blk w' w.heap.size wordCells 9 := by rw [hw]; exact Blk.new w wordCells _
  have HS : ∀ W, Keep (fun _ => False) w' W → Calls Tryz.prog 153 #[.slice (some ⟨w.heap.size, 0, none⟩) 34 34, .string x] W fun e w2 => (∃ n : Int, e = .returned (.tuple #[.int .i64 n, .bool (isWord (bs x))])) ∧ Keep (fun _ => False) w' w2 := by
    intro W hW
    refine (search_any w.heap.size 0 34 34 wordAt x W (by decide) ?_).mono ?_
    · intro j hj
      rw [Nat.zero_add]
      refine (hW.blk hb (fun h => h)).at_ j ?_
      unfold wordCells
      have : j < pasWords.length := by rw [pasWords_len]; exact hj
      simp [wordAt, List.getElem?_eq_getElem this, List.getD_eq_getElem?_getD]
    · rintro e w2 ⟨rfl, q, rfl⟩
      have e1 : (fun t => Op.bytesLess (wordAt t).toList x.toList) = fun t => Op.bytesLess (pasWords.getD t []) (bs x) := by
        funext t; simp [wordAt, bs, ByteArray.toList_eq]
      have e3 : wordAt (searchAt (bs x)) = x ↔ pasWords.getD (searchAt (bs x)) [] = bs x := by
        unfold wordAt
        constructor
        · intro h; have := congrArg bs h; rwa [bs_mk] at this
        · intro h; exact byteArray_ext (by rw [bs_mk]; exact h)
      have e4 : decide (searchAt (bs x) < 34 ∧ wordAt (searchAt (bs x)) = x) = isWord (bs x) := by
        rw [← search_is, Bool.eq_iff_iff]; simp only [decide_eq_true_eq]; rw [e3]
      refine ⟨⟨(Lib.bsGo (fun t => Op.bytesLess (wordAt t).toList x.toList) 34 0 34 : Nat), ?_⟩, hW.drewN q⟩
      rw [e1, ← e4]; rfl
  have HS' := Lib.hid HS; have HK := Lib.hid hk
  clear HS hw hb hk
  go_wp2_with fail
  refine (HS'.out _ (Keep.refl _ _)).mono ?_
  rintro e w2 ⟨⟨n, rfl⟩, hk2⟩
  go_wp2_with fail
  go_ret
  exact ⟨rfl, HK.out.trans hk2⟩
end Go.Proofs.YtgmmjhelcpgakaaGreatDoor
/- Package text: Number, of digits. -/
namespace Go.Proofs.YtgmmjhelcpgakaaGreatDoor
open Go.RowKit
set_option linter.unusedVariables false
set_option linter.unusedSimpArgs false

def digB (c : UInt8) : Bool := decide (48 ≤ c.toNat) && decide (c.toNat ≤ 57)
/-- The number of digits, n being that of those ahead; none: it is above 2^63 - 1. -/
def numGo : Nat → Bs → Option Nat
  | n, [] => some n
  | n, c :: l => if 9223372036854775807 < 10 * n + (c.toNat - 48) then none else numGo (10 * n + (c.toNat - 48)) l
def numRes (r : Option Nat) : Int × Int := match r with | some n => ((n : Int), 0) | none => (0, 6)
def maxI : Int := 9223372036854775807
theorem over_test (n d : Nat) (hd : d ≤ 9) : decide ((9223372036854775807 - (d : Int)) / 10 < (n : Int)) = decide (9223372036854775807 < 10 * n + d) := by
  rw [Bool.eq_iff_iff]; simp only [decide_eq_true_eq]; omega
def tenSet : ByteArray := ⟨#[48, 49, 50, 51, 52, 53, 54, 55, 56, 57]⟩
theorem ten_ascii : ∀ (j : Nat) b, tenSet.data.toList[j]? = some b → b.toNat < 128 := by
  have h : tenSet.data.toList.all (fun b => decide (b.toNat < 128)) = true := by decide
  intro j b hj
  have := List.all_eq_true.1 h b (List.mem_of_getElem? hj)
  simpa using this
set_option maxRecDepth 100000 in
theorem ten_has (c : UInt8) : (bs tenSet).contains c = digB c := by
  have h : ∀ k : Fin 256, (bs tenSet).contains (UInt8.ofNat k.val) = digB (UInt8.ofNat k.val) := by decide
  have := h ⟨c.toNat, c.toNat_lt⟩
  simpa using this
theorem trim_digits (l : Bs) (h : ∀ c ∈ l, digB c = true) : Lib.trimS l (bs tenSet) = [] := by
  have h1 : ∀ m : Bs, (∀ c ∈ m, digB c = true) → m.dropWhile ((bs tenSet).contains ·) = [] := by
    intro m
    induction m with
    | nil => intro _; rfl
    | cons a m ih =>
      intro hm
      rw [List.dropWhile_cons_of_pos (by rw [ten_has]; exact hm a (by simp))]
      exact ih fun c hc => hm c (by simp [hc])
  unfold Lib.trimS Lib.trimRightS Lib.trimLeftS
  rw [h1 l.reverse (fun c hc => h c (by simpa using hc))]
  rfl

set_option maxRecDepth 100000 in
set_option maxHeartbeats 1000000 in
theorem number_any (s : ByteArray) (w : World) (hs : s.size ≤ 140737488351232) (hne : 0 < s.size) (hd : ∀ c ∈ bs s, digB c = true) :
    Calls Tryz.prog 118 #[.string s] w fun e w' => e = .returned (.tuple #[.int .i64 (numRes (numGo 0 (bs s))).1, .int .i64 (numRes (numGo 0 (bs s))).2]) ∧ Keep (fun _ => False) w w' := by
  obtain ⟨R, hR⟩ : ∃ R, R = numGo 0 (bs s) := ⟨_, rfl⟩
  rw [← hR]
  have HR := Lib.hid hR; clear hR
  have hT : Calls Tryz.prog 143 #[.string s, .string ⟨#[48, 49, 50, 51, 52, 53, 54, 55, 56, 57]⟩] w fun e w' => e = .returned (.string ⟨#[]⟩) ∧ Below w.heap.size w w' := by
    have h1 := trim_set s tenSet w (by omega) (by decide) ten_ascii
    have h2 : Lib.trimS s.data.toList tenSet.data.toList = [] := trim_digits (bs s) hd
    rw [h2] at h1
    exact h1
  have HT := Lib.hid hT
  have HD := Lib.hid hd
  clear hT hd
  have e1 : s.toList = [] ↔ False := by
    constructor
    · intro h; have h1 := congrArg List.length h; rw [ByteArray.toList_eq] at h1; have h2 := bs_len s; unfold bs at h2; simp only [List.length_nil] at h1; omega
    · exact False.elim
  have e1' : (s.toList == []) = false := by rw [beq_eq_false_iff_ne]; exact fun h => e1.1 h
  have e2 : s.toList.isEmpty = false := by
    cases h : s.toList with
    | nil => exact absurd h (fun h => e1.1 h)
    | cons a l => rfl
  go_enter Tryz.func118, Tryz.ntmps118
  go_wp2_with fail
  refine HT.out.mono ?_
  rintro e w1 ⟨rfl, hk1⟩
  have HK := Lib.hid (Keep.of_below (P := fun _ => False) hk1)
  clear hk1 HT
  go_wp2_with fail
  go_loop [4, 16] (fun n i => ∃ (k m : Nat), k ≤ s.size ∧ m ≤ 9223372036854775807 ∧ i = .int .i64 k ∧ n = .int .i64 m ∧ Hid (numGo m ((bs s).drop k) = R)) (fun _ i => s.size - (intOf i).toNat)
  case atStart => exact ⟨0, 0, Nat.zero_le _, by decide, rfl, rfl, HR.out.symm⟩
  case round =>
    obtain ⟨k, m, hk, hm, rfl, rfl, HG⟩ := hrel
    by_cases hlt : k < s.size
    · have hd1 := bs_drop s k hlt
      have hdg : digB s[k] = true := HD.out _ (List.mem_of_getElem? (bs_get s k hlt))
      obtain ⟨d, hdd⟩ : ∃ d : Nat, d = s[k].toNat - 48 := ⟨_, rfl⟩
      have hr := HG.out
      rw [hd1] at hr
      have hb : 48 ≤ s[k].toNat ∧ s[k].toNat ≤ 57 := by unfold digB at hdg; simpa using hdg
      have hd9 : d ≤ 9 := by omega
      have hix : ((s[k].toNat : Int)) = 48 + (d : Int) := by omega
      have hi0 : (0 : Int) ≤ (k : Int) := by omega
      have hi1 : (k : Int) < (s.size : Int) := by omega
      have hov := over_test m d hd9
      have H1 := Lib.hid hix
      have H2 := Lib.hid hov
      rw [numGo, ← hdd] at hr
      clear hix hov hdd hd1 hdg hb
      have H3 := Lib.hid hr
      clear hr
      by_cases ho : 9223372036854775807 < 10 * m + d
      · have H4 : Hid (decide ((9223372036854775807 - (48 + (d : Int) - 48)) / 10 < (m : Int)) = true) := by rw [show (48 : Int) + d - 48 = d from by omega]; show decide _ = true; rw [H2.out]; exact decide_eq_true ho
        have H5 : Hid (R = none) := by have := H3.out; rw [if_pos ho] at this; exact this.symm
        clear ho H2 H3
        have q1 := H1.out
        have q2 := H4.out
        go_wp2_with fail
        go_ret2
        exact ⟨by rw [H5.out]; rfl, HK.out⟩
      · have H4 : Hid (decide ((9223372036854775807 - (48 + (d : Int) - 48)) / 10 < (m : Int)) = false) := by rw [show (48 : Int) + d - 48 = d from by omega]; show decide _ = false; rw [H2.out]; exact decide_eq_false ho
        have H5 : Hid (numGo (10 * m + d) ((bs s).drop (k + 1)) = R) := by have := H3.out; rw [if_neg ho] at this; exact this
        have hb1 : 10 * (m : Int) + (d : Int) ≤ 9223372036854775807 := by omega
        clear ho H2 H3
        have q1 := H1.out
        have q2 := H4.out
        go_wp2_with fail
        go_round
        case rel => exact ⟨k + 1, 10 * m + d, by omega, by omega, by go_num, by go_num, H5⟩
        case measure => simp [intOf]; omega
    · obtain rfl : k = s.size := by omega
      have hr := HG.out
      rw [bs_drop_end s s.size (Nat.le_refl _), numGo] at hr
      have H3 := Lib.hid hr
      clear hr
      have hge : decide ((s.size : Int) < (s.size : Int)) = false := by simp
      go_wp2_with fail
      go_ret2
      exact ⟨by rw [← H3.out]; rfl, HK.out⟩
end Go.Proofs.YtgmmjhelcpgakaaGreatDoor
