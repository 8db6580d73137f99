/- Package words at Pas: All, Is. -/
import Derived.Test.YtcdmkmbbliaefaaGreatDoorLib
import Derived.Test.YtcdmkmbbliaefaaGreatDoorOwn
namespace Go.Proofs.YtcdmkmbbliaefaaGreatDoor
open Go.RowKit
set_option linter.unusedVariables false
set_option linter.unusedSimpArgs false

/-- The words of Pas, as one text. -/
def pasText : ByteArray := ⟨#[97, 110, 100, 32, 97, 114, 114, 97, 121, 32, 98, 101, 103, 105, 110, 32, 98, 111, 111, 108, 101, 97, 110, 32, 99, 104, 97, 114, 32, 100, 105, 118, 32, 100, 111, 32, 100, 111, 119, 110, 116, 111, 32, 101, 108, 115, 101, 32, 101, 110, 100, 32, 102, 97, 108, 115, 101, 32, 102, 111, 114, 32, 102, 111, 114, 119, 97, 114, 100, 32, 102, 117, 110, 99, 116, 105, 111, 110, 32, 105, 102, 32, 105, 110, 116, 101, 103, 101, 114, 32, 109, 111, 100, 32, 110, 111, 116, 32, 111, 102, 32, 111, 114, 32, 112, 114, 111, 99, 101, 100, 117, 114, 101, 32, 112, 114, 111, 103, 114, 97, 109, 32, 114, 101, 97, 100, 32, 114, 101, 99, 111, 114, 100, 32, 114, 101, 112, 101, 97, 116, 32, 114, 101, 116, 117, 114, 110, 32, 116, 104, 101, 110, 32, 116, 111, 32, 116, 114, 117, 101, 32, 116, 121, 112, 101, 32, 117, 110, 116, 105, 108, 32, 118, 97, 114, 32, 119, 104, 105, 108, 101, 32, 119, 114, 105, 116, 101]⟩
def pasWords : List Bs := Lib.fields (bs pasText)
def isWord (l : Bs) : Bool := pasWords.contains l
def wordAt (t : Nat) : ByteArray := ⟨(pasWords.getD t []).toArray⟩
theorem pasWords_len : pasWords.length = 34 := by decide
theorem bs_mk (l : Bs) : bs ⟨l.toArray⟩ = l := by simp [bs]
theorem byteArray_ext {a b : ByteArray} (h : bs a = bs b) : a = b := by
  cases a; cases b; simp only [bs] at h; congr 1; exact Array.toList_inj.1 h
def searchAt (x : Bs) : Nat := Lib.bsGo (fun t => Op.bytesLess (pasWords.getD t []) x) 34 0 34
theorem search_all : (List.range 34).all (fun j => searchAt (pasWords.getD j []) == j) = true := by decide
theorem search_is (x : Bs) : decide (searchAt x < 34 ∧ pasWords.getD (searchAt x) [] = x) = isWord x := by
  rw [Bool.eq_iff_iff, decide_eq_true_eq]
  unfold isWord
  rw [List.contains_iff_mem]
  constructor
  · rintro ⟨h1, h2⟩
    rw [← h2, List.getD_eq_getElem?_getD, List.getElem?_eq_getElem (by rw [pasWords_len]; exact h1)]
    exact List.getElem_mem _
  · intro h
    obtain ⟨j, hj0, rfl⟩ := List.mem_iff_getElem.1 h
    have hj : j < 34 := by rw [← pasWords_len]; exact hj0
    have h1 := List.all_eq_true.1 search_all j (List.mem_range.2 hj)
    have h2 : pasWords.getD j [] = pasWords[j] := by rw [List.getD_eq_getElem?_getD, List.getElem?_eq_getElem (by rw [pasWords_len]; exact hj)]; rfl
    rw [h2] at h1
    have h3 : searchAt pasWords[j] = j := by simpa using h1
    exact ⟨Nat.lt_of_le_of_lt (Nat.le_of_eq h3) hj, (congrArg (fun k => pasWords.getD k []) h3).trans h2⟩
set_option maxRecDepth 100000 in
theorem pas_ascii : ∀ (j : Nat) b, pasText.data.toList[j]? = some b → b.toNat < 128 := by
  have h : pasText.data.toList.all (fun b => decide (b.toNat < 128)) = true := by decide
  intro j b hj
  have := List.all_eq_true.1 h b (List.mem_of_getElem? hj)
  simpa using this
def wordCells : Array Value := (pasWords.map fun l => Value.string ⟨l.toArray⟩).toArray
set_option maxRecDepth 100000 in
theorem wordsAll_any (w : World) (hg : Lib.TabIs Tryz.prog w "strings.asciiSpace" .u8 Lib.asciiSpaceTab) :
    Calls Tryz.prog 85 #[.int .i64 0] w fun e w' => e = .returned (.slice (some ⟨w.heap.size, 0, none⟩) 34 34) ∧ w' = w.alloc (.cells wordCells 9) := by
  have hF := fields_laid pasText w (by decide) pas_ascii hg
  have e1 : (Lib.fields pasText.data.toList).length = 34 := pasWords_len
  have e2 : ((Lib.fields pasText.data.toList).map fun l => Value.string ⟨l.toArray⟩).toArray = wordCells := rfl
  rw [e1, e2] at hF
  have HF := Lib.hid hF
  clear hF e1 e2
  go_enter Tryz.func85, Tryz.ntmps85
  go_wp2_with fail
  refine HF.out.mono ?_
  rintro e w' ⟨rfl, rfl⟩
  go_wp2_with fail
  go_ret
  exact ⟨rfl, rfl⟩
theorem wordsIs_any (x : ByteArray) (w : World) (hg : Lib.TabIs Tryz.prog w "strings.asciiSpace" .u8 Lib.asciiSpaceTab) :
    Calls Tryz.prog 71 #[.int .i64 0, .string x] w fun e w' => e = .returned (.bool (isWord (bs x))) ∧ Keep (fun _ => False) w w' := by
  have HG := Lib.hid hg; clear hg
  go_enter Tryz.func71, Tryz.ntmps71
  go_wp2_with fail
  refine (wordsAll_any w HG.out).mono ?_
  rintro e w' ⟨rfl, hw⟩
  have hk : Keep (fun _ => False) w w' := by rw [hw]; exact (Keep.refl _ w).alloc _
  have hb : Blk w' w.heap.size wordCells 9 := by rw [hw]; exact Blk.new w wordCells _
  have HS : ∀ W, Keep (fun _ => False) w' W → Calls Tryz.prog 84 #[.slice (some ⟨w.heap.size, 0, none⟩) 34 34, .string x] W fun e w2 => (∃ n : Int, e = .returned (.tuple #[.int .i64 n, .bool (isWord (bs x))])) ∧ Keep (fun _ => False) w' w2 := by
    intro W hW
    refine (search_any w.heap.size 0 34 34 wordAt x W (by decide) ?_).mono ?_
    · intro j hj
      rw [Nat.zero_add]
      refine (hW.blk hb (fun h => h)).at_ j ?_
      unfold wordCells
      have : j < pasWords.length := by rw [pasWords_len]; exact hj
      simp [wordAt, List.getElem?_eq_getElem this, List.getD_eq_getElem?_getD]
    · rintro e w2 ⟨rfl, q, rfl⟩
      have e1 : (fun t => Op.bytesLess (wordAt t).toList x.toList) = fun t => Op.bytesLess (pasWords.getD t []) (bs x) := by
        funext t; simp [wordAt, bs, ByteArray.toList_eq]
      have e3 : wordAt (searchAt (bs x)) = x ↔ pasWords.getD (searchAt (bs x)) [] = bs x := by
        unfold wordAt
        constructor
        · intro h; have := congrArg bs h; rwa [bs_mk] at this
        · intro h; exact byteArray_ext (by rw [bs_mk]; exact h)
      have e4 : decide (searchAt (bs x) < 34 ∧ wordAt (searchAt (bs x)) = x) = isWord (bs x) := by
        rw [← search_is, Bool.eq_iff_iff]; simp only [decide_eq_true_eq]; rw [e3]
      refine ⟨⟨(Lib.bsGo (fun t => Op.bytesLess (wordAt t).toList x.toList) 34 0 34 : Nat), ?_⟩, hW.drewN q⟩
      rw [e1, ← e4]; rfl
  have HS' := Lib.hid HS; have HK := Lib.hid hk
  clear HS hw hb hk
  go_wp2_with fail
  refine (HS'.out _ (Keep.refl _ _)).mono ?_
  rintro e w2 ⟨⟨n, rfl⟩, hk2⟩
  go_wp2_with fail
  go_ret
  exact ⟨rfl, HK.out.trans hk2⟩
end Go.Proofs.YtcdmkmbbliaefaaGreatDoor
