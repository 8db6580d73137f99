/- The reference's Among, words and signs at Pas. -/
import Derived.Test.YtcdmkmbbliaefaaGreatDoorRef4
import Derived.Test.YtcdmkmbbliaefaaGreatDoorWords
namespace Go.Proofs.YtcdmkmbbliaefaaGreatDoor
open Go.RowKit
set_option linter.unusedVariables false
set_option linter.unusedSimpArgs false

/-- Is a text one of some. -/
def amongB (L : List ByteArray) (s : ByteArray) : Bool := L.any (fun x => x.toList == s.toList)
set_option maxHeartbeats 1000000 in
theorem refAmong_any (g n c : Nat) (L : List ByteArray) (s : ByteArray) (w : World) (hn : n = L.length) (hl : n ≤ 1000000) (hc : ∀ i x, L[i]? = some x → w.cell? ⟨g, i, none⟩ = some (.string x)) :
    Calls Tryz.prog 75 #[.slice (some ⟨g, 0, none⟩) n c, .string s] w fun e w' => e = .returned (.bool (amongB L s)) ∧ w' = w := by
  obtain ⟨R, hR⟩ : ∃ R, R = amongB L s := ⟨_, rfl⟩
  rw [← hR]
  have HR := Lib.hid hR; have HN := Lib.hid hn; have HC := Lib.hid hc
  clear hR hn hc
  go_enter Tryz.func75, Tryz.ntmps75
  go_wp2_with fail
  go_loop [5] (fun i => ∃ k : Nat, k ≤ n ∧ i = .int .i64 k ∧ Hid (amongB (L.drop k) s = R)) (fun i => n - (intOf i).toNat)
  case atStart => exact ⟨0, Nat.zero_le _, rfl, by show _ = R; rw [HR.out]; rfl⟩
  case round =>
    obtain ⟨k, hk, rfl, HG⟩ := hrel
    by_cases hkn : k < n
    · have j0 : (0 : Int) ≤ (k : Int) := by omega
      have j1 : (k : Int) < (n : Int) := by omega
      have hkl : k < L.length := by rw [← HN.out]; exact hkn
      obtain ⟨x, hx⟩ : ∃ x, x = L[k] := ⟨_, rfl⟩
      have hcell := HC.out k x (by rw [hx]; exact List.getElem?_eq_getElem hkl)
      have HD : Hid (L.drop k = x :: L.drop (k + 1)) := by rw [hx]; exact List.drop_eq_getElem_cons hkl
      clear hx hkl
      by_cases hxs : (x.toList == s.toList) = true
      · go_wp2_with fail
        go_ret
        have h1 := HG.out
        rw [HD.out] at h1
        unfold amongB at h1
        rw [List.any_cons, hxs] at h1
        exact ⟨by rw [← h1]; rfl, rfl⟩
      · have hxf : (x.toList == s.toList) = false := by simpa using hxs
        clear hxs
        go_wp2_with fail
        go_round
        case rel =>
          refine ⟨k + 1, by omega, by go_num, ?_⟩
          have h1 := HG.out
          rw [HD.out] at h1
          unfold amongB at h1 ⊢
          rw [List.any_cons, hxf, Bool.false_or] at h1
          exact h1
        case measure => simp [intOf]; omega
    · obtain rfl : k = n := by omega
      have h1 := HG.out
      rw [HN.out, List.drop_length] at h1
      have H1 := Lib.hid h1
      clear h1
      go_wp2_with fail
      go_ret
      exact ⟨by rw [← H1.out]; rfl, rfl⟩

def refWords : List ByteArray := [⟨#[97, 110, 100]⟩, ⟨#[97, 114, 114, 97, 121]⟩, ⟨#[98, 101, 103, 105, 110]⟩, ⟨#[98, 111, 111, 108, 101, 97, 110]⟩, ⟨#[99, 104, 97, 114]⟩, ⟨#[100, 105, 118]⟩, ⟨#[100, 111]⟩, ⟨#[100, 111, 119, 110, 116, 111]⟩, ⟨#[101, 108, 115, 101]⟩, ⟨#[101, 110, 100]⟩, ⟨#[102, 97, 108, 115, 101]⟩, ⟨#[102, 111, 114]⟩, ⟨#[102, 111, 114, 119, 97, 114, 100]⟩, ⟨#[102, 117, 110, 99, 116, 105, 111, 110]⟩, ⟨#[105, 102]⟩, ⟨#[105, 110, 116, 101, 103, 101, 114]⟩, ⟨#[109, 111, 100]⟩, ⟨#[110, 111, 116]⟩, ⟨#[111, 102]⟩, ⟨#[111, 114]⟩, ⟨#[112, 114, 111, 99, 101, 100, 117, 114, 101]⟩, ⟨#[112, 114, 111, 103, 114, 97, 109]⟩, ⟨#[114, 101, 97, 100]⟩, ⟨#[114, 101, 99, 111, 114, 100]⟩, ⟨#[114, 101, 112, 101, 97, 116]⟩, ⟨#[114, 101, 116, 117, 114, 110]⟩, ⟨#[116, 104, 101, 110]⟩, ⟨#[116, 111]⟩, ⟨#[116, 114, 117, 101]⟩, ⟨#[116, 121, 112, 101]⟩, ⟨#[117, 110, 116, 105, 108]⟩, ⟨#[118, 97, 114]⟩, ⟨#[119, 104, 105, 108, 101]⟩, ⟨#[119, 114, 105, 116, 101]⟩]
def refSigns : List ByteArray := [⟨#[58, 61]⟩, ⟨#[60, 62]⟩, ⟨#[60, 61]⟩, ⟨#[62, 61]⟩, ⟨#[61]⟩, ⟨#[60]⟩, ⟨#[62]⟩, ⟨#[43]⟩, ⟨#[45]⟩, ⟨#[42]⟩, ⟨#[40]⟩, ⟨#[41]⟩, ⟨#[91]⟩, ⟨#[93]⟩, ⟨#[59]⟩, ⟨#[58]⟩, ⟨#[44]⟩, ⟨#[46]⟩]

set_option maxRecDepth 100000 in
theorem refWordsAll_any (w : World) :
    Calls Tryz.prog 76 #[.int .i64 0] w fun e w' => e = .returned (.slice (some ⟨w.heap.size, 0, none⟩) 34 34) ∧ w' = w.alloc (.cells (refWords.map Value.string).toArray 9) := by
  go_enter Tryz.func76, Tryz.ntmps76
  go_wp2_with fail
  go_ret
  exact ⟨rfl, rfl⟩

set_option maxRecDepth 100000 in
theorem refSignsAll_any (w : World) :
    Calls Tryz.prog 45 #[.int .i64 0] w fun e w' => e = .returned (.slice (some ⟨w.heap.size, 0, none⟩) 18 18) ∧ w' = w.alloc (.cells (refSigns.map Value.string).toArray 9) := by
  go_enter Tryz.func45, Tryz.ntmps45
  go_wp2_with fail
  go_ret
  exact ⟨rfl, rfl⟩

theorem amongB_map (L : List ByteArray) (s : ByteArray) : amongB L s = (L.map bs).contains (bs s) := by
  unfold amongB
  induction L with
  | nil => rfl
  | cons a L ih =>
    rw [List.any_cons, ih, List.map_cons, List.contains_cons]
    congr 1
    rw [ByteArray.toList_eq, ByteArray.toList_eq]
    show (bs a == bs s) = (bs s == bs a)
    rw [Bool.eq_iff_iff, beq_iff_eq, beq_iff_eq]; exact eq_comm
theorem refWords_eq : refWords.map bs = pasWords := by kernel_rfl
theorem refSigns_eq : refSigns.map bs = pasSigns := by kernel_rfl
theorem refWords_is (s : ByteArray) : amongB refWords s = isWord (bs s) := by rw [amongB_map, refWords_eq]; rfl
theorem refWords_cell (w : World) (i : Nat) (x : ByteArray) (h : refWords[i]? = some x) (L : List ByteArray) (hL : L = refWords) : (w.alloc (.cells (L.map Value.string).toArray 9)).cell? ⟨w.heap.size, i, none⟩ = some (.string x) := by
  refine Blk.at_ (Blk.new _ _ _) i ?_
  rw [hL]
  simp [h]
theorem refIs_any (s : ByteArray) (w : World) :
    Calls Tryz.prog 61 #[.int .i64 0, .string s] w fun e w' => e = .returned (.bool (isWord (bs s))) ∧ Keep (fun _ => False) w w' := by
  obtain ⟨L, hL⟩ : ∃ L, L = refWords := ⟨_, rfl⟩
  have HW := fun w : World => refWordsAll_any w
  rw [← hL] at HW
  have hAm := fun (w : World) => refAmong_any w.heap.size 34 34 L s (w.alloc (.cells (L.map Value.string).toArray 9)) (by rw [hL]; rfl) (by omega) (fun i x h => refWords_cell w i x (by rw [← hL]; exact h) L hL)
  rw [show amongB L s = isWord (bs s) from by rw [hL]; exact refWords_is s] at hAm
  have HL := Lib.hid hL
  clear hL
  go_enter Tryz.func61, Tryz.ntmps61
  go_wp2_with fail
  refine (HW _).mono ?_
  rintro e w' ⟨rfl, hw⟩
  have HK : Hid (Keep (fun _ => False) w w') := by show Keep _ _ _; rw [hw]; exact (Keep.refl _ w).alloc _
  have HA := Lib.hid (hAm w)
  rw [← hw] at HA
  clear hw hAm HW
  go_wp2_with fail
  refine HA.out.mono ?_
  rintro e w2 ⟨rfl, rfl⟩
  go_wp2_with fail
  go_ret
  exact ⟨rfl, HK.out⟩
end Go.Proofs.YtcdmkmbbliaefaaGreatDoor
