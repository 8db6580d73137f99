/- The reference's Text, at Pas. -/
import Derived.Test.YtcdmkmbbliaefaaGreatDoorText2
namespace Go.Proofs.YtcdmkmbbliaefaaGreatDoor
open Go.RowKit
set_option linter.unusedVariables false
set_option linter.unusedSimpArgs false

/-- A token that a lexer may have made. -/
structure LexT (t : TokL) : Prop where
  k : t.kind ≤ 6
  k3 : t.kind = 3 → ∃ m : Nat, t.n = (m : Int) ∧ m ≤ 9223372036854775807
  k4 : t.kind = 4 → ∃ m : Nat, t.n = (m : Int) ∧ m < 256
  sz : t.text.size ≤ 100000
theorem lexT_of (s : ByteArray) (hs : s.size ≤ 3000) (h0 : (lexAll s).code = 0) (t : TokL) (ht : t ∈ (lexAll s).toks) : LexT t := by
  obtain ⟨ts, e1, e2⟩ := lexAll_goodT s hs h0
  have hm : bare t ∈ ts ++ [bareEnd] := by rw [← e1]; exact List.mem_map_of_mem ht
  rw [List.mem_append] at hm
  rcases hm with hm | hm
  · obtain ⟨F, ⟨_, hk⟩, hF⟩ := e2 _ hm
    have e3 : t.kind = F.kind := congrArg TokL.kind hF
    have e4 : t.text = ⟨F.text.toArray⟩ := congrArg TokL.text hF
    have e5 : t.n = F.n := congrArg TokL.n hF
    refine ⟨by rw [e3]; exact hk.k, fun h => by rw [e5]; exact hk.k3 (by rw [← e3]; exact h), fun h => by rw [e5]; exact hk.k4 (by rw [← e3]; exact h), ?_⟩
    rw [e4]; show F.text.toArray.size ≤ _; rw [List.size_toArray]; have := hk.sz; omega
  · have hF := List.mem_singleton.1 hm
    have e3 : t.kind = 0 := congrArg TokL.kind hF
    have e4 : t.text = ⟨#[]⟩ := congrArg TokL.text hF
    exact ⟨by rw [e3]; decide, (fun h => by rw [e3] at h; cases h), (fun h => by rw [e3] at h; cases h), by rw [e4]; decide⟩
set_option maxRecDepth 100000 in
set_option maxHeartbeats 8000000 in
theorem refText_any (t : TokL) (ht : LexT t) (w : World) :
    Calls Tryz.prog 12 #[.int .i64 0, .agg #[.int .i64 t.kind, .string t.text, .int .i64 t.n, .bool t.same, .int .i64 t.pos.1, .int .i64 t.pos.2.1, .int .i64 t.pos.2.2]] w fun e w' => e = .returned (.string ⟨(textOf t).toArray⟩) ∧ Keep (fun _ => False) w w' := by
  have hu38 := Tryz.underlying38
  have hu26 := Tryz.underlying26
  obtain ⟨kind, text, n, same, a, b, c⟩ := t
  obtain ⟨h0, h3, h4, hs⟩ := ht
  simp only at h0 h3 h4 hs ⊢
  have hcs : kind = 0 ∨ kind = 1 ∨ kind = 2 ∨ kind = 3 ∨ kind = 4 ∨ kind = 5 ∨ kind = 6 := by omega
  rcases hcs with rfl | rfl | rfl | rfl | rfl | rfl | rfl
  · clear h0
    have hfin : (⟨(textOf ⟨0, text, n, same, a, b, c⟩).toArray⟩ : ByteArray) = ⟨#[]⟩ := rfl
    clear h3 h4
    go_enter Tryz.func12, Tryz.ntmps12
    go_wp2_with fail
    go_ret
    exact ⟨by rw [hfin]; rfl, (Keep.refl _ w).alloc _⟩
  · clear h0
    have hfin : (⟨(textOf ⟨1, text, n, same, a, b, c⟩).toArray⟩ : ByteArray) = text := by show (⟨(bs text).toArray⟩ : ByteArray) = text; exact byteArray_mk text
    clear h3 h4
    go_enter Tryz.func12, Tryz.ntmps12
    go_wp2_with fail
    go_ret
    exact ⟨by rw [hfin]; rfl, (Keep.refl _ w).alloc _⟩
  · clear h0
    have hfin : (⟨(textOf ⟨2, text, n, same, a, b, c⟩).toArray⟩ : ByteArray) = text := by show (⟨(bs text).toArray⟩ : ByteArray) = text; exact byteArray_mk text
    clear h3 h4
    go_enter Tryz.func12, Tryz.ntmps12
    go_wp2_with fail
    go_ret
    exact ⟨by rw [hfin]; rfl, (Keep.refl _ w).alloc _⟩
  · clear h0
    obtain ⟨m, rfl, hm⟩ := h3 rfl
    have HD := Lib.hid (fun W => refDigits_str m hm W)
    have hfin : (⟨(textOf ⟨3, text, m, same, a, b, c⟩).toArray⟩ : ByteArray) = ⟨(digL m).toArray⟩ := by show (⟨(digL (m : Int).toNat).toArray⟩ : ByteArray) = _; rw [Int.toNat_natCast]
    clear h3 h4
    go_enter Tryz.func12, Tryz.ntmps12
    go_wp2_with fail
    refine (HD.out _).mono ?_
    rintro e w2 ⟨rfl, q, rfl⟩
    go_wp2_with fail
    go_ret
    exact ⟨by rw [hfin]; rfl, ((Keep.refl _ w).alloc _).drewN q⟩
  · clear h0
    obtain ⟨m, rfl, hm⟩ := h4 rfl
    have HD := Lib.hid (fun W => refCharText_any m hm W)
    have hfin : (⟨(textOf ⟨4, text, m, same, a, b, c⟩).toArray⟩ : ByteArray) = ⟨(charL m).toArray⟩ := by show (⟨(charL (m : Int).toNat).toArray⟩ : ByteArray) = _; rw [Int.toNat_natCast]
    clear h3 h4
    go_enter Tryz.func12, Tryz.ntmps12
    go_wp2_with fail
    refine (HD.out _).mono ?_
    rintro e w2 ⟨rfl, hk2⟩
    go_wp2_with fail
    go_ret
    exact ⟨by rw [hfin]; rfl, ((Keep.refl _ w).alloc _).trans hk2⟩
  · clear h0
    have hfin : (⟨(textOf ⟨5, text, n, same, a, b, c⟩).toArray⟩ : ByteArray) = text := by show (⟨(bs text).toArray⟩ : ByteArray) = text; exact byteArray_mk text
    clear h3 h4
    go_enter Tryz.func12, Tryz.ntmps12
    go_wp2_with fail
    go_ret
    exact ⟨by rw [hfin]; rfl, (Keep.refl _ w).alloc _⟩
  · clear h0
    have HD := Lib.hid (fun W => refPrint_any text W hs)
    have hfin : (⟨(textOf ⟨6, text, n, same, a, b, c⟩).toArray⟩ : ByteArray) = ⟨(noteL (bs text)).toArray⟩ := rfl
    clear h3 h4
    go_enter Tryz.func12, Tryz.ntmps12
    go_wp2_with fail
    refine (HD.out _).mono ?_
    rintro e w2 ⟨rfl, hk2⟩
    go_wp2_with fail
    go_ret
    exact ⟨by rw [hfin]; rfl, ((Keep.refl _ w).alloc _).trans hk2⟩
end Go.Proofs.YtcdmkmbbliaefaaGreatDoor
