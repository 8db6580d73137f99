/- The cursor of package text: what each of its methods answers, and what becomes of its block. -/
import Derived.Test.YtcdmkmbbliaefaaGreatDoorBase
namespace Go.Proofs.YtcdmkmbbliaefaaGreatDoor
open Go.RowKit
set_option linter.unusedVariables false
set_option linter.unusedSimpArgs false

/-- The cursor's block: the text s, behind p of its bytes. -/
def CurB (w : World) (b : Nat) (s : ByteArray) (p : Nat) : Prop :=
  Blk w b #[.string s, .int .i64 p, .int .i64 (lineAt s p), .int .i64 (colAt s p)] 69
namespace CurB
variable {w w' : World} {b : Nat} {s : ByteArray} {p : Nat}
theorem c0 (h : CurB w b s p) : w.cell? ⟨b, 0, none⟩ = some (.string s) := Blk.at_ h 0 rfl
theorem c1 (h : CurB w b s p) : w.cell? ⟨b, 1, none⟩ = some (.int .i64 p) := Blk.at_ h 1 rfl
theorem c2 (h : CurB w b s p) : w.cell? ⟨b, 2, none⟩ = some (.int .i64 (lineAt s p)) := Blk.at_ h 2 rfl
theorem c3 (h : CurB w b s p) : w.cell? ⟨b, 3, none⟩ = some (.int .i64 (colAt s p)) := Blk.at_ h 3 rfl
theorem fr (h : CurB w b s p) (i : Nat) : w.frozen? ⟨b, i, none⟩ = false := Blk.free h i
end CurB

theorem peek_in (b : Nat) (s : ByteArray) (p i : Nat) (w : World) (hc : CurB w b s p) (hs : s.size ≤ 140737488351232) (hi : p + i < s.size) :
    Calls Tryz.prog 18 #[.pointer (some ⟨b, 0, none⟩), .int .i64 i] w fun e w' => e = .returned (.tuple #[.int .u8 (s[p + i]'hi).toNat, .bool true]) ∧ Drawn w w' := by
  have h0 := hc.c0
  have h1 := hc.c1
  have g1 : decide ((i : Int) < 0) = false := by simp
  have g2' : decide ((s.size : Int) - (p : Int) ≤ (i : Int)) = false := by simp; omega
  have b1 : (0 : Int) ≤ (p : Int) + (i : Int) := by omega
  have b2 : (p : Int) + (i : Int) < (s.size : Int) := by omega
  go_enter Tryz.func18, Tryz.ntmps18
  go_wp2
  go_quiet (fail)
  go_wp2
  go_quiet (fail)
  go_wp2
  go_ret2
  exact ⟨rfl, Drawn.nn _ _ _⟩

theorem peek_out (b : Nat) (s : ByteArray) (p i : Nat) (w : World) (hc : CurB w b s p) (hs : s.size ≤ 140737488351232) (hp : p ≤ s.size) (hi : s.size ≤ p + i) :
    Calls Tryz.prog 18 #[.pointer (some ⟨b, 0, none⟩), .int .i64 i] w fun e w' => e = .returned (.tuple #[.int .u8 0, .bool false]) ∧ Drawn w w' := by
  have h0 := hc.c0
  have h1 := hc.c1
  have g1 : decide ((i : Int) < 0) = false := by simp
  have g2' : decide ((s.size : Int) - (p : Int) ≤ (i : Int)) = true := by simp; omega
  go_enter Tryz.func18, Tryz.ntmps18
  go_wp2
  go_quiet (fail)
  go_wp2
  go_ret2
  exact ⟨rfl, Drawn.n _ _⟩

/-- The byte i places on, and whether there is one. -/
def peekV (s : ByteArray) (k : Nat) : Value := if h : k < s.size then .tuple #[.int .u8 (s[k]'h).toNat, .bool true] else .tuple #[.int .u8 0, .bool false]
theorem peek_any (b : Nat) (s : ByteArray) (p i : Nat) (w : World) (hc : CurB w b s p) (hs : s.size ≤ 140737488351232) (hp : p ≤ s.size) :
    Calls Tryz.prog 18 #[.pointer (some ⟨b, 0, none⟩), .int .i64 i] w fun e w' => e = .returned (peekV s (p + i)) ∧ Drawn w w' := by
  unfold peekV
  by_cases h : p + i < s.size
  · rw [dif_pos h]; exact peek_in b s p i w hc hs h
  · rw [dif_neg h]; exact peek_out b s p i w hc hs hp (by omega)

theorem next_out (b : Nat) (s : ByteArray) (p : Nat) (w : World) (hc : CurB w b s p) (hs : s.size ≤ 140737488351232) (hp : p = s.size) :
    Calls Tryz.prog 48 #[.pointer (some ⟨b, 0, none⟩)] w fun e w' => e = .returned (.tuple #[.int .u8 0, .bool false]) ∧ Drawn w w' := by
  have HP := Lib.hid hp; clear hp
  go_enter Tryz.func48, Tryz.ntmps48
  go_wp2_with fail
  refine (peek_out b s p 0 _ hc hs (by have := HP.out; omega) (by have := HP.out; omega)).mono ?_
  rintro e w' ⟨rfl, n, rfl⟩
  go_wp2_with fail
  go_ret2
  exact ⟨rfl, Drawn.n _ _⟩

theorem next_in (b : Nat) (s : ByteArray) (p : Nat) (w : World) (hc : CurB w b s p) (hs : s.size ≤ 140737488351232) (hp : p < s.size) :
    Calls Tryz.prog 48 #[.pointer (some ⟨b, 0, none⟩)] w fun e w' => e = .returned (.tuple #[.int .u8 (s[p]'hp).toNat, .bool true]) ∧ CurB w' b s (p + 1) ∧ Keep (· = b) w w' := by
  have h1 := hc.c1
  have h2 := hc.c2
  have h3 := hc.c3
  have f1 := hc.fr 1
  have f2 := hc.fr 2
  have f3 := hc.fr 3
  have l1 := lineAt_le s p
  have l2 := colAt_le s p
  have LS := Lib.hid (lineAt_succ s p hp)
  have CS := Lib.hid (colAt_succ s p hp)
  obtain ⟨c, hcc⟩ : ∃ c, c = s[p] := ⟨_, rfl⟩
  have PK : Calls Tryz.prog 18 #[.pointer (some ⟨b, 0, none⟩), .int .i64 0] w fun e w' => e = .returned (.tuple #[.int .u8 c.toNat, .bool true]) ∧ Drawn w w' := by
    subst hcc; exact peek_in b s p 0 w hc hs (by omega)
  have LS' : Hid (lineAt s (p + 1) = lineAt s p + if c = 10 then 1 else 0) := by rw [hcc]; exact LS
  have CS' : Hid (colAt s (p + 1) = if c = 10 then 0 else colAt s p + 1) := by rw [hcc]; exact CS
  rw [← hcc]
  clear LS CS hcc
  by_cases hn : c = 10
  · have t1 : (((c.toNat : Int)) == 10) = true := by subst hn; rfl
    have HN := Lib.hid hn; clear hn
    go_enter Tryz.func48, Tryz.ntmps48
    go_wp2_with fail
    refine PK.mono ?_
    clear PK
    rintro e w' ⟨rfl, n, rfl⟩
    go_wp2_with fail
    go_ret2
    refine ⟨rfl, ?_, ?_⟩
    · have hb := ((((Blk.drewN hc n).set 1 (.int .i64 (p + 1 : Nat))).set 3 (.int .i64 (colAt s p + 1 : Nat))).set 2 (.int .i64 (lineAt s p + 1 : Nat))).set 3 (.int .i64 0)
      unfold CurB
      rw [LS'.out, CS'.out, if_pos HN.out, if_pos HN.out]
      exact hb
    · exact (((((Keep.refl (· = b) w).drewN n).set1 1 _).set1 3 _).set1 2 _).set1 3 _
  · have t1 : (((c.toNat : Int)) == 10) = false := by
      have : c.toNat ≠ 10 := fun e => hn (by apply UInt8.toNat_inj.1; simpa using e)
      simp; omega
    have HN := Lib.hid hn; clear hn
    go_enter Tryz.func48, Tryz.ntmps48
    go_wp2_with fail
    refine PK.mono ?_
    clear PK
    rintro e w' ⟨rfl, n, rfl⟩
    go_wp2_with fail
    go_ret2
    refine ⟨rfl, ?_, ?_⟩
    · have hb := (((Blk.drewN hc n).set 1 (.int .i64 (p + 1 : Nat))).set 3 (.int .i64 (colAt s p + 1 : Nat)))
      unfold CurB
      rw [LS'.out, CS'.out, if_neg HN.out, if_neg HN.out]
      exact hb
    · exact (((Keep.refl (· = b) w).drewN n).set1 1 _).set1 3 _
end Go.Proofs.YtcdmkmbbliaefaaGreatDoor
