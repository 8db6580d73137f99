/- Package scan: Sign. -/
import Derived.Test.YtgmmjhelcpgakaaGreatDoorGF
import Derived.Lib.OthersKept
import Derived.Laws.RangeString
import Derived.Laws.RangeAny
import Derived.Outline
namespace Go.Proofs.YtgmmjhelcpgakaaGreatDoor
open Go.RowKit
set_option linter.unusedVariables false
set_option linter.unusedSimpArgs false

theorem prefix_len {g l : Bs} (h : g.isPrefixOf l = true) : g.length ≤ l.length := (List.isPrefixOf_iff_prefix.1 h).length_le
set_option maxRecDepth 100000 in
set_option maxHeartbeats 2000000 in
theorem sign_none (base T bl bc : Nat) (s : ByteArray) (p : Nat) (v : Value) (l : List TokL) (last : Int) (w : World) (h : Sc w base T bl bc 0 s p v l last) (signs : List Bs) (ba n cap : Nat) (hnb : n ≤ 1000000) (hcells : ∀ j, j < n → w.cell? ⟨ba, j, none⟩ = some (.string ⟨(signs.getD j []).toArray⟩)) (hpj : ∀ j, j < n → (signs.getD j []).isPrefixOf ((bs s).drop p) = false) :
    Calls Tryz.prog 86 #[.pointer (some ⟨bl, 0, none⟩), .slice (some ⟨ba, 0, none⟩) n cap] w fun e w' => e = .returned (.int .i64 5) ∧ Keep (fun _ => False) w w' := by
  have HRS : Hid (∀ W, Keep (fun _ => False) w W → Calls Tryz.prog 80 #[.pointer (some ⟨bl, 0, none⟩)] W fun e w' => e = .returned (.string (s.extract p s.size)) ∧ Keep (fun _ => False) W w') := fun W hk => h.rest hk
  have HPS : Hid (∀ W, Keep (fun _ => False) w W → Calls Tryz.prog 42 #[.pointer (some ⟨bc, 0, none⟩)] W fun e w' => e = .returned (.agg #[.int .i64 p, .int .i64 (lineAt s p), .int .i64 (colAt s p)]) ∧ Keep (fun _ => False) W w') := fun W hk => h.pos hk
  have HPF : Hid (∀ (j : Nat) (b : Bool) W, (signs.getD j []).isPrefixOf ((bs s).drop p) = b → Calls Tryz.prog 114 #[.string (s.extract p s.size), .string ⟨(signs.getD j []).toArray⟩] W fun e w' => e = .returned (.bool b) ∧ w' = W) := by
    intro j b W hb
    have := hasPrefix_any (s.extract p s.size) ⟨(signs.getD j []).toArray⟩ W
    rw [show (s.extract p s.size).data.toList = (bs s).drop p from bs_tail s p, show (ByteArray.mk (signs.getD j []).toArray).data.toList = signs.getD j [] from by simp] at this
    unfold Lib.hasPrefix at this
    rw [hb] at this
    exact this
  have HPJ := Lib.hid hpj
  clear hpj
  go_enter Tryz.func86, Tryz.ntmps86
  go_wp2_with fail
  go_loopw [10] (fun q wr => ∃ k : Nat, k ≤ n ∧ q = .int .i64 k ∧ Keep (fun _ => False) w wr) (fun q _ => n - (intOf q).toNat)
  case atStart => exact ⟨0, Nat.zero_le _, rfl, Keep.refl _ _⟩
  case round =>
    obtain ⟨k, hk, rfl, hkr⟩ := hrel
    by_cases hlt : k < n
    · have hcell := hkr.cell (hcells k (by omega)) (fun h => h)
      have hi0 : (0 : Int) ≤ (k : Int) := by omega
      have hi1 : (k : Int) < (n : Int) := by omega
      have ht : decide ((k : Int) < (n : Int)) = true := by simp; omega
      have HKR := Lib.hid hkr
      go_wp2_with fail
      refine (HRS.out _ HKR.out).mono ?_
      rintro e1 w1 ⟨rfl, hk1⟩
      go_wp2_with fail
      refine (HPF.out k false _ (HPJ.out k hlt)).mono ?_
      rintro e2 w2 ⟨rfl, rfl⟩
      go_wp2_with fail
      go_roundw
      case rel => exact ⟨k + 1, by omega, by go_num, HKR.out.trans hk1⟩
      case measure => simp [intOf]; omega
    · obtain rfl : k = n := by omega
      have ht : decide ((k : Int) < (k : Int)) = false := by simp
      go_wp2_with fail
      go_ret
      exact ⟨rfl, hkr⟩

set_option maxRecDepth 100000 in
set_option maxHeartbeats 2000000 in
theorem sign_some (base T bl bc : Nat) (s : ByteArray) (p : Nat) (v : Value) (l : List TokL) (last : Int) (w : World) (h : Sc w base T bl bc 0 s p v l last) (signs : List Bs) (ba n cap : Nat) (hnb : n ≤ 1000000) (hcells : ∀ j, j < n → w.cell? ⟨ba, j, none⟩ = some (.string ⟨(signs.getD j []).toArray⟩)) (i : Nat) (hi : i < n) (hpi : (signs.getD i []).isPrefixOf ((bs s).drop p) = true) (hpj : ∀ j, j < i → (signs.getD j []).isPrefixOf ((bs s).drop p) = false) (hl : l.length ≤ 900000) :
    Calls Tryz.prog 86 #[.pointer (some ⟨bl, 0, none⟩), .slice (some ⟨ba, 0, none⟩) n cap] w fun e w' => e = .returned (.int .i64 0) ∧ Lays1 base T bl bc s w (p + (signs.getD i []).length) (l ++ [⟨5, ⟨(signs.getD i []).toArray⟩, 0, last == ((lineAt s p : Nat) : Int), posA s p⟩]) w' := by
  have HRS : Hid (∀ W, Keep (fun _ => False) w W → Calls Tryz.prog 80 #[.pointer (some ⟨bl, 0, none⟩)] W fun e w' => e = .returned (.string (s.extract p s.size)) ∧ Keep (fun _ => False) W w') := fun W hk => h.rest hk
  have HPS : Hid (∀ W, Keep (fun _ => False) w W → Calls Tryz.prog 42 #[.pointer (some ⟨bc, 0, none⟩)] W fun e w' => e = .returned (.agg #[.int .i64 p, .int .i64 (lineAt s p), .int .i64 (colAt s p)]) ∧ Keep (fun _ => False) W w') := fun W hk => h.pos hk
  have HPF : Hid (∀ (j : Nat) (b : Bool) W, (signs.getD j []).isPrefixOf ((bs s).drop p) = b → Calls Tryz.prog 114 #[.string (s.extract p s.size), .string ⟨(signs.getD j []).toArray⟩] W fun e w' => e = .returned (.bool b) ∧ w' = W) := by
    intro j b W hb
    have := hasPrefix_any (s.extract p s.size) ⟨(signs.getD j []).toArray⟩ W
    rw [show (s.extract p s.size).data.toList = (bs s).drop p from bs_tail s p, show (ByteArray.mk (signs.getD j []).toArray).data.toList = signs.getD j [] from by simp] at this
    unfold Lib.hasPrefix at this
    rw [hb] at this
    exact this
  have HPJ := Lib.hid hpj
  clear hpj
  go_enter Tryz.func86, Tryz.ntmps86
  go_wp2_with fail
  go_loopw [10] (fun q wr => ∃ k : Nat, k ≤ i ∧ q = .int .i64 k ∧ Keep (fun _ => False) w wr) (fun q _ => n - (intOf q).toNat)
  case atStart => exact ⟨0, Nat.zero_le _, rfl, Keep.refl _ _⟩
  case round =>
    obtain ⟨k, hk, rfl, hkr⟩ := hrel
    by_cases hlt : k < i
    · have hcell := hkr.cell (hcells k (by omega)) (fun h => h)
      have hi0 : (0 : Int) ≤ (k : Int) := by omega
      have hi1 : (k : Int) < (n : Int) := by omega
      have ht : decide ((k : Int) < (n : Int)) = true := by simp; omega
      have HKR := Lib.hid hkr
      go_wp2_with fail
      refine (HRS.out _ HKR.out).mono ?_
      rintro e1 w1 ⟨rfl, hk1⟩
      go_wp2_with fail
      refine (HPF.out k false _ (HPJ.out k hlt)).mono ?_
      rintro e2 w2 ⟨rfl, rfl⟩
      go_wp2_with fail
      go_roundw
      case rel => exact ⟨k + 1, by omega, by go_num, HKR.out.trans hk1⟩
      case measure => simp [intOf]; omega
    · obtain rfl : k = i := by omega
      have hcell := hkr.cell (hcells k (by omega)) (fun h => h)
      have hi0 : (0 : Int) ≤ (k : Int) := by omega
      have hi1 : (k : Int) < (n : Int) := by omega
      have ht : decide ((k : Int) < (n : Int)) = true := by simp; omega
      have HKR := Lib.hid hkr
      have HPI := Lib.hid hpi
      clear hpi
      have hgl := prefix_len HPI.out
      rw [List.length_drop, bs_len] at hgl
      have hpg : p + (signs.getD k []).length ≤ s.size := by have := h.hp; omega
      have hsz : (ByteArray.mk (signs.getD k []).toArray).size = (signs.getD k []).length := by simp [ByteArray.size]
      generalize hG : signs.getD k [] = G at *
      have HGG := Lib.hid hG
      clear hG hcells
      have HRC := Lib.hid (h.grow hkr).b.c0
      go_wp2_with fail
      refine (HRS.out _ HKR.out).mono ?_
      rintro e1 w1 ⟨rfl, hk1⟩
      go_wp2_with fail
      have hpf := HPF.out k true w1 (by rw [HGG.out]; exact HPI.out)
      rw [HGG.out] at hpf
      refine hpf.mono ?_
      clear hpf
      rintro e2 w2 ⟨rfl, hw2⟩
      subst hw2
      have hk2 := HKR.out.trans hk1
      have c02 := (h.grow hk2).b.c0
      go_wp2_with fail
      refine (HPS.out _ hk2).mono ?_
      rintro e3 w3 ⟨rfl, hk3⟩
      have c03 := hk3.cell c02 (fun h => h)
      have c0W : (w3.alloc (.cells #[.int .i64 p, .int .i64 (lineAt s p), .int .i64 (colAt s p)] 28)).cell? ⟨bl, 0, none⟩ = some (.pointer (some ⟨bc, 0, none⟩)) := ((Keep.refl (fun _ => False) w3).alloc _).cell c03 (fun h => h)
      obtain ⟨W, hW⟩ : ∃ W, W = w3.alloc (.cells #[.int .i64 p, .int .i64 (lineAt s p), .int .i64 (colAt s p)] 28) := ⟨_, rfl⟩
      have hKW : Keep (fun _ => False) w W := by rw [hW]; exact (hk2.trans hk3).alloc _
      have hBW : Blk W w3.heap.size #[.int .i64 p, .int .i64 (lineAt s p), .int .i64 (colAt s p)] 28 := by rw [hW]; exact Blk.new _ _ _
      have hSW := h.grow hKW
      have hne : w3.heap.size ≠ bc := by have h1 := Blk.lt h.c; have h2 := (hk2.trans hk3).size; omega
      have HWQ := Lib.hid hW
      have hu26 := Tryz.underlying28
      have hu38 := Tryz.underlying50
      clear hW hk3 hk1 hk2
      go_wp2_with fail
      rw [← HWQ.out]
      have hsk := hSW.skip G.length hpg
      rw [← hsz] at hsk
      refine hsk.mono ?_
      clear hsk
      rintro e7 w7 ⟨rfl, hS7, hk7⟩
      rw [hsz] at hS7
      have hBX := hk7.blk hBW hne
      have d0 := hBX.at_ 0 (v := .int .i64 p) rfl
      have d1 := hBX.at_ 1 (v := .int .i64 (lineAt s p)) rfl
      have d2 := hBX.at_ 2 (v := .int .i64 (colAt s p)) rfl
      go_wp2_with fail
      refine (add_any base T bl bc 0 s (p + G.length) v l last _ hS7 hl 5 ⟨G.toArray⟩ 0 false 0 0 0 p (lineAt s p) (colAt s p)).mono ?_
      rintro e8 w8 ⟨rfl, hS8, hb8⟩
      have HS8 := Lib.hid hS8; clear hS8
      go_wp2_with fail
      go_ret
      rw [HGG.out]
      exact ⟨rfl, HS8.out, ((hKW.belowB h.base_le).trans (hk7.below (by have := h.base_le; have := hKW.size; omega) (fun k hk => by rw [hk]; exact h.hbc))).trans hb8⟩

end Go.Proofs.YtgmmjhelcpgakaaGreatDoor
/- The tokens of a Pas text, in plain words. -/
namespace Go.Proofs.YtgmmjhelcpgakaaGreatDoor
open Go.RowKit
set_option linter.unusedVariables false
set_option linter.unusedSimpArgs false

def smallB (c : UInt8) : Bool := decide (97 ≤ c.toNat) && decide (c.toNat ≤ 122)
def greatB (c : UInt8) : Bool := decide (65 ≤ c.toNat) && decide (c.toNat ≤ 90)
def nameB (c : UInt8) : Bool := smallB c || digB c || c == 95 || greatB c
def letterB (c : UInt8) : Bool := smallB c || greatB c
def blankB (c : UInt8) : Bool := c == 32 || c == 9 || c == 13 || c == 10
def plainB (c : UInt8) : Bool := decide (32 ≤ c.toNat) && decide (c.toNat ≤ 126) && c != 39
def pasSigns : List Bs := [[58, 61], [60, 62], [60, 61], [62, 61], [61], [60], [62], [43], [45], [42], [40], [41], [91], [93], [59], [58], [44], [46]]
def signOf (signs : List Bs) (l : Bs) : Option Bs := signs.find? (fun g => g.isPrefixOf l)
/-- What stands at the begin of a text: the error (0: none), the kind, the text, the number, how many bytes. -/
structure Fd where
  err : Nat
  kind : Nat
  text : Bs
  n : Int
  len : Nat
def fail (e : Nat) : Fd := ⟨e, 0, [], 0, 0⟩
def lowL (l : Bs) : Bs := Lib.toLowerA l
def tokName (l : Bs) : Fd :=
  if spanLen nameB l ≤ 32 then ⟨0, if isWord (lowL (l.take (spanLen nameB l))) then 2 else 1, lowL (l.take (spanLen nameB l)), 0, spanLen nameB l⟩ else fail 3
def tokInt (l : Bs) : Fd :=
  match numGo 0 (l.take (spanLen digB l)) with
  | some n => ⟨0, 3, [], n, spanLen digB l⟩
  | none => fail 6
def tokQuoted (l : Bs) : Fd :=
  if ([39, 39, 39, 39] : Bs).isPrefixOf l then ⟨0, 4, [], 39, 4⟩
  else match l with
    | _ :: c :: d :: _ => if plainB c = true ∧ d = 39 then ⟨0, 4, [], c.toNat, 3⟩ else fail 7
    | _ => fail 7
def tokNumbered (l : Bs) : Fd :=
  if spanLen digB (l.drop 1) = 0 ∨ 3 < spanLen digB (l.drop 1) then fail 7
  else match numGo 0 ((l.drop 1).take (spanLen digB (l.drop 1))) with
    | some n => if 255 < n then fail 7 else ⟨0, 4, [], n, 1 + spanLen digB (l.drop 1)⟩
    | none => fail 7
def tokSign (l : Bs) : Fd :=
  match signOf pasSigns l with
  | some g => ⟨0, 5, g, 0, g.length⟩
  | none => fail 5
def tokPlain (l : Bs) : Fd :=
  match l with
  | [] => fail 5
  | c :: _ => if letterB c = true then tokName l else if digB c = true then tokInt l else if c = 39 then tokQuoted l else if c = 35 then tokNumbered l else tokSign l
def tokOf (l : Bs) : Fd :=
  if noteBegins l = true then (if (noteRead l).2.2 = 0 then ⟨0, 6, (noteRead l).1, 0, (noteRead l).2.1⟩ else fail (noteRead l).2.2)
  else tokPlain l
end Go.Proofs.YtgmmjhelcpgakaaGreatDoor
/- All tokens of a Pas text, in plain words. -/
namespace Go.Proofs.YtgmmjhelcpgakaaGreatDoor
open Go.RowKit
set_option linter.unusedVariables false
set_option linter.unusedSimpArgs false

abbrev Pos3 := Nat × Nat × Nat
structure LexR where
  toks : List TokL
  code : Nat
  pos : Pos3
def tokAt (s : ByteArray) (q : Nat) (last : Int) (F : Fd) : TokL := ⟨F.kind, ⟨F.text.toArray⟩, F.n, last == ((lineAt s q : Nat) : Int), posA s q⟩
def endAt (s : ByteArray) (q : Nat) (last : Int) : TokL := ⟨0, ⟨#[]⟩, 0, last == ((lineAt s q : Nat) : Int), posA s q⟩
def lexGo (s : ByteArray) : Nat → Nat → Int → List TokL → LexR
  | 0, _, _, _ => ⟨[], 0, (0, 0, 0)⟩
  | f + 1, p, last, acc =>
    if p + spanAt blankB s p < s.size then
      if (tokOf ((bs s).drop (p + spanAt blankB s p))).err = 0 then
        lexGo s f (p + spanAt blankB s p + (tokOf ((bs s).drop (p + spanAt blankB s p))).len) ((lineAt s (p + spanAt blankB s p + (tokOf ((bs s).drop (p + spanAt blankB s p))).len) : Nat) : Int) (acc ++ [tokAt s (p + spanAt blankB s p) last (tokOf ((bs s).drop (p + spanAt blankB s p)))])
      else ⟨[], (tokOf ((bs s).drop (p + spanAt blankB s p))).err, posA s (p + spanAt blankB s p)⟩
    else ⟨acc ++ [endAt s (p + spanAt blankB s p) last], 0, (0, 0, 0)⟩
def lexAll (s : ByteArray) : LexR := if 65536 < s.size then ⟨[], 3, (0, 0, 0)⟩ else lexGo s (s.size + 1) 0 (-1) []

theorem find_prefix {l g : Bs} (h : signOf pasSigns l = some g) : g.isPrefixOf l = true ∧ 0 < g.length := by
  unfold signOf at h
  have h1 := List.find?_some h
  have h2 := List.mem_of_find?_eq_some h
  refine ⟨h1, ?_⟩
  have : ∀ g ∈ pasSigns, 0 < g.length := by decide
  exact this g h2
theorem tokQuoted_len (l : Bs) (h : (tokQuoted l).err = 0) : 0 < (tokQuoted l).len ∧ (tokQuoted l).len ≤ l.length := by
  unfold tokQuoted at *
  by_cases h1 : ([39, 39, 39, 39] : Bs).isPrefixOf l = true
  · rw [if_pos h1]; exact ⟨by decide, by have := prefix_len h1; simpa using this⟩
  · rw [if_neg h1] at *
    match l, h with
    | _ :: c :: d :: r, h =>
      simp only at h ⊢
      by_cases h2 : plainB c = true ∧ d = 39
      · rw [if_pos h2]; exact ⟨by simp, by simp⟩
      · rw [if_neg h2] at h; cases h
    | [], h => cases h
    | [_], h => cases h
    | [_, _], h => cases h
theorem tokNumbered_len (l : Bs) (hl : 0 < l.length) (h : (tokNumbered l).err = 0) : 0 < (tokNumbered l).len ∧ (tokNumbered l).len ≤ l.length := by
  unfold tokNumbered at *
  by_cases h1 : spanLen digB (l.drop 1) = 0 ∨ 3 < spanLen digB (l.drop 1)
  · rw [if_pos h1] at h; cases h
  · rw [if_neg h1] at *
    have h2 := spanLen_le digB (l.drop 1)
    rw [List.length_drop] at h2
    split at h
    · rename_i n hn
      by_cases h3 : 255 < n
      · rw [if_pos h3] at h; cases h
      · show 0 < (if 255 < n then fail 7 else (⟨0, 4, [], n, 1 + spanLen digB (l.drop 1)⟩ : Fd)).len ∧ (if 255 < n then fail 7 else (⟨0, 4, [], n, 1 + spanLen digB (l.drop 1)⟩ : Fd)).len ≤ l.length
        rw [if_neg h3]
        exact ⟨by show 0 < 1 + _; omega, by show 1 + _ ≤ _; omega⟩
    · cases h
theorem span_pos (f : UInt8 → Bool) (c : UInt8) (l : Bs) (h : f c = true) : 0 < spanLen f (c :: l) := by
  unfold spanLen; rw [List.takeWhile_cons_of_pos h]; simp
theorem letter_name {c : UInt8} (h : letterB c = true) : nameB c = true := by
  unfold letterB at h; unfold nameB
  cases h1 : smallB c with
  | true => simp
  | false => rw [h1] at h; simp at h; simp [h]
theorem tokPlain_len (l : Bs) (hl : 0 < l.length) (h : (tokPlain l).err = 0) : 0 < (tokPlain l).len ∧ (tokPlain l).len ≤ l.length := by
  match l, hl with
  | c :: r, hl =>
    unfold tokPlain at *
    simp only at h ⊢
    by_cases h1 : letterB c = true
    · rw [if_pos h1] at h ⊢
      unfold tokName at *
      by_cases h2 : spanLen nameB (c :: r) ≤ 32
      · rw [if_pos h2]
        exact ⟨span_pos nameB c r (letter_name h1), spanLen_le _ _⟩
      · rw [if_neg h2] at h; cases h
    rw [if_neg h1] at h ⊢
    by_cases h2 : digB c = true
    · rw [if_pos h2] at h ⊢
      unfold tokInt at *
      split at h
      · rename_i n hn
        exact ⟨span_pos digB c r h2, spanLen_le _ _⟩
      · cases h
    rw [if_neg h2] at h ⊢
    by_cases h3 : c = 39
    · rw [if_pos h3] at h ⊢; exact tokQuoted_len _ h
    rw [if_neg h3] at h ⊢
    by_cases h4 : c = 35
    · rw [if_pos h4] at h ⊢; exact tokNumbered_len _ hl h
    rw [if_neg h4] at h ⊢
    unfold tokSign at *
    split at h
    · rename_i g hg
      have := find_prefix hg
      exact ⟨this.2, prefix_len this.1⟩
    · cases h
theorem tokOf_len (l : Bs) (hl : 0 < l.length) (h : (tokOf l).err = 0) : 0 < (tokOf l).len ∧ (tokOf l).len ≤ l.length := by
  unfold tokOf at *
  by_cases h1 : noteBegins l = true
  · rw [if_pos h1] at h ⊢
    by_cases h2 : (noteRead l).2.2 = 0
    · rw [if_pos h2]
      exact noteRead_used l (noteRead l).1 (noteRead l).2.1 (by rw [← h2])
    · rw [if_neg h2] at h; exact absurd h h2
  · rw [if_neg h1] at h ⊢
    exact tokPlain_len l hl h
end Go.Proofs.YtgmmjhelcpgakaaGreatDoor
/- Package lexpas: cutLeft at the ten digits. -/
namespace Go.Proofs.YtgmmjhelcpgakaaGreatDoor
open Go.RowKit
set_option linter.unusedVariables false
set_option linter.unusedSimpArgs false

def inB (r : Int) (j : Nat) : Bool := decide (48 ≤ r ∧ r < 48 + (j : Int))
theorem inB_zero (r : Int) : inB r 0 = false := by unfold inB; rw [decide_eq_false_iff_not]; omega
theorem inB_succ (r : Int) (j : Nat) : inB r (j + 1) = (inB r j || (r == 48 + (j : Int))) := by
  unfold inB; rw [Bool.eq_iff_iff]; simp; omega
theorem ten_at (j : Nat) (h : j < tenSet.size) : (tenSet[j]'h).toNat = 48 + j := by
  have hs : tenSet.size = 10 := rfl
  have h1 : (bs tenSet)[j]? = some tenSet[j] := bs_get tenSet j h
  have h2 : ∀ k : Fin 10, ((bs tenSet)[k.val]?).map (·.toNat) = some (48 + k.val) := by decide
  have h3 := h2 ⟨j, by rw [← hs]; exact h⟩
  rw [h1] at h3
  simpa using h3
theorem digB_rune (c : UInt8) : digB c = inB (c.toNat : Int) 10 := by
  unfold digB inB; rw [Bool.eq_iff_iff]; simp; omega
/-- The rune at a place is a digit just where its byte is. -/
theorem rune_dig (s : ByteArray) (p : Nat) (h : p < s.size) : inB ((Utf8.decode s p).1 : Int) 10 = digB s[p] := by
  by_cases ha : (s[p]'h).toNat < 128
  · rw [decode_ascii s p h ha, digB_rune]
  · have h1 := (decode_high s p h (by omega)).1
    have e1 : digB s[p] = false := by unfold digB; simp; omega
    rw [e1]; unfold inB; simp; omega
theorem rune_one (s : ByteArray) (p : Nat) (h : p < s.size) (hd : digB s[p] = true) : (Utf8.decode s p).2 = 1 := by
  have : (s[p]'h).toNat < 128 := by unfold digB at hd; simp at hd; omega
  rw [decode_ascii s p h this]
theorem keep_iter {P : Nat → Prop} {w w' : World} (h : Keep P w w') {k : Nat} (hk : w.heap.size ≤ k) (s : ByteArray) (p : Nat) : Keep P w (w'.iterAt k s p) :=
  ⟨h.os, h.tape, h.output, by rw [Lib.iterAt_size]; exact h.size, fun i hi hn => (Lib.iterAt_other w' k i s p (by omega)).trans (h.block i hi hn)⟩

set_option maxRecDepth 100000 in
set_option maxHeartbeats 2000000 in
theorem cutLeft_any (s : ByteArray) (w : World) (hs : s.size ≤ 140737488351232) :
    Calls Tryz.prog 121 #[.string s, .string tenSet] w fun e w' => e = .returned (.string (s.extract (spanAt digB s 0) s.size)) ∧ Keep (fun _ => False) w w' := by
  obtain ⟨n, hn⟩ : ∃ n, n = spanAt digB s 0 := ⟨_, rfl⟩
  have hle := spanAt_le digB s 0 (Nat.zero_le _)
  rw [← hn] at hle ⊢
  have HN := Lib.hid hn
  clear hn
  obtain ⟨T, hT⟩ : ∃ T, T = tenSet := ⟨_, rfl⟩
  rw [← hT]
  have HT := Lib.hid hT
  clear hT
  go_enter Tryz.func121, Tryz.ntmps121
  go_wp2_with fail
  have hTs : T.size = 10 := by rw [HT.out]; rfl
  have HTA : Hid (∀ j (h : j < T.size), (T[j]'h).toNat = 48 + j) := by
    intro j h
    have e := HT.out
    subst e
    exact ten_at j h
  have HTS := Lib.hid hTs
  clear hTs
  go_loopw [7] (fun _ wr => ∃ k : Nat, k ≤ n ∧ wr.heap[w.heap.size]? = some (.stringIter s k) ∧ Keep (fun _ => False) w wr) (fun _ wr => s.size - wr.iterPos w.heap.size)
  case atStart => exact ⟨0, Nat.zero_le _, World.iter_heap _ _ _, (Keep.refl _ w).alloc _⟩
  case round =>
    obtain ⟨wo, rfl⟩ : ∃ wo : World, wo = wr := ⟨_, rfl⟩
    obtain ⟨k, hk, hit, hkr⟩ := hrel
    have HIT := Lib.hid hit
    clear hit
    by_cases hks : k < s.size
    · obtain ⟨r, hr⟩ : ∃ r : Int, r = ((Utf8.decode s k).1 : Int) := ⟨_, rfl⟩
      obtain ⟨wd, hwd⟩ : ∃ wd, wd = (Utf8.decode s k).2 := ⟨_, rfl⟩
      have hnx : ∀ ty, (Instr.next (.pointer (some ⟨w.heap.size, 0, none⟩)) true ty).run Tryz.prog wo = .ok (.tuple #[.bool true, .int .i64 k, .int .i32 r]) (wo.iterAt w.heap.size s (k + wd)) := by
        intro ty; rw [hr, hwd]; exact Lib.run_next_any_at wo w.heap.size s k ty HIT.out hks
      have hdg : inB r 10 = digB s[k] := by rw [hr]; exact rune_dig s k hks
      have hon : digB s[k] = true → wd = 1 := fun h => by rw [hwd]; exact rune_one s k hks h
      have hin : k < n → digB s[k] = true := fun h => by
        have := spanAt_in digB s 0 k (by rw [← HN.out]; exact h) (by omega)
        simpa using this
      have hout : k = n → digB s[k] = false := fun h => by
        have h1 := spanAt_stop digB s 0 (by rw [← HN.out]; omega)
        subst h
        simpa [← HN.out] using h1
      have HDG := Lib.hid hdg; have HON := Lib.hid hon; have HIN := Lib.hid hin; have HOUT := Lib.hid hout
      clear hdg hon hin hout hr hwd
      have hsz := hkr.size
      have hit1 : (wo.iterAt w.heap.size s (k + wd)).heap[w.heap.size]? = some (.stringIter s (k + wd)) := Lib.iterAt_heap wo w.heap.size s k (k + wd) HIT.out
      have hB0 : w.heap.size < wo.heap.size := lt_of_block HIT.out
      have hk1 : Keep (fun _ => False) w (wo.iterAt w.heap.size s (k + wd)) := keep_iter hkr (Nat.le_refl _) _ _
      have hs1 : (wo.iterAt w.heap.size s (k + wd)).heap.size = wo.heap.size := Lib.iterAt_size _ _ _ _
      obtain ⟨w1, hw1⟩ : ∃ w1, w1 = wo.iterAt w.heap.size s (k + wd) := ⟨_, rfl⟩
      rw [← hw1] at hnx hit1 hk1 hs1
      have HI1 := Lib.hid hit1; have HK1 := Lib.hid hk1; have HS1 := Lib.hid hs1
      clear hit1 hk1 hs1 hw1
      go_wp2_with fail
      go_loopw [7] (fun b wr => ∃ j : Nat, j ≤ 10 ∧ b = .bool (inB r j) ∧ wr.heap[w1.heap.size]? = some (.stringIter T j) ∧ Keep (fun _ => False) w1 wr) (fun _ wr => 10 - wr.iterPos w1.heap.size)
      case atStart => exact ⟨0, Nat.zero_le _, by rw [inB_zero], World.iter_heap _ _ _, (Keep.refl _ w1).alloc _⟩
      case round =>
        obtain ⟨j, hj, rfl, hit2, hki⟩ := hrel
        have HIT2 := Lib.hid hit2
        clear hit2
        by_cases hjl : j < 10
        · have hjT : j < T.size := by have := HTS.out; omega
          have hTj := HTA.out j hjT
          have hnx2 : ∀ ty, (Instr.next (.pointer (some ⟨w1.heap.size, 0, none⟩)) true ty).run Tryz.prog wr = .ok (.tuple #[.bool true, .int .i64 j, .int .i32 (48 + (j : Int))]) (wr.iterAt w1.heap.size T (j + 1)) := by
            intro ty
            have h1 := Lib.run_next_ascii_at (P := Tryz.prog) wr w1.heap.size T j ty HIT2.out hjT (by omega)
            rw [hTj] at h1
            exact h1
          have hit3 : (wr.iterAt w1.heap.size T (j + 1)).heap[w1.heap.size]? = some (.stringIter T (j + 1)) := Lib.iterAt_heap wr w1.heap.size T j (j + 1) HIT2.out
          have hk3 : Keep (fun _ => False) w1 (wr.iterAt w1.heap.size T (j + 1)) := keep_iter hki (Nat.le_refl _) _ _
          have hp0 : wr.iterPos w1.heap.size = j := by unfold World.iterPos; rw [HIT2.out]
          have hp1 : (wr.iterAt w1.heap.size T (j + 1)).iterPos w1.heap.size = j + 1 := by unfold World.iterPos; rw [hit3]
          obtain ⟨w3, hw3⟩ : ∃ w3, w3 = wr.iterAt w1.heap.size T (j + 1) := ⟨_, rfl⟩
          rw [← hw3] at hnx2 hit3 hk3 hp1
          have HI3 := Lib.hid hit3; have HK3 := Lib.hid hk3; have HP0 := Lib.hid hp0; have HP1 := Lib.hid hp1
          have HSU := Lib.hid (inB_succ r j)
          clear hit3 hk3 hp0 hp1 hw3 hTj
          obtain ⟨b, hb⟩ : ∃ b, b = inB r j := ⟨_, rfl⟩
          rw [← hb]
          have HB := Lib.hid hb
          clear hb
          cases b
          · by_cases he : r = 48 + (j : Int)
            · have ht : (r == 48 + (j : Int)) = true := by rw [beq_iff_eq]; exact he
              have HE := Lib.hid ht
              have HEE := Lib.hid he
              clear he
              go_wp2_with fail
              go_roundw
              case rel => exact ⟨j + 1, by omega, by rw [HSU.out, ← HB.out, HE.out]; rfl, HI3.out, HK3.out⟩
              case measure => rw [HP0.out, HP1.out]; omega
            · have ht : (r == 48 + (j : Int)) = false := by rw [beq_eq_false_iff_ne]; exact he
              have HE := Lib.hid ht
              clear he
              go_wp2_with fail
              go_roundw
              case rel => exact ⟨j + 1, by omega, by rw [HSU.out, ← HB.out, HE.out]; rfl, HI3.out, HK3.out⟩
              case measure => rw [HP0.out, HP1.out]; omega
          · go_wp2_with fail
            go_roundw
            case rel => exact ⟨j + 1, by omega, by rw [HSU.out, ← HB.out]; rfl, HI3.out, HK3.out⟩
            case measure => rw [HP0.out, HP1.out]; omega
        · obtain rfl : j = 10 := by omega
          have hnx2 : ∀ ty, (Instr.next (.pointer (some ⟨w1.heap.size, 0, none⟩)) true ty).run Tryz.prog wr = .ok (.tuple #[.bool false]) wr := fun ty => Lib.run_next_end_at wr w1.heap.size T 10 ty HIT2.out (by have := HTS.out; omega)
          have hiz : wr.heap[w.heap.size]? = some (.stringIter s (k + wd)) := (hki.block w.heap.size (by have := HS1.out; omega) (fun h => h)).trans HI1.out
          have HIZ := Lib.hid hiz
          have HKZ := Lib.hid (HK1.out.trans hki)
          clear hiz
          obtain ⟨b, hb⟩ : ∃ b, b = inB r 10 := ⟨_, rfl⟩
          rw [← hb]
          have HB := Lib.hid hb
          clear hb
          have hpz0 : wo.iterPos w.heap.size = k := by unfold World.iterPos; rw [HIT.out]
          have hpz1 : wr.iterPos w.heap.size = k + wd := by unfold World.iterPos; rw [HIZ.out]
          have HPZ0 := Lib.hid hpz0; have HPZ1 := Lib.hid hpz1
          clear hpz0 hpz1
          cases b
          · have hkn : k = n := by
              rcases Nat.lt_or_ge k n with h | h
              · have h1 := HIN.out h
                rw [← HDG.out, ← HB.out] at h1
                exact absurd h1 (by decide)
              · omega
            have HKN := Lib.hid hkn
            clear hkn
            have hi0 : (0 : Int) ≤ (k : Int) := by omega
            have hi1 : (k : Int) ≤ (s.size : Int) := by omega
            go_wp2_with fail
            go_ret
            exact ⟨by rw [← HKN.out]; rfl, HKZ.out⟩
          · have hkn : k < n := by
              rcases Nat.lt_or_ge k n with h | h
              · exact h
              · have h1 := HOUT.out (by omega)
                rw [← HDG.out, ← HB.out] at h1
                exact absurd h1 (by decide)
            have hw1 : wd = 1 := HON.out (HIN.out hkn)
            have HW1 := Lib.hid hw1
            clear hw1
            go_wp2_with fail
            go_roundw
            case rel => exact ⟨k + 1, by omega, by have := HIZ.out; rw [HW1.out] at this; exact this, HKZ.out⟩
            case measure => rw [HPZ0.out, HPZ1.out, HW1.out]; omega
    · have hkn : k = s.size := by omega
      have hnx : ∀ ty, (Instr.next (.pointer (some ⟨w.heap.size, 0, none⟩)) true ty).run Tryz.prog wo = .ok (.tuple #[.bool false]) wo := fun ty => Lib.run_next_end_at wo w.heap.size s k ty HIT.out hks
      have hns : n = s.size := by omega
      have HNS := Lib.hid hns
      clear hkn hns
      go_wp2_with fail
      go_ret
      refine ⟨?_, hkr⟩
      rw [HNS.out]
      have he : s.extract s.size s.size = ⟨#[]⟩ := byteArray_ext (by rw [bs_tail, bs_drop_end s s.size (Nat.le_refl _)]; rfl)
      rw [he]
      rfl
end Go.Proofs.YtgmmjhelcpgakaaGreatDoor
