/- Small blocks, written and read cell by cell. -/
import Derived.Test.YtcdmkmbbliaefaaGreatDoorBase
namespace Go.Proofs.YtcdmkmbbliaefaaGreatDoor
open Go.RowKit
set_option linter.unusedVariables false
set_option linter.unusedSimpArgs false

theorem Blk.drew {w : World} {b t : Nat} {cs : Array Value} (h : Blk w b cs t) : Blk w.drew b cs t := h
theorem Blk.set2 {w : World} {b t : Nat} {a0 a1 : Value} (h : Blk w b #[a0, a1] t) (v0 v1 : Value) :
    Blk ((w.setCell ⟨b, 0, none⟩ v0).setCell ⟨b, 1, none⟩ v1) b #[v0, v1] t := by
  have := ((h.set 0 v0).set 1 v1)
  simpa using this
theorem Keep.set2 {w w1 : World} {b : Nat} (h : Keep (fun _ => False) w w1) (hb : w.heap.size ≤ b) (v0 v1 : Value) :
    Keep (fun _ => False) w ((w1.setCell ⟨b, 0, none⟩ v0).setCell ⟨b, 1, none⟩ v1) := by
  have hp : ∀ i : Nat, (⟨b, i, none⟩ : Addr).block < w.heap.size → False := fun i hi => absurd hi (Nat.not_lt.2 hb)
  exact ((h.setCell (hp 0) v0).setCell (hp 1) v1)
theorem Keep.put2 {w w1 : World} {b : Nat} {P : Nat → Prop} (h : Keep P w w1) (hb : w.heap.size ≤ b ∨ P b) (v0 v1 : Value) :
    Keep P w ((w1.setCell ⟨b, 0, none⟩ v0).setCell ⟨b, 1, none⟩ v1) := by
  have hp : ∀ i : Nat, (⟨b, i, none⟩ : Addr).block < w.heap.size → P b := fun i hi => hb.elim (fun h => absurd hi (Nat.not_lt.2 h)) id
  exact ((h.setCell (hp 0) v0).setCell (hp 1) v1)
theorem Blk.all2 {w : World} {b t : Nat} {a0 a1 : Value} (h : Blk w b #[a0, a1] t) : w.cell? ⟨b, 0, none⟩ = some a0 ∧ w.cell? ⟨b, 1, none⟩ = some a1 ∧ w.frozen? ⟨b, 0, none⟩ = false ∧ w.frozen? ⟨b, 1, none⟩ = false :=
  ⟨h.at_ 0 rfl, h.at_ 1 rfl, h.free 0, h.free 1⟩
theorem Blk.put2 {w : World} {b t c : Nat} {cs : Array Value} (h : Blk w c cs t) (hb : c ≠ b) (v0 v1 : Value) :
    Blk ((w.setCell ⟨b, 0, none⟩ v0).setCell ⟨b, 1, none⟩ v1) c cs t := by
  exact (Blk.far (Blk.far h (p := ⟨b, 0, none⟩) hb v0) (p := ⟨b, 1, none⟩) hb v1)
theorem Blk.set3 {w : World} {b t : Nat} {a0 a1 a2 : Value} (h : Blk w b #[a0, a1, a2] t) (v0 v1 v2 : Value) :
    Blk (((w.setCell ⟨b, 0, none⟩ v0).setCell ⟨b, 1, none⟩ v1).setCell ⟨b, 2, none⟩ v2) b #[v0, v1, v2] t := by
  have := (((h.set 0 v0).set 1 v1).set 2 v2)
  simpa using this
theorem Keep.set3 {w w1 : World} {b : Nat} (h : Keep (fun _ => False) w w1) (hb : w.heap.size ≤ b) (v0 v1 v2 : Value) :
    Keep (fun _ => False) w (((w1.setCell ⟨b, 0, none⟩ v0).setCell ⟨b, 1, none⟩ v1).setCell ⟨b, 2, none⟩ v2) := by
  have hp : ∀ i : Nat, (⟨b, i, none⟩ : Addr).block < w.heap.size → False := fun i hi => absurd hi (Nat.not_lt.2 hb)
  exact (((h.setCell (hp 0) v0).setCell (hp 1) v1).setCell (hp 2) v2)
theorem Keep.put3 {w w1 : World} {b : Nat} {P : Nat → Prop} (h : Keep P w w1) (hb : w.heap.size ≤ b ∨ P b) (v0 v1 v2 : Value) :
    Keep P w (((w1.setCell ⟨b, 0, none⟩ v0).setCell ⟨b, 1, none⟩ v1).setCell ⟨b, 2, none⟩ v2) := by
  have hp : ∀ i : Nat, (⟨b, i, none⟩ : Addr).block < w.heap.size → P b := fun i hi => hb.elim (fun h => absurd hi (Nat.not_lt.2 h)) id
  exact (((h.setCell (hp 0) v0).setCell (hp 1) v1).setCell (hp 2) v2)
theorem Blk.all3 {w : World} {b t : Nat} {a0 a1 a2 : Value} (h : Blk w b #[a0, a1, a2] t) : w.cell? ⟨b, 0, none⟩ = some a0 ∧ w.cell? ⟨b, 1, none⟩ = some a1 ∧ w.cell? ⟨b, 2, none⟩ = some a2 ∧ w.frozen? ⟨b, 0, none⟩ = false ∧ w.frozen? ⟨b, 1, none⟩ = false ∧ w.frozen? ⟨b, 2, none⟩ = false :=
  ⟨h.at_ 0 rfl, h.at_ 1 rfl, h.at_ 2 rfl, h.free 0, h.free 1, h.free 2⟩
theorem Blk.put3 {w : World} {b t c : Nat} {cs : Array Value} (h : Blk w c cs t) (hb : c ≠ b) (v0 v1 v2 : Value) :
    Blk (((w.setCell ⟨b, 0, none⟩ v0).setCell ⟨b, 1, none⟩ v1).setCell ⟨b, 2, none⟩ v2) c cs t := by
  exact (Blk.far (Blk.far (Blk.far h (p := ⟨b, 0, none⟩) hb v0) (p := ⟨b, 1, none⟩) hb v1) (p := ⟨b, 2, none⟩) hb v2)
theorem Blk.set4 {w : World} {b t : Nat} {a0 a1 a2 a3 : Value} (h : Blk w b #[a0, a1, a2, a3] t) (v0 v1 v2 v3 : Value) :
    Blk ((((w.setCell ⟨b, 0, none⟩ v0).setCell ⟨b, 1, none⟩ v1).setCell ⟨b, 2, none⟩ v2).setCell ⟨b, 3, none⟩ v3) b #[v0, v1, v2, v3] t := by
  have := ((((h.set 0 v0).set 1 v1).set 2 v2).set 3 v3)
  simpa using this
theorem Keep.set4 {w w1 : World} {b : Nat} (h : Keep (fun _ => False) w w1) (hb : w.heap.size ≤ b) (v0 v1 v2 v3 : Value) :
    Keep (fun _ => False) w ((((w1.setCell ⟨b, 0, none⟩ v0).setCell ⟨b, 1, none⟩ v1).setCell ⟨b, 2, none⟩ v2).setCell ⟨b, 3, none⟩ v3) := by
  have hp : ∀ i : Nat, (⟨b, i, none⟩ : Addr).block < w.heap.size → False := fun i hi => absurd hi (Nat.not_lt.2 hb)
  exact ((((h.setCell (hp 0) v0).setCell (hp 1) v1).setCell (hp 2) v2).setCell (hp 3) v3)
theorem Keep.put4 {w w1 : World} {b : Nat} {P : Nat → Prop} (h : Keep P w w1) (hb : w.heap.size ≤ b ∨ P b) (v0 v1 v2 v3 : Value) :
    Keep P w ((((w1.setCell ⟨b, 0, none⟩ v0).setCell ⟨b, 1, none⟩ v1).setCell ⟨b, 2, none⟩ v2).setCell ⟨b, 3, none⟩ v3) := by
  have hp : ∀ i : Nat, (⟨b, i, none⟩ : Addr).block < w.heap.size → P b := fun i hi => hb.elim (fun h => absurd hi (Nat.not_lt.2 h)) id
  exact ((((h.setCell (hp 0) v0).setCell (hp 1) v1).setCell (hp 2) v2).setCell (hp 3) v3)
theorem Blk.all4 {w : World} {b t : Nat} {a0 a1 a2 a3 : Value} (h : Blk w b #[a0, a1, a2, a3] t) : w.cell? ⟨b, 0, none⟩ = some a0 ∧ w.cell? ⟨b, 1, none⟩ = some a1 ∧ w.cell? ⟨b, 2, none⟩ = some a2 ∧ w.cell? ⟨b, 3, none⟩ = some a3 ∧ w.frozen? ⟨b, 0, none⟩ = false ∧ w.frozen? ⟨b, 1, none⟩ = false ∧ w.frozen? ⟨b, 2, none⟩ = false ∧ w.frozen? ⟨b, 3, none⟩ = false :=
  ⟨h.at_ 0 rfl, h.at_ 1 rfl, h.at_ 2 rfl, h.at_ 3 rfl, h.free 0, h.free 1, h.free 2, h.free 3⟩
theorem Blk.put4 {w : World} {b t c : Nat} {cs : Array Value} (h : Blk w c cs t) (hb : c ≠ b) (v0 v1 v2 v3 : Value) :
    Blk ((((w.setCell ⟨b, 0, none⟩ v0).setCell ⟨b, 1, none⟩ v1).setCell ⟨b, 2, none⟩ v2).setCell ⟨b, 3, none⟩ v3) c cs t := by
  exact (Blk.far (Blk.far (Blk.far (Blk.far h (p := ⟨b, 0, none⟩) hb v0) (p := ⟨b, 1, none⟩) hb v1) (p := ⟨b, 2, none⟩) hb v2) (p := ⟨b, 3, none⟩) hb v3)
theorem Blk.set5 {w : World} {b t : Nat} {a0 a1 a2 a3 a4 : Value} (h : Blk w b #[a0, a1, a2, a3, a4] t) (v0 v1 v2 v3 v4 : Value) :
    Blk (((((w.setCell ⟨b, 0, none⟩ v0).setCell ⟨b, 1, none⟩ v1).setCell ⟨b, 2, none⟩ v2).setCell ⟨b, 3, none⟩ v3).setCell ⟨b, 4, none⟩ v4) b #[v0, v1, v2, v3, v4] t := by
  have := (((((h.set 0 v0).set 1 v1).set 2 v2).set 3 v3).set 4 v4)
  simpa using this
theorem Keep.set5 {w w1 : World} {b : Nat} (h : Keep (fun _ => False) w w1) (hb : w.heap.size ≤ b) (v0 v1 v2 v3 v4 : Value) :
    Keep (fun _ => False) w (((((w1.setCell ⟨b, 0, none⟩ v0).setCell ⟨b, 1, none⟩ v1).setCell ⟨b, 2, none⟩ v2).setCell ⟨b, 3, none⟩ v3).setCell ⟨b, 4, none⟩ v4) := by
  have hp : ∀ i : Nat, (⟨b, i, none⟩ : Addr).block < w.heap.size → False := fun i hi => absurd hi (Nat.not_lt.2 hb)
  exact (((((h.setCell (hp 0) v0).setCell (hp 1) v1).setCell (hp 2) v2).setCell (hp 3) v3).setCell (hp 4) v4)
theorem Keep.put5 {w w1 : World} {b : Nat} {P : Nat → Prop} (h : Keep P w w1) (hb : w.heap.size ≤ b ∨ P b) (v0 v1 v2 v3 v4 : Value) :
    Keep P w (((((w1.setCell ⟨b, 0, none⟩ v0).setCell ⟨b, 1, none⟩ v1).setCell ⟨b, 2, none⟩ v2).setCell ⟨b, 3, none⟩ v3).setCell ⟨b, 4, none⟩ v4) := by
  have hp : ∀ i : Nat, (⟨b, i, none⟩ : Addr).block < w.heap.size → P b := fun i hi => hb.elim (fun h => absurd hi (Nat.not_lt.2 h)) id
  exact (((((h.setCell (hp 0) v0).setCell (hp 1) v1).setCell (hp 2) v2).setCell (hp 3) v3).setCell (hp 4) v4)
theorem Blk.all5 {w : World} {b t : Nat} {a0 a1 a2 a3 a4 : Value} (h : Blk w b #[a0, a1, a2, a3, a4] t) : w.cell? ⟨b, 0, none⟩ = some a0 ∧ w.cell? ⟨b, 1, none⟩ = some a1 ∧ w.cell? ⟨b, 2, none⟩ = some a2 ∧ w.cell? ⟨b, 3, none⟩ = some a3 ∧ w.cell? ⟨b, 4, none⟩ = some a4 ∧ w.frozen? ⟨b, 0, none⟩ = false ∧ w.frozen? ⟨b, 1, none⟩ = false ∧ w.frozen? ⟨b, 2, none⟩ = false ∧ w.frozen? ⟨b, 3, none⟩ = false ∧ w.frozen? ⟨b, 4, none⟩ = false :=
  ⟨h.at_ 0 rfl, h.at_ 1 rfl, h.at_ 2 rfl, h.at_ 3 rfl, h.at_ 4 rfl, h.free 0, h.free 1, h.free 2, h.free 3, h.free 4⟩
theorem Blk.put5 {w : World} {b t c : Nat} {cs : Array Value} (h : Blk w c cs t) (hb : c ≠ b) (v0 v1 v2 v3 v4 : Value) :
    Blk (((((w.setCell ⟨b, 0, none⟩ v0).setCell ⟨b, 1, none⟩ v1).setCell ⟨b, 2, none⟩ v2).setCell ⟨b, 3, none⟩ v3).setCell ⟨b, 4, none⟩ v4) c cs t := by
  exact (Blk.far (Blk.far (Blk.far (Blk.far (Blk.far h (p := ⟨b, 0, none⟩) hb v0) (p := ⟨b, 1, none⟩) hb v1) (p := ⟨b, 2, none⟩) hb v2) (p := ⟨b, 3, none⟩) hb v3) (p := ⟨b, 4, none⟩) hb v4)
theorem Blk.set6 {w : World} {b t : Nat} {a0 a1 a2 a3 a4 a5 : Value} (h : Blk w b #[a0, a1, a2, a3, a4, a5] t) (v0 v1 v2 v3 v4 v5 : Value) :
    Blk ((((((w.setCell ⟨b, 0, none⟩ v0).setCell ⟨b, 1, none⟩ v1).setCell ⟨b, 2, none⟩ v2).setCell ⟨b, 3, none⟩ v3).setCell ⟨b, 4, none⟩ v4).setCell ⟨b, 5, none⟩ v5) b #[v0, v1, v2, v3, v4, v5] t := by
  have := ((((((h.set 0 v0).set 1 v1).set 2 v2).set 3 v3).set 4 v4).set 5 v5)
  simpa using this
theorem Keep.set6 {w w1 : World} {b : Nat} (h : Keep (fun _ => False) w w1) (hb : w.heap.size ≤ b) (v0 v1 v2 v3 v4 v5 : Value) :
    Keep (fun _ => False) w ((((((w1.setCell ⟨b, 0, none⟩ v0).setCell ⟨b, 1, none⟩ v1).setCell ⟨b, 2, none⟩ v2).setCell ⟨b, 3, none⟩ v3).setCell ⟨b, 4, none⟩ v4).setCell ⟨b, 5, none⟩ v5) := by
  have hp : ∀ i : Nat, (⟨b, i, none⟩ : Addr).block < w.heap.size → False := fun i hi => absurd hi (Nat.not_lt.2 hb)
  exact ((((((h.setCell (hp 0) v0).setCell (hp 1) v1).setCell (hp 2) v2).setCell (hp 3) v3).setCell (hp 4) v4).setCell (hp 5) v5)
theorem Keep.put6 {w w1 : World} {b : Nat} {P : Nat → Prop} (h : Keep P w w1) (hb : w.heap.size ≤ b ∨ P b) (v0 v1 v2 v3 v4 v5 : Value) :
    Keep P w ((((((w1.setCell ⟨b, 0, none⟩ v0).setCell ⟨b, 1, none⟩ v1).setCell ⟨b, 2, none⟩ v2).setCell ⟨b, 3, none⟩ v3).setCell ⟨b, 4, none⟩ v4).setCell ⟨b, 5, none⟩ v5) := by
  have hp : ∀ i : Nat, (⟨b, i, none⟩ : Addr).block < w.heap.size → P b := fun i hi => hb.elim (fun h => absurd hi (Nat.not_lt.2 h)) id
  exact ((((((h.setCell (hp 0) v0).setCell (hp 1) v1).setCell (hp 2) v2).setCell (hp 3) v3).setCell (hp 4) v4).setCell (hp 5) v5)
theorem Blk.all6 {w : World} {b t : Nat} {a0 a1 a2 a3 a4 a5 : Value} (h : Blk w b #[a0, a1, a2, a3, a4, a5] t) : w.cell? ⟨b, 0, none⟩ = some a0 ∧ w.cell? ⟨b, 1, none⟩ = some a1 ∧ w.cell? ⟨b, 2, none⟩ = some a2 ∧ w.cell? ⟨b, 3, none⟩ = some a3 ∧ w.cell? ⟨b, 4, none⟩ = some a4 ∧ w.cell? ⟨b, 5, none⟩ = some a5 ∧ w.frozen? ⟨b, 0, none⟩ = false ∧ w.frozen? ⟨b, 1, none⟩ = false ∧ w.frozen? ⟨b, 2, none⟩ = false ∧ w.frozen? ⟨b, 3, none⟩ = false ∧ w.frozen? ⟨b, 4, none⟩ = false ∧ w.frozen? ⟨b, 5, none⟩ = false :=
  ⟨h.at_ 0 rfl, h.at_ 1 rfl, h.at_ 2 rfl, h.at_ 3 rfl, h.at_ 4 rfl, h.at_ 5 rfl, h.free 0, h.free 1, h.free 2, h.free 3, h.free 4, h.free 5⟩
theorem Blk.put6 {w : World} {b t c : Nat} {cs : Array Value} (h : Blk w c cs t) (hb : c ≠ b) (v0 v1 v2 v3 v4 v5 : Value) :
    Blk ((((((w.setCell ⟨b, 0, none⟩ v0).setCell ⟨b, 1, none⟩ v1).setCell ⟨b, 2, none⟩ v2).setCell ⟨b, 3, none⟩ v3).setCell ⟨b, 4, none⟩ v4).setCell ⟨b, 5, none⟩ v5) c cs t := by
  exact (Blk.far (Blk.far (Blk.far (Blk.far (Blk.far (Blk.far h (p := ⟨b, 0, none⟩) hb v0) (p := ⟨b, 1, none⟩) hb v1) (p := ⟨b, 2, none⟩) hb v2) (p := ⟨b, 3, none⟩) hb v3) (p := ⟨b, 4, none⟩) hb v4) (p := ⟨b, 5, none⟩) hb v5)
theorem Blk.set7 {w : World} {b t : Nat} {a0 a1 a2 a3 a4 a5 a6 : Value} (h : Blk w b #[a0, a1, a2, a3, a4, a5, a6] t) (v0 v1 v2 v3 v4 v5 v6 : Value) :
    Blk (((((((w.setCell ⟨b, 0, none⟩ v0).setCell ⟨b, 1, none⟩ v1).setCell ⟨b, 2, none⟩ v2).setCell ⟨b, 3, none⟩ v3).setCell ⟨b, 4, none⟩ v4).setCell ⟨b, 5, none⟩ v5).setCell ⟨b, 6, none⟩ v6) b #[v0, v1, v2, v3, v4, v5, v6] t := by
  have := (((((((h.set 0 v0).set 1 v1).set 2 v2).set 3 v3).set 4 v4).set 5 v5).set 6 v6)
  simpa using this
theorem Keep.set7 {w w1 : World} {b : Nat} (h : Keep (fun _ => False) w w1) (hb : w.heap.size ≤ b) (v0 v1 v2 v3 v4 v5 v6 : Value) :
    Keep (fun _ => False) w (((((((w1.setCell ⟨b, 0, none⟩ v0).setCell ⟨b, 1, none⟩ v1).setCell ⟨b, 2, none⟩ v2).setCell ⟨b, 3, none⟩ v3).setCell ⟨b, 4, none⟩ v4).setCell ⟨b, 5, none⟩ v5).setCell ⟨b, 6, none⟩ v6) := by
  have hp : ∀ i : Nat, (⟨b, i, none⟩ : Addr).block < w.heap.size → False := fun i hi => absurd hi (Nat.not_lt.2 hb)
  exact (((((((h.setCell (hp 0) v0).setCell (hp 1) v1).setCell (hp 2) v2).setCell (hp 3) v3).setCell (hp 4) v4).setCell (hp 5) v5).setCell (hp 6) v6)
theorem Keep.put7 {w w1 : World} {b : Nat} {P : Nat → Prop} (h : Keep P w w1) (hb : w.heap.size ≤ b ∨ P b) (v0 v1 v2 v3 v4 v5 v6 : Value) :
    Keep P w (((((((w1.setCell ⟨b, 0, none⟩ v0).setCell ⟨b, 1, none⟩ v1).setCell ⟨b, 2, none⟩ v2).setCell ⟨b, 3, none⟩ v3).setCell ⟨b, 4, none⟩ v4).setCell ⟨b, 5, none⟩ v5).setCell ⟨b, 6, none⟩ v6) := by
  have hp : ∀ i : Nat, (⟨b, i, none⟩ : Addr).block < w.heap.size → P b := fun i hi => hb.elim (fun h => absurd hi (Nat.not_lt.2 h)) id
  exact (((((((h.setCell (hp 0) v0).setCell (hp 1) v1).setCell (hp 2) v2).setCell (hp 3) v3).setCell (hp 4) v4).setCell (hp 5) v5).setCell (hp 6) v6)
theorem Blk.all7 {w : World} {b t : Nat} {a0 a1 a2 a3 a4 a5 a6 : Value} (h : Blk w b #[a0, a1, a2, a3, a4, a5, a6] t) : w.cell? ⟨b, 0, none⟩ = some a0 ∧ w.cell? ⟨b, 1, none⟩ = some a1 ∧ w.cell? ⟨b, 2, none⟩ = some a2 ∧ w.cell? ⟨b, 3, none⟩ = some a3 ∧ w.cell? ⟨b, 4, none⟩ = some a4 ∧ w.cell? ⟨b, 5, none⟩ = some a5 ∧ w.cell? ⟨b, 6, none⟩ = some a6 ∧ w.frozen? ⟨b, 0, none⟩ = false ∧ w.frozen? ⟨b, 1, none⟩ = false ∧ w.frozen? ⟨b, 2, none⟩ = false ∧ w.frozen? ⟨b, 3, none⟩ = false ∧ w.frozen? ⟨b, 4, none⟩ = false ∧ w.frozen? ⟨b, 5, none⟩ = false ∧ w.frozen? ⟨b, 6, none⟩ = false :=
  ⟨h.at_ 0 rfl, h.at_ 1 rfl, h.at_ 2 rfl, h.at_ 3 rfl, h.at_ 4 rfl, h.at_ 5 rfl, h.at_ 6 rfl, h.free 0, h.free 1, h.free 2, h.free 3, h.free 4, h.free 5, h.free 6⟩
theorem Blk.put7 {w : World} {b t c : Nat} {cs : Array Value} (h : Blk w c cs t) (hb : c ≠ b) (v0 v1 v2 v3 v4 v5 v6 : Value) :
    Blk (((((((w.setCell ⟨b, 0, none⟩ v0).setCell ⟨b, 1, none⟩ v1).setCell ⟨b, 2, none⟩ v2).setCell ⟨b, 3, none⟩ v3).setCell ⟨b, 4, none⟩ v4).setCell ⟨b, 5, none⟩ v5).setCell ⟨b, 6, none⟩ v6) c cs t := by
  exact (Blk.far (Blk.far (Blk.far (Blk.far (Blk.far (Blk.far (Blk.far h (p := ⟨b, 0, none⟩) hb v0) (p := ⟨b, 1, none⟩) hb v1) (p := ⟨b, 2, none⟩) hb v2) (p := ⟨b, 3, none⟩) hb v3) (p := ⟨b, 4, none⟩) hb v4) (p := ⟨b, 5, none⟩) hb v5) (p := ⟨b, 6, none⟩) hb v6)
theorem Blk.set8 {w : World} {b t : Nat} {a0 a1 a2 a3 a4 a5 a6 a7 : Value} (h : Blk w b #[a0, a1, a2, a3, a4, a5, a6, a7] t) (v0 v1 v2 v3 v4 v5 v6 v7 : Value) :
    Blk ((((((((w.setCell ⟨b, 0, none⟩ v0).setCell ⟨b, 1, none⟩ v1).setCell ⟨b, 2, none⟩ v2).setCell ⟨b, 3, none⟩ v3).setCell ⟨b, 4, none⟩ v4).setCell ⟨b, 5, none⟩ v5).setCell ⟨b, 6, none⟩ v6).setCell ⟨b, 7, none⟩ v7) b #[v0, v1, v2, v3, v4, v5, v6, v7] t := by
  have := ((((((((h.set 0 v0).set 1 v1).set 2 v2).set 3 v3).set 4 v4).set 5 v5).set 6 v6).set 7 v7)
  simpa using this
theorem Keep.set8 {w w1 : World} {b : Nat} (h : Keep (fun _ => False) w w1) (hb : w.heap.size ≤ b) (v0 v1 v2 v3 v4 v5 v6 v7 : Value) :
    Keep (fun _ => False) w ((((((((w1.setCell ⟨b, 0, none⟩ v0).setCell ⟨b, 1, none⟩ v1).setCell ⟨b, 2, none⟩ v2).setCell ⟨b, 3, none⟩ v3).setCell ⟨b, 4, none⟩ v4).setCell ⟨b, 5, none⟩ v5).setCell ⟨b, 6, none⟩ v6).setCell ⟨b, 7, none⟩ v7) := by
  have hp : ∀ i : Nat, (⟨b, i, none⟩ : Addr).block < w.heap.size → False := fun i hi => absurd hi (Nat.not_lt.2 hb)
  exact ((((((((h.setCell (hp 0) v0).setCell (hp 1) v1).setCell (hp 2) v2).setCell (hp 3) v3).setCell (hp 4) v4).setCell (hp 5) v5).setCell (hp 6) v6).setCell (hp 7) v7)
theorem Keep.put8 {w w1 : World} {b : Nat} {P : Nat → Prop} (h : Keep P w w1) (hb : w.heap.size ≤ b ∨ P b) (v0 v1 v2 v3 v4 v5 v6 v7 : Value) :
    Keep P w ((((((((w1.setCell ⟨b, 0, none⟩ v0).setCell ⟨b, 1, none⟩ v1).setCell ⟨b, 2, none⟩ v2).setCell ⟨b, 3, none⟩ v3).setCell ⟨b, 4, none⟩ v4).setCell ⟨b, 5, none⟩ v5).setCell ⟨b, 6, none⟩ v6).setCell ⟨b, 7, none⟩ v7) := by
  have hp : ∀ i : Nat, (⟨b, i, none⟩ : Addr).block < w.heap.size → P b := fun i hi => hb.elim (fun h => absurd hi (Nat.not_lt.2 h)) id
  exact ((((((((h.setCell (hp 0) v0).setCell (hp 1) v1).setCell (hp 2) v2).setCell (hp 3) v3).setCell (hp 4) v4).setCell (hp 5) v5).setCell (hp 6) v6).setCell (hp 7) v7)
theorem Blk.all8 {w : World} {b t : Nat} {a0 a1 a2 a3 a4 a5 a6 a7 : Value} (h : Blk w b #[a0, a1, a2, a3, a4, a5, a6, a7] t) : w.cell? ⟨b, 0, none⟩ = some a0 ∧ w.cell? ⟨b, 1, none⟩ = some a1 ∧ w.cell? ⟨b, 2, none⟩ = some a2 ∧ w.cell? ⟨b, 3, none⟩ = some a3 ∧ w.cell? ⟨b, 4, none⟩ = some a4 ∧ w.cell? ⟨b, 5, none⟩ = some a5 ∧ w.cell? ⟨b, 6, none⟩ = some a6 ∧ w.cell? ⟨b, 7, none⟩ = some a7 ∧ w.frozen? ⟨b, 0, none⟩ = false ∧ w.frozen? ⟨b, 1, none⟩ = false ∧ w.frozen? ⟨b, 2, none⟩ = false ∧ w.frozen? ⟨b, 3, none⟩ = false ∧ w.frozen? ⟨b, 4, none⟩ = false ∧ w.frozen? ⟨b, 5, none⟩ = false ∧ w.frozen? ⟨b, 6, none⟩ = false ∧ w.frozen? ⟨b, 7, none⟩ = false :=
  ⟨h.at_ 0 rfl, h.at_ 1 rfl, h.at_ 2 rfl, h.at_ 3 rfl, h.at_ 4 rfl, h.at_ 5 rfl, h.at_ 6 rfl, h.at_ 7 rfl, h.free 0, h.free 1, h.free 2, h.free 3, h.free 4, h.free 5, h.free 6, h.free 7⟩
theorem Blk.put8 {w : World} {b t c : Nat} {cs : Array Value} (h : Blk w c cs t) (hb : c ≠ b) (v0 v1 v2 v3 v4 v5 v6 v7 : Value) :
    Blk ((((((((w.setCell ⟨b, 0, none⟩ v0).setCell ⟨b, 1, none⟩ v1).setCell ⟨b, 2, none⟩ v2).setCell ⟨b, 3, none⟩ v3).setCell ⟨b, 4, none⟩ v4).setCell ⟨b, 5, none⟩ v5).setCell ⟨b, 6, none⟩ v6).setCell ⟨b, 7, none⟩ v7) c cs t := by
  exact (Blk.far (Blk.far (Blk.far (Blk.far (Blk.far (Blk.far (Blk.far (Blk.far h (p := ⟨b, 0, none⟩) hb v0) (p := ⟨b, 1, none⟩) hb v1) (p := ⟨b, 2, none⟩) hb v2) (p := ⟨b, 3, none⟩) hb v3) (p := ⟨b, 4, none⟩) hb v4) (p := ⟨b, 5, none⟩) hb v5) (p := ⟨b, 6, none⟩) hb v6) (p := ⟨b, 7, none⟩) hb v7)
theorem Blk.set9 {w : World} {b t : Nat} {a0 a1 a2 a3 a4 a5 a6 a7 a8 : Value} (h : Blk w b #[a0, a1, a2, a3, a4, a5, a6, a7, a8] t) (v0 v1 v2 v3 v4 v5 v6 v7 v8 : Value) :
    Blk (((((((((w.setCell ⟨b, 0, none⟩ v0).setCell ⟨b, 1, none⟩ v1).setCell ⟨b, 2, none⟩ v2).setCell ⟨b, 3, none⟩ v3).setCell ⟨b, 4, none⟩ v4).setCell ⟨b, 5, none⟩ v5).setCell ⟨b, 6, none⟩ v6).setCell ⟨b, 7, none⟩ v7).setCell ⟨b, 8, none⟩ v8) b #[v0, v1, v2, v3, v4, v5, v6, v7, v8] t := by
  have := (((((((((h.set 0 v0).set 1 v1).set 2 v2).set 3 v3).set 4 v4).set 5 v5).set 6 v6).set 7 v7).set 8 v8)
  simpa using this
theorem Keep.set9 {w w1 : World} {b : Nat} (h : Keep (fun _ => False) w w1) (hb : w.heap.size ≤ b) (v0 v1 v2 v3 v4 v5 v6 v7 v8 : Value) :
    Keep (fun _ => False) w (((((((((w1.setCell ⟨b, 0, none⟩ v0).setCell ⟨b, 1, none⟩ v1).setCell ⟨b, 2, none⟩ v2).setCell ⟨b, 3, none⟩ v3).setCell ⟨b, 4, none⟩ v4).setCell ⟨b, 5, none⟩ v5).setCell ⟨b, 6, none⟩ v6).setCell ⟨b, 7, none⟩ v7).setCell ⟨b, 8, none⟩ v8) := by
  have hp : ∀ i : Nat, (⟨b, i, none⟩ : Addr).block < w.heap.size → False := fun i hi => absurd hi (Nat.not_lt.2 hb)
  exact (((((((((h.setCell (hp 0) v0).setCell (hp 1) v1).setCell (hp 2) v2).setCell (hp 3) v3).setCell (hp 4) v4).setCell (hp 5) v5).setCell (hp 6) v6).setCell (hp 7) v7).setCell (hp 8) v8)
theorem Keep.put9 {w w1 : World} {b : Nat} {P : Nat → Prop} (h : Keep P w w1) (hb : w.heap.size ≤ b ∨ P b) (v0 v1 v2 v3 v4 v5 v6 v7 v8 : Value) :
    Keep P w (((((((((w1.setCell ⟨b, 0, none⟩ v0).setCell ⟨b, 1, none⟩ v1).setCell ⟨b, 2, none⟩ v2).setCell ⟨b, 3, none⟩ v3).setCell ⟨b, 4, none⟩ v4).setCell ⟨b, 5, none⟩ v5).setCell ⟨b, 6, none⟩ v6).setCell ⟨b, 7, none⟩ v7).setCell ⟨b, 8, none⟩ v8) := by
  have hp : ∀ i : Nat, (⟨b, i, none⟩ : Addr).block < w.heap.size → P b := fun i hi => hb.elim (fun h => absurd hi (Nat.not_lt.2 h)) id
  exact (((((((((h.setCell (hp 0) v0).setCell (hp 1) v1).setCell (hp 2) v2).setCell (hp 3) v3).setCell (hp 4) v4).setCell (hp 5) v5).setCell (hp 6) v6).setCell (hp 7) v7).setCell (hp 8) v8)
theorem Blk.all9 {w : World} {b t : Nat} {a0 a1 a2 a3 a4 a5 a6 a7 a8 : Value} (h : Blk w b #[a0, a1, a2, a3, a4, a5, a6, a7, a8] t) : w.cell? ⟨b, 0, none⟩ = some a0 ∧ w.cell? ⟨b, 1, none⟩ = some a1 ∧ w.cell? ⟨b, 2, none⟩ = some a2 ∧ w.cell? ⟨b, 3, none⟩ = some a3 ∧ w.cell? ⟨b, 4, none⟩ = some a4 ∧ w.cell? ⟨b, 5, none⟩ = some a5 ∧ w.cell? ⟨b, 6, none⟩ = some a6 ∧ w.cell? ⟨b, 7, none⟩ = some a7 ∧ w.cell? ⟨b, 8, none⟩ = some a8 ∧ w.frozen? ⟨b, 0, none⟩ = false ∧ w.frozen? ⟨b, 1, none⟩ = false ∧ w.frozen? ⟨b, 2, none⟩ = false ∧ w.frozen? ⟨b, 3, none⟩ = false ∧ w.frozen? ⟨b, 4, none⟩ = false ∧ w.frozen? ⟨b, 5, none⟩ = false ∧ w.frozen? ⟨b, 6, none⟩ = false ∧ w.frozen? ⟨b, 7, none⟩ = false ∧ w.frozen? ⟨b, 8, none⟩ = false :=
  ⟨h.at_ 0 rfl, h.at_ 1 rfl, h.at_ 2 rfl, h.at_ 3 rfl, h.at_ 4 rfl, h.at_ 5 rfl, h.at_ 6 rfl, h.at_ 7 rfl, h.at_ 8 rfl, h.free 0, h.free 1, h.free 2, h.free 3, h.free 4, h.free 5, h.free 6, h.free 7, h.free 8⟩
theorem Blk.put9 {w : World} {b t c : Nat} {cs : Array Value} (h : Blk w c cs t) (hb : c ≠ b) (v0 v1 v2 v3 v4 v5 v6 v7 v8 : Value) :
    Blk (((((((((w.setCell ⟨b, 0, none⟩ v0).setCell ⟨b, 1, none⟩ v1).setCell ⟨b, 2, none⟩ v2).setCell ⟨b, 3, none⟩ v3).setCell ⟨b, 4, none⟩ v4).setCell ⟨b, 5, none⟩ v5).setCell ⟨b, 6, none⟩ v6).setCell ⟨b, 7, none⟩ v7).setCell ⟨b, 8, none⟩ v8) c cs t := by
  exact (Blk.far (Blk.far (Blk.far (Blk.far (Blk.far (Blk.far (Blk.far (Blk.far (Blk.far h (p := ⟨b, 0, none⟩) hb v0) (p := ⟨b, 1, none⟩) hb v1) (p := ⟨b, 2, none⟩) hb v2) (p := ⟨b, 3, none⟩) hb v3) (p := ⟨b, 4, none⟩) hb v4) (p := ⟨b, 5, none⟩) hb v5) (p := ⟨b, 6, none⟩) hb v6) (p := ⟨b, 7, none⟩) hb v7) (p := ⟨b, 8, none⟩) hb v8)
end Go.Proofs.YtcdmkmbbliaefaaGreatDoor
