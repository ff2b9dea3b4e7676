/- The plain law of a leaf's block: read by putting again, and read by its sum, are one. -/
import Derived.Test.YtablmgnhpciljaaDoorLfi
namespace Go.Proofs.YtablmgnhpciljaaDoor
open Go.RowKit

def ALeaf.zero : ALeaf := { kind := 0, file := 0, place := 0, next := 0, size := 0, load := List.replicate 116 0 }
theorem ALeaf.zero_ok : ALeaf.zero.ok := ⟨by simp [ALeaf.zero], by simp [ALeaf.zero, i64], by simp [ALeaf.zero, i64], by simp [ALeaf.zero, i64], by simp [ALeaf.zero, i64], by simp [ALeaf.zero, i64]⟩
/-- A byte of a block. -/
def at8 (b : List UInt8) (i : Nat) : Nat := (b[i]?.getD 0).toNat
theorem at8_lt (b : List UInt8) (i : Nat) : at8 b i < 256 := UInt8.toNat_lt _
theorem at8_eq (b : List UInt8) (i : Nat) (h : i < b.length) : at8 b i = b[i].toNat := by simp [at8, h]
def two8 (b : List UInt8) (i : Nat) : Nat := at8 b i + 256 * at8 b (i + 1)
def decode (b : List UInt8) : ALeaf := { kind := at8 b 123, file := two8 b 116, place := two8 b 118, next := two8 b 120, size := at8 b 122, load := b.take 116 }
theorem two8_lt (b : List UInt8) (i : Nat) : two8 b i < 65536 := by
  have := at8_lt b i
  have := at8_lt b (i + 1)
  unfold two8
  omega
theorem decode_ok {b : List UInt8} (h : b.length = 128) : (decode b).ok := by
  have h1 := two8_lt b 116
  have h2 := two8_lt b 118
  have h3 := two8_lt b 120
  have h4 := at8_lt b 122
  have h5 := at8_lt b 123
  refine ⟨by simp [decode, h], ?_, ?_, ?_, ?_, ?_⟩ <;> simp only [decode, i64] <;> omega
theorem ofNat_at8 (b : List UInt8) (i : Nat) (h : i < b.length) : UInt8.ofNat (at8 b i) = b[i] := by
  rw [at8_eq b i h]
  simp
theorem lowB_two (b : List UInt8) (i : Nat) (h : i + 1 < b.length) : lowB (two8 b i) 2 = [b[i], b[i + 1]] := by
  have h1 := at8_lt b i
  have h2 := at8_lt b (i + 1)
  have e0 : UInt8.ofNat (two8 b i) = b[i] := by
    rw [← ofNat_at8 b i (by omega)]
    apply UInt8.toNat_inj.1
    rw [UInt8.toNat_ofNat', UInt8.toNat_ofNat']
    unfold two8
    omega
  have e1 : UInt8.ofNat (two8 b i / 256) = b[i + 1] := by
    rw [← ofNat_at8 b (i + 1) (by omega)]
    apply UInt8.toNat_inj.1
    rw [UInt8.toNat_ofNat', UInt8.toNat_ofNat']
    unfold two8
    omega
  simp [lowB, List.range_succ, e0, e1]
theorem decode_body {b : List UInt8} (h : b.length = 128) : (decode b).body = b.take 124 := by
  unfold ALeaf.body decode
  simp only [Int.toNat_natCast]
  rw [lowB_two b 116 (by omega), lowB_two b 118 (by omega), lowB_two b 120 (by omega), ofNat_at8 b 122 (by omega), ofNat_at8 b 123 (by omega)]
  apply List.ext_getElem
  · simp [h]
  · intro j hj1 hj2
    have hj : j < 124 := by simp [h] at hj2; omega
    by_cases h116 : j < 116
    · simp [List.getElem_append, h, h116, show j < 118 by omega, show j < 120 by omega, show j < 122 by omega]
    · have : j = 116 ∨ j = 117 ∨ j = 118 ∨ j = 119 ∨ j = 120 ∨ j = 121 ∨ j = 122 ∨ j = 123 := by omega
      rcases this with rfl | rfl | rfl | rfl | rfl | rfl | rfl | rfl <;> simp [List.getElem_append, h]
theorem numB4 (b : List UInt8) (h : b.length = 4) (c : UInt32) : numB b = c.toNat ↔ lowB c.toNat 4 = b := by
  match b, h with
  | [x0, x1, x2, x3], _ =>
    have hc := c.toNat_lt
    have h0 := x0.toNat_lt
    have h1 := x1.toNat_lt
    have h2 := x2.toNat_lt
    have h3 := x3.toNat_lt
    have hl : lowB c.toNat 4 = [UInt8.ofNat c.toNat, UInt8.ofNat (c.toNat / 256), UInt8.ofNat (c.toNat / 65536), UInt8.ofNat (c.toNat / 16777216)] := by simp [lowB, List.range_succ]
    have hu : ∀ (n : Nat) (x : UInt8), UInt8.ofNat n = x ↔ n % 256 = x.toNat := fun n x => by
      rw [← UInt8.toNat_inj, UInt8.toNat_ofNat']
    rw [hl]
    simp only [numB, List.cons.injEq, and_true, hu]
    omega
/-- The plain law. -/
theorem put_decode {b : List UInt8} (h : b.length = 128) : (decode b).put = b ↔ (decode b).Right ∧ numB (b.drop 124) = (crc (b.take 124)).toNat := by
  unfold ALeaf.put
  by_cases hR : (decode b).Right
  · rw [if_pos hR, numB4 _ (by simp [h])]
    unfold ALeaf.bytes
    rw [decode_body h]
    constructor
    · intro e
      refine ⟨hR, ?_⟩
      have e2 : b.take 124 ++ lowB (crc (b.take 124)).toNat 4 = b.take 124 ++ b.drop 124 := by rw [e, List.take_append_drop]
      exact List.append_cancel_left e2
    · rintro ⟨_, e⟩
      rw [e, List.take_append_drop]
  · rw [if_neg hR]
    constructor
    · intro e
      rw [← e] at h
      simp at h
    · rintro ⟨h1, _⟩
      exact absurd h1 hR
/-- The leaf of a block. -/
def getL (b : List UInt8) : Option ALeaf := if b.length = 128 ∧ (decode b).put = b then some (decode b) else none
def leafOf (o : Option ALeaf) : ALeaf := o.getD ALeaf.zero
end Go.Proofs.YtablmgnhpciljaaDoor
