/- A right leaf comes back out of its block. -/
import Derived.Test.YtablmgnhpciljaaDoorLfm
namespace Go.Proofs.YtablmgnhpciljaaDoor
open Go.RowKit

theorem decode_bytes (l : ALeaf) (hl : l.ok) (hR : l.Right) : decode l.bytes = l := by
  obtain ⟨⟨kf0, kf1⟩, ⟨kp0, kp1⟩, ⟨kn0, kn1⟩, ⟨kk0, kk1⟩, ⟨ks0, ks1⟩, -⟩ := hR
  obtain ⟨nf, hnf⟩ := Int.eq_ofNat_of_zero_le kf0
  obtain ⟨np, hnp⟩ := Int.eq_ofNat_of_zero_le kp0
  obtain ⟨nn, hnn⟩ := Int.eq_ofNat_of_zero_le kn0
  obtain ⟨nk, hnk⟩ := Int.eq_ofNat_of_zero_le (show 0 ≤ l.kind by omega)
  obtain ⟨ns, hns⟩ := Int.eq_ofNat_of_zero_le ks0
  obtain ⟨kind, file, place, next, size, load⟩ := l
  have hload : load.length = 116 := hl.load
  simp only at hnf hnp hnn hnk hns kf1 kp1 kn1 kk1 ks1
  subst hnf hnp hnn hnk hns
  obtain ⟨C, hC⟩ : ∃ C, lowB (crc (ALeaf.body { kind := (nk : Int), file := nf, place := np, next := nn, size := ns, load := load })).toNat 4 = C := ⟨_, rfl⟩
  have e : ALeaf.bytes { kind := (nk : Int), file := nf, place := np, next := nn, size := ns, load := load } = load ++ ([UInt8.ofNat nf, UInt8.ofNat (nf / 256), UInt8.ofNat np, UInt8.ofNat (np / 256), UInt8.ofNat nn, UInt8.ofNat (nn / 256), UInt8.ofNat ns, UInt8.ofNat nk] ++ C) := by
    unfold ALeaf.bytes
    rw [hC]
    unfold ALeaf.body
    simp [lowB, List.range_succ, List.append_assoc]
  rw [e]
  have hat : ∀ j (x : Nat), ([UInt8.ofNat nf, UInt8.ofNat (nf / 256), UInt8.ofNat np, UInt8.ofNat (np / 256), UInt8.ofNat nn, UInt8.ofNat (nn / 256), UInt8.ofNat ns, UInt8.ofNat nk] ++ C)[j]? = some (UInt8.ofNat x) → at8 (load ++ ([UInt8.ofNat nf, UInt8.ofNat (nf / 256), UInt8.ofNat np, UInt8.ofNat (np / 256), UInt8.ofNat nn, UInt8.ofNat (nn / 256), UInt8.ofNat ns, UInt8.ofNat nk] ++ C)) (116 + j) = x % 256 := by
    intro j x hx
    unfold at8
    rw [List.getElem?_append_right (by omega), hload, Nat.add_sub_cancel_left, hx]
    simp
  have a0 := hat 0 nf rfl
  have a1 := hat 1 (nf / 256) rfl
  have a2 := hat 2 np rfl
  have a3 := hat 3 (np / 256) rfl
  have a4 := hat 4 nn rfl
  have a5 := hat 5 (nn / 256) rfl
  have a6 := hat 6 ns rfl
  have a7 := hat 7 nk rfl
  simp only [Nat.reduceAdd] at a0 a1 a2 a3 a4 a5 a6 a7
  unfold decode two8
  simp only [Nat.reduceAdd, a0, a1, a2, a3, a4, a5, a6, a7]
  simp only [ALeaf.mk.injEq]
  refine ⟨by omega, by omega, by omega, by omega, by omega, ?_⟩
  rw [← hload, List.take_left]
theorem getL_put (l : ALeaf) (hl : l.ok) (hR : l.Right) : getL l.put = some l := by
  have hp : l.put = l.bytes := if_pos hR
  unfold getL
  rw [hp, if_pos ⟨bytes_length hl, by rw [decode_bytes l hl hR, hp]⟩, decode_bytes l hl hR]
theorem put_length (l : ALeaf) (hl : l.ok) : l.put.length = if l.Right then 128 else 0 := by
  unfold ALeaf.put
  split
  · exact bytes_length hl
  · rfl
end Go.Proofs.YtablmgnhpciljaaDoor
