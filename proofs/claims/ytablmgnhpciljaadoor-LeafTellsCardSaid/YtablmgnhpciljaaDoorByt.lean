/- Lists of bytes in memory. -/
import Derived.Test.YtablmgnhpciljaaDoorApp
namespace Go.Proofs.YtablmgnhpciljaaDoor
open Go.RowKit

def byt (x : UInt8) : Value := .int .u8 (x.toNat : Int)
theorem Rd.byteAt {w : World} {F : Nat → Prop} {v : Value} {l : List UInt8} {n : Nat} (h : Rd w F 1 v n (l.map byt)) {k : Nat} (hk : k < l.length) : ∃ b off c, v = .slice (some ⟨b, off, none⟩) l.length c ∧ l.length ≤ c ∧ F b ∧ b < w.heap.size ∧ w.cell? ⟨b, off + k, none⟩ = some (.int .u8 (l[k].toNat : Int)) := by
  obtain ⟨h1, A, c, hv, hc, h2⟩ := h
  have hn : l.length = n := by simpa using h1
  subst hn
  obtain ⟨b, off, hA, hF, hb, hx⟩ := h2 (by omega)
  refine ⟨b, off, c, by rw [hv, hA], hc, hF, hb, hx k _ (by simp [byt, hk])⟩
theorem Rd.byteAt' {w : World} {F : Nat → Prop} {v : Value} {l : List UInt8} (h : Rd w F 1 v l.length (l.map byt)) : ∃ A c, v = .slice A l.length c ∧ l.length ≤ c := by
  obtain ⟨_, A, c, hv, hc, _⟩ := h
  exact ⟨A, c, hv, hc⟩
section
variable {w : World} {F : Nat → Prop}
theorem Own.some_ {e sz n : Nat} {v : Value} {xs : List Value} (h : Own w F e sz v n xs) (hn : 0 < n) : ∃ g cap, v = .slice (some ⟨g, 0, none⟩) n cap ∧ n ≤ cap := by
  rcases h.1.2 with ⟨_, rfl⟩ | ⟨g', cap, cur, rfl, _, _, h2, _⟩
  · omega
  · exact ⟨_, _, rfl, h2⟩
theorem Own.cell {e n : Nat} {g cap m : Nat} {xs : List Value} (h : Own w F e 1 (.slice (some ⟨g, 0, none⟩) m cap) n xs) {i : Nat} : i < n → w.cell? ⟨g, i, none⟩ = xs[i]? := by
  intro hi
  rcases h.1.2 with ⟨h0, _⟩ | ⟨g', cap, cur, he, _, hh, hnc, _, _, ht⟩
  · cases h0
  · injection he with he hm hc
    injection he with he
    injection he with he
    subst he
    rw [Blk.cell (t := e) (cs := cur) hh i, ← ht, List.getElem?_take, if_pos (by omega), Array.getElem?_toList]
theorem Own.cells {e sz n : Nat} {g cap m : Nat} {xs : List Value} (h : Own w F e sz (.slice (some ⟨g, 0, none⟩) m cap) n xs) {i : Nat} : i < n * sz → w.cell? ⟨g, i, none⟩ = xs[i]? := by
  intro hi
  rcases h.1.2 with ⟨h0, _⟩ | ⟨g', cap, cur, he, _, hh, hnc, _, _, ht⟩
  · cases h0
  · injection he with he hm hc
    injection he with he
    injection he with he
    subst he
    rw [Blk.cell (t := e) (cs := cur) hh i, ← ht, List.getElem?_take, if_pos hi, Array.getElem?_toList]
theorem Own.frozen {e n : Nat} {g cap m sz : Nat} {xs : List Value} (h : Own w F e sz (.slice (some ⟨g, 0, none⟩) m cap) n xs) (i : Nat) : w.frozen? ⟨g, i, none⟩ = false := by
  rcases h.1.2 with ⟨h0, _⟩ | ⟨g', cap, cur, he, _, hh, hnc, _, _, ht⟩
  · cases h0
  · injection he with he hm hc
    injection he with he
    injection he with he
    subst he
    exact Blk.frozen (t := e) (cs := cur) hh i
end
end Go.Proofs.YtablmgnhpciljaaDoor
