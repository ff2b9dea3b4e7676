/- Arguments that came in, opened. -/
import Derived.Test.YtablmgnhpciljaaDoorByt
import Derived.ProofKit
import Derived.Deep.Slices
import Derived.Deep.Fields
import Derived.Below
import Derived.ChangeOld
import Derived.OpenShut
import Derived.Carry
namespace Go.Proofs.YtablmgnhpciljaaDoor
open Go.ChangeShapes Go.WideShapes Go.ChangeAt Go.RowKit Go.Deep

theorem wf_u8 {n : Int} (h : (Lit.int .u8 n).wf = true) : 0 ≤ n ∧ n < 256 := by
  have h2 : IntKind.u8.min ≤ n ∧ n ≤ IntKind.u8.max := by simpa [Lit.wf] using h
  have e1 : IntKind.u8.min = 0 := by decide
  have e2 : IntKind.u8.max = 255 := by decide
  omega
theorem wf_u32 {n : Int} (h : (Lit.int .u32 n).wf = true) : 0 ≤ n ∧ n < 4294967296 := by
  have h2 : IntKind.u32.min ≤ n ∧ n ≤ IntKind.u32.max := by simpa [Lit.wf] using h
  have e1 : IntKind.u32.min = 0 := by decide
  have e2 : IntKind.u32.max = 4294967295 := by decide
  omega
theorem wf_i64 {n : Int} (h : (Lit.int .i64 n).wf = true) : -9223372036854775808 ≤ n ∧ n ≤ 9223372036854775807 := by
  have h2 : IntKind.i64.min ≤ n ∧ n ≤ 9223372036854775807 := by simpa [Lit.wf] using h
  have e1 : IntKind.i64.min = -9223372036854775808 := by decide
  omega
section
variable {H : Type} {enc : TypeId × Value → H} {P : Program} {w : World} {base : Nat} {spare : Nat → Bool} {held : Bool}
theorem cell_lt {a : Addr} {v : Value} (h : w.cell? a = some v) : a.block < w.heap.size := by
  unfold World.cell? at h
  cases ho : w.heap[a.block]? with
  | none => rw [ho] at h; cases h
  | some o => exact lt_of_heap ho
theorem at_of_cell {a : Addr} {v : Value} (h : w.cell? a = some v) : a = ⟨a.block, a.off, none⟩ := by
  obtain ⟨b, o, s⟩ := a
  have := World.cell?_spot h
  dsimp only at this
  subst this
  rfl
theorem add_at (b off n : Nat) : Addr.add ⟨b, off, none⟩ n = ⟨b, off + n, none⟩ := by
  unfold Addr.add
  split
  · subst_vars; rfl
  · rfl
/-- A slice of bytes that came in reads as a list. -/
theorem open_bytes {t e : TypeId} {fuel : Nat} {cs : List Value} {x : DataW H × List MemPlace} (ht : P.underlying t = some (.slice e)) (he : P.underlying e = some (.int .u8)) (hc : P.cellsOf e = 1)
    (h : DataW.trod enc P w base spare held fuel t cs = some x) : ∃ (v : Value) (l : List UInt8), cs = [v] ∧ Rd w (fun b => b < w.heap.size) 1 v l.length (l.map byt) := by
  rcases open_ints ht he hc h with ⟨rfl, _⟩ | ⟨a, len, cap, zs, rfl, _, hl, _, hz, _, hcell, hwf⟩
  · exact ⟨_, [], rfl, rfl, none, 0, rfl, Nat.le_refl _, fun h => absurd h (by simp)⟩
  · have hzl : len ≤ zs.length := by rw [hz]; split <;> omega
    have hll : ((zs.take len).map fun z => UInt8.ofNat z.toNat).length = len := by simp; omega
    refine ⟨_, (zs.take len).map fun z => UInt8.ofNat z.toNat, rfl, by simp, some a, cap, by rw [hll], by rw [hll]; exact hl, fun hp => ?_⟩
    rw [hll] at hp
    have h0 := hcell 0 (by omega)
    have ha : a = ⟨a.block, a.off, none⟩ := at_of_cell (by simpa [Addr.add] using h0)
    have hlt : a.block < w.heap.size := cell_lt (a := a) (by simpa [Addr.add] using h0)
    refine ⟨a.block, a.off, congrArg some ha, hlt, hlt, fun j u hu => ?_⟩
    have hj : j < len := by
      have := (List.getElem?_eq_some_iff.1 hu).1
      simpa [hzl] using this
    have hj' : j < zs.length := by omega
    have h1 := hcell j hj'
    rw [ha, add_at] at h1
    have hw := hwf zs[j] (List.getElem_mem hj')
    have hb := wf_u8 hw
    rw [h1]
    simp only [List.getElem?_map, List.getElem?_take, if_pos hj, List.getElem?_eq_getElem hj', Option.map_some, Option.some.injEq] at hu
    rw [← hu, List.getD_eq_getElem?_getD, List.getElem?_eq_getElem hj']
    simp only [byt, Option.getD_some]
    congr 2
    rw [UInt8.toNat_ofNat']
    omega
end
/-- The list's length is the slice's. -/
theorem open_bytes_len {H : Type} {enc : TypeId × Value → H} {P : Program} {w : World} {base : Nat} {spare : Nat → Bool} {held : Bool} {t e : TypeId} {fuel : Nat} {v : Value} {x : DataW H × List MemPlace} (ht : P.underlying t = some (.slice e)) (he : P.underlying e = some (.int .u8)) (hc : P.cellsOf e = 1)
    (h : DataW.trod enc P w base spare held fuel t [v] = some x) : ∃ l : List UInt8, Rd w (fun b => b < w.heap.size) 1 v l.length (l.map byt) := by
  obtain ⟨v', l, hv, hr⟩ := open_bytes ht he hc h
  simp only [List.cons.injEq, and_true] at hv
  subst hv
  exact ⟨l, hr⟩
end Go.Proofs.YtablmgnhpciljaaDoor
