/- A leaf as data and in memory; leaf.Right and the reference's RightLeaf. -/
import Derived.Test.YtablmgnhpciljaaDoorLfe
namespace Go.Proofs.YtablmgnhpciljaaDoor
open Go.RowKit

/-- A leaf. -/
structure ALeaf where
  kind : Int
  file : Int
  place : Int
  next : Int
  size : Int
  load : List UInt8
deriving DecidableEq
def ALeaf.cells (l : ALeaf) : Array Value := (.int .i64 l.kind :: .int .i64 l.file :: .int .i64 l.place :: .int .i64 l.next :: .int .i64 l.size :: l.load.map byt).toArray
def i64 (n : Int) : Prop := -9223372036854775808 ≤ n ∧ n ≤ 9223372036854775807
structure ALeaf.ok (l : ALeaf) : Prop where
  load : l.load.length = 116
  kind : i64 l.kind
  file : i64 l.file
  place : i64 l.place
  next : i64 l.next
  size : i64 l.size
def ALeaf.Right (l : ALeaf) : Prop := (0 ≤ l.file ∧ l.file ≤ 65535) ∧ (0 ≤ l.place ∧ l.place ≤ 65535) ∧ (0 ≤ l.next ∧ l.next ≤ 65535) ∧ (1 ≤ l.kind ∧ l.kind ≤ 2) ∧ (0 ≤ l.size ∧ l.size ≤ 116) ∧ ∀ u ∈ l.load.drop l.size.toNat, u = 0
instance (l : ALeaf) : Decidable l.Right := by unfold ALeaf.Right; exact inferInstance
theorem ALeaf.cells_size {l : ALeaf} (h : l.ok) : l.cells.size = 121 := by simp [ALeaf.cells, h.load]
theorem ALeaf.cells_byte (l : ALeaf) (j : Nat) (h : j < l.load.length) : l.cells[5 + j]? = some (byt l.load[j]) := by
  simp [ALeaf.cells, Nat.add_comm 5 j, h]

section
variable {w : World} {b : Nat} {l : ALeaf}
/-- The bytes of a leaf in memory, from a place on. -/
theorem leaf_rest (hb : Blk w b 24 l.cells) (hl : l.ok) (s : Nat) (hs : s ≤ 116) (o : Nat) (ho : s < 116 → o = 5 + s) : BRd w (fun g => g = b) (.slice (some ⟨b, o, none⟩) (116 - s) (116 - s)) (l.load.drop s) := by
  have hlen : (l.load.drop s).length = 116 - s := by rw [List.length_drop, hl.load]
  refine ⟨by simp, _, 116 - s, by rw [hlen], by rw [hlen]; exact Nat.le_refl _, fun hp => ?_⟩
  rw [hlen] at hp
  refine ⟨b, o, rfl, rfl, hb.lt, fun j u hu => ?_⟩
  rw [List.getElem?_map, List.getElem?_drop] at hu
  cases hx : l.load[s + j]? with
  | none => rw [hx] at hu; cases hu
  | some x =>
    rw [hx] at hu
    injection hu with hu
    obtain ⟨hj, hxx⟩ := List.getElem?_eq_some_iff.1 hx
    rw [ho (by omega), hb.cell, show 5 + s + j = 5 + (s + j) by omega, l.cells_byte (s + j) hj, hxx, hu]
end

set_option maxRecDepth 100000 in
set_option maxHeartbeats 1000000 in
theorem Right_calls (l : ALeaf) (hl : l.ok) (w : World) : Calls Tryd.prog 13 #[.agg l.cells] w fun e w' => e = .returned (.bool (decide l.Right)) ∧ Frm NoB w w' := by
  have hb0 := Blk.new w 24 l.cells
  have hF0 := (Frm.refl NoB w).alloc (.cells l.cells 24)
  go_enter Tryd.func13, Tryd.ntmps13
  go_upto_region 1 with (fail)
  obtain ⟨W, hW⟩ : ∃ W, w.alloc (.cells l.cells 24) = W := ⟨_, rfl⟩
  obtain ⟨b, hbe⟩ : ∃ b, w.heap.size = b := ⟨_, rfl⟩
  rw [hW] at hb0 hF0 ⊢
  rw [hbe] at hb0 ⊢
  clear hW hbe
  have y0 : W.cell? ⟨b, 0, none⟩ = some (.int .i64 l.kind) := hb0.cell 0
  have y1 : W.cell? ⟨b, 1, none⟩ = some (.int .i64 l.file) := hb0.cell 1
  have y2 : W.cell? ⟨b, 2, none⟩ = some (.int .i64 l.place) := hb0.cell 2
  have y3 : W.cell? ⟨b, 3, none⟩ = some (.int .i64 l.next) := hb0.cell 3
  have hb1 := hb0.alloc (.cells #[.int .i64 l.file, .int .i64 l.place, .int .i64 l.next] 3)
  have hF1 := hF0.alloc (.cells #[.int .i64 l.file, .int .i64 l.place, .int .i64 l.next] 3)
  have hc1 := Blk.new W 3 #[.int .i64 l.file, .int .i64 l.place, .int .i64 l.next]
  go_wp2_with fail
  obtain ⟨W1, hW1⟩ : ∃ W1, W.alloc (.cells #[.int .i64 l.file, .int .i64 l.place, .int .i64 l.next] 3) = W1 := ⟨_, rfl⟩
  rw [hW1] at hb1 hF1 hc1 ⊢
  obtain ⟨g, hge⟩ : ∃ g, W.heap.size = g := ⟨_, rfl⟩
  rw [hge] at hc1 ⊢
  clear hW1 hge hb0 hF0 y0 y1 y2 y3
  obtain ⟨ns, hns⟩ : ∃ ns : List Int, ns = [l.file, l.place, l.next] := ⟨_, rfl⟩
  have hnl : ns.length = 3 := by rw [hns]; rfl
  have hcell : ∀ k (h : k < ns.length), W1.cell? ⟨g, k, none⟩ = some (.int .i64 ns[k]) := by
    intro k h
    subst hns
    rw [hc1.cell]
    have : k < 3 := h
    match k, this with
    | 0, _ => rfl
    | 1, _ => rfl
    | 2, _ => rfl
  have Hcell := hide hcell
  have Hb1 := hide hb1
  have Hnl := hide hnl
  clear hcell hb1 hc1 hnl
  go_loopw [13] (fun iv wr => ∃ k : Nat, k ≤ 3 ∧ iv = .int .i64 k ∧ Hid (∀ j (h : j < ns.length), j < k → 0 ≤ ns[j] ∧ ns[j] ≤ 65535) ∧ wr = W1) (fun iv _ => 3 - (intOf iv).toNat)
  case atStart => exact ⟨0, by omega, rfl, hide (fun _ _ h => by omega), rfl⟩
  case round =>
    obtain ⟨k, hk, rfl, hin, rfl⟩ := hrel
    by_cases hlt : k < 3
    · have hkl : k < ns.length := by rw [Hnl.out]; exact hlt
      have hck := Hcell.out k hkl
      obtain ⟨nk, hnk⟩ : ∃ nk, ns[k] = nk := ⟨_, rfl⟩
      rw [hnk] at hck
      have Hnk := hide hnk
      clear hnk
      go_wp2_with fail
      refine (within_calls nk 0 65535 wr).mono ?_
      rintro e w' ⟨rfl, rfl⟩
      by_cases hw : 0 ≤ nk ∧ nk ≤ 65535
      · rw [decide_eq_true hw]
        go_wp2
        refine ⟨⟨k + 1, by omega, rfl, hide (fun j h hj => ?_), by first | rfl | trivial⟩, by simp only [intOf]; omega⟩
        by_cases hjk : j = k
        · subst hjk
          rw [Hnk.out]
          exact hw
        · exact hin.out j h (by omega)
      · rw [decide_eq_false hw]
        have hno : ¬ l.Right := by
          intro hR
          apply hw
          rw [← Hnk.out]
          subst hns
          match k, hlt with
          | 0, _ => exact hR.1
          | 1, _ => exact hR.2.1
          | 2, _ => exact hR.2.2.1
        go_wp2
        go_ret
        exact ⟨by rw [decide_eq_false hno]; rfl, hF1⟩
    · obtain rfl : k = 3 := by omega
      have z0 : wr.cell? ⟨b, 0, none⟩ = some (.int .i64 l.kind) := Hb1.out.cell 0
      have z4 : wr.cell? ⟨b, 4, none⟩ = some (.int .i64 l.size) := Hb1.out.cell 4
      go_wp2_with fail
      refine (within_calls l.kind 1 2 wr).mono ?_
      rintro e w' ⟨rfl, rfl⟩
      by_cases hk1 : 1 ≤ l.kind ∧ l.kind ≤ 2
      · rw [decide_eq_true hk1]
        go_wp2_with fail
        refine (within_calls l.size 0 116 wr).mono ?_
        rintro e w' ⟨rfl, rfl⟩
        by_cases hs1 : 0 ≤ l.size ∧ l.size ≤ 116
        · rw [decide_eq_true hs1]
          obtain ⟨s, hs⟩ := Int.eq_ofNat_of_zero_le hs1.1
          rw [hs] at z4
          have hs116 : (s : Int) ≤ 116 := by omega
          have hsn : s ≤ 116 := by omega
          have hsub : ((116 : Int) - s).toNat = 116 - s := by omega
          obtain ⟨o, ho, hrd⟩ : ∃ o, (if (116 : Nat) = s then (⟨b, 5, none⟩ : Addr) else ⟨b, 5 + s, none⟩) = ⟨b, o, none⟩ ∧ BRd wr (fun g => g = b) (.slice (some ⟨b, o, none⟩) (116 - s) (116 - s)) (l.load.drop s) := by
            by_cases h116 : 116 = s
            · exact ⟨5, if_pos h116, leaf_rest Hb1.out hl s hsn 5 (fun h => by omega)⟩
            · exact ⟨5 + s, if_neg h116, leaf_rest Hb1.out hl s hsn (5 + s) (fun _ => rfl)⟩
          go_wp2_with fail
          have hlen : (l.load.drop s).length = 116 - s := by rw [List.length_drop, hl.load]
          have ht := Trim_calls (l.load.drop s) (some ⟨b, o, none⟩) (116 - s) wr (by rw [hlen]; exact hrd) (by omega)
          rw [hlen] at ht
          refine ht.mono ?_
          rintro e w2 ⟨⟨A', m', c', rfl, hiff⟩, hf2⟩
          have hthree : (0 ≤ l.file ∧ l.file ≤ 65535) ∧ (0 ≤ l.place ∧ l.place ≤ 65535) ∧ (0 ≤ l.next ∧ l.next ≤ 65535) := by
            have h := hin.out
            subst hns
            exact ⟨h 0 (by simp) (by omega), h 1 (by simp) (by omega), h 2 (by simp) (by omega)⟩
          have hRe : decide l.Right = decide (m' = 0) := by
            rw [decide_eq_decide, hiff]
            constructor
            · intro hR
              have := hR.2.2.2.2.2
              rw [hs] at this
              exact this
            · intro h
              exact ⟨hthree.1, hthree.2.1, hthree.2.2, hk1, hs1, by rw [hs]; exact h⟩
          have hF2 := hF1.trans hf2 (fun _ _ h => h)
          clear ht hiff hrd ho hthree
          by_cases hm : m' = 0
          · have hq : ((m' : Int) == 0) = true := by simp [hm]
            rw [decide_eq_true hm] at hRe
            go_wp2
            go_ret
            exact ⟨by rw [hRe]; rfl, hF2⟩
          · have hq : ((m' : Int) == 0) = false := by simp only [beq_eq_false_iff_ne, ne_eq]; omega
            rw [decide_eq_false hm] at hRe
            go_wp2
            go_ret
            exact ⟨by rw [hRe]; rfl, hF2⟩
        · rw [decide_eq_false hs1]
          have hno : ¬ l.Right := fun hR => hs1 hR.2.2.2.2.1
          go_wp2
          go_ret
          exact ⟨by rw [decide_eq_false hno]; rfl, hF1⟩
      · rw [decide_eq_false hk1]
        have hno : ¬ l.Right := fun hR => hk1 hR.2.2.2.1
        go_wp2
        go_ret
        exact ⟨by rw [decide_eq_false hno]; rfl, hF1⟩
end Go.Proofs.YtablmgnhpciljaaDoor
