/- The reference's RightLeaf. -/
import Derived.Test.YtablmgnhpciljaaDoorLff
namespace Go.Proofs.YtablmgnhpciljaaDoor
open Go.RowKit

/-- The last line: the bounds, one by one. -/
theorem drop_mem {l : List UInt8} {s : Nat} {u : UInt8} (h : u ∈ l.drop s) : ∃ j, ∃ hj : j < l.length, s ≤ j ∧ l[j] = u := by
  obtain ⟨j, hj, rfl⟩ := List.mem_iff_getElem.1 h
  rw [List.length_drop] at hj
  exact ⟨s + j, by omega, by omega, by rw [List.getElem_drop]⟩
theorem mem_drop_of {l : List UInt8} {s j : Nat} (hj : j < l.length) (hs : s ≤ j) : l[j] ∈ l.drop s :=
  List.mem_iff_getElem.2 ⟨j - s, by rw [List.length_drop]; omega, by rw [List.getElem_drop]; congr 1; omega⟩

set_option maxRecDepth 100000 in
set_option maxHeartbeats 4000000 in
theorem RightLeaf_calls (l : ALeaf) (hl : l.ok) (w : World) : Calls Tryd.prog 14 #[.agg l.cells] w fun e w' => e = .returned (.bool (decide l.Right)) ∧ Frm NoB w w' := by
  have hb0 := Blk.new w 24 l.cells
  have hF0 := (Frm.refl NoB w).alloc (.cells l.cells 24)
  go_enter Tryd.func14, Tryd.ntmps14
  go_upto_region 1 with (fail)
  obtain ⟨W, hW⟩ : ∃ W, w.alloc (.cells l.cells 24) = W := ⟨_, rfl⟩
  obtain ⟨b, hbe⟩ : ∃ b, w.heap.size = b := ⟨_, rfl⟩
  rw [hW] at hb0 hF0 ⊢
  rw [hbe] at hb0 ⊢
  clear hW hbe
  have y4 : W.cell? ⟨b, 4, none⟩ = some (.int .i64 l.size) := hb0.cell 4
  have Hb0 := hide hb0
  clear hb0
  by_cases hneg : l.size < 0
  · have HST : l.size.toNat = 0 := by omega
    go_upto_region 2 with (fail)
    go_loopw [3] (fun iv wr => ∃ k : Nat, l.size.toNat ≤ k ∧ (k ≤ 116 ∨ k = l.size.toNat) ∧ iv = .int .i64 k ∧ Hid (∀ j (h : j < l.load.length), l.size.toNat ≤ j → j < k → l.load[j] = 0) ∧ wr = W) (fun iv _ => 116 - (intOf iv).toNat)
    case atStart => exact ⟨l.size.toNat, Nat.le_refl _, .inr rfl, by rw [HST]; rfl, hide (fun j h h1 h2 => by omega), rfl⟩
    case round =>
      obtain ⟨k, hsk, hk, rfl, hz, rfl⟩ := hrel
      by_cases hlt : k < 116
      · have hkl : k < l.load.length := by rw [hl.load]; exact hlt
        have yk : wr.cell? ⟨b, 5 + k, none⟩ = some (.int .u8 (l.load[k].toNat : Int)) := (Hb0.out.cell (5 + k)).trans (l.cells_byte k hkl)
        by_cases hx : l.load[k] = 0
        · have hq : ((l.load[k].toNat : Int) != 0) = false := by rw [hx]; rfl
          go_wp2_with fail
          refine ⟨⟨k + 1, by omega, .inl (by omega), rfl, hide (fun j h h1 h2 => ?_), by first | rfl | trivial⟩, by simp only [intOf]; omega⟩
          by_cases hjk : j = k
          · subst hjk; exact hx
          · exact hz.out j h h1 (by omega)
        · have hq : ((l.load[k].toNat : Int) != 0) = true := by
            simp only [bne_iff_ne, ne_eq]
            intro h
            exact hx (UInt8.toNat_inj.1 (by rw [show ((0 : UInt8).toNat) = 0 from rfl]; omega))
          have hno : Hid (¬ l.Right) := hide (fun hR => hx (hR.2.2.2.2.2 _ (mem_drop_of hkl hsk)))
          go_wp2_with fail
          go_ret
          exact ⟨by rw [decide_eq_false hno.out]; rfl, hF0⟩
      · have hall : Hid (∀ u ∈ l.load.drop l.size.toNat, u = 0) := hide (fun u hu => by
          obtain ⟨j, hj, h1, rfl⟩ := drop_mem hu
          exact hz.out j hj h1 (by rw [hl.load] at hj; omega))
        have z0 : wr.cell? ⟨b, 0, none⟩ = some (.int .i64 l.kind) := Hb0.out.cell 0
        have z1 : wr.cell? ⟨b, 1, none⟩ = some (.int .i64 l.file) := Hb0.out.cell 1
        have z2 : wr.cell? ⟨b, 2, none⟩ = some (.int .i64 l.place) := Hb0.out.cell 2
        have z3 : wr.cell? ⟨b, 3, none⟩ = some (.int .i64 l.next) := Hb0.out.cell 3
        have z4 : wr.cell? ⟨b, 4, none⟩ = some (.int .i64 l.size) := Hb0.out.cell 4
        clear hz
        by_cases g0n : ¬ (1 ≤ l.kind)
        · have hno : Hid (¬ l.Right) := hide (fun hR => g0n (hR.2.2.2.1.1))
          go_wp2
          all_goals go_ret
          all_goals exact ⟨by rw [decide_eq_false hno.out]; rfl, hF0⟩
        have g0 : 1 ≤ l.kind := Decidable.not_not.1 g0n
        clear g0n
        by_cases g1n : ¬ (l.kind ≤ 2)
        · have hno : Hid (¬ l.Right) := hide (fun hR => g1n (hR.2.2.2.1.2))
          go_wp2
          all_goals go_ret
          all_goals exact ⟨by rw [decide_eq_false hno.out]; rfl, hF0⟩
        have g1 : l.kind ≤ 2 := Decidable.not_not.1 g1n
        clear g1n
        by_cases g2n : ¬ (0 ≤ l.file)
        · have hno : Hid (¬ l.Right) := hide (fun hR => g2n (hR.1.1))
          go_wp2
          all_goals go_ret
          all_goals exact ⟨by rw [decide_eq_false hno.out]; rfl, hF0⟩
        have g2 : 0 ≤ l.file := Decidable.not_not.1 g2n
        clear g2n
        by_cases g3n : ¬ (l.file < 65536)
        · have hno : Hid (¬ l.Right) := hide (fun hR => g3n (by have := hR.1.2; omega))
          go_wp2
          all_goals go_ret
          all_goals exact ⟨by rw [decide_eq_false hno.out]; rfl, hF0⟩
        have g3 : l.file < 65536 := Decidable.not_not.1 g3n
        clear g3n
        by_cases g4n : ¬ (0 ≤ l.place)
        · have hno : Hid (¬ l.Right) := hide (fun hR => g4n (hR.2.1.1))
          go_wp2
          all_goals go_ret
          all_goals exact ⟨by rw [decide_eq_false hno.out]; rfl, hF0⟩
        have g4 : 0 ≤ l.place := Decidable.not_not.1 g4n
        clear g4n
        by_cases g5n : ¬ (l.place < 65536)
        · have hno : Hid (¬ l.Right) := hide (fun hR => g5n (by have := hR.2.1.2; omega))
          go_wp2
          all_goals go_ret
          all_goals exact ⟨by rw [decide_eq_false hno.out]; rfl, hF0⟩
        have g5 : l.place < 65536 := Decidable.not_not.1 g5n
        clear g5n
        by_cases g6n : ¬ (0 ≤ l.next)
        · have hno : Hid (¬ l.Right) := hide (fun hR => g6n (hR.2.2.1.1))
          go_wp2
          all_goals go_ret
          all_goals exact ⟨by rw [decide_eq_false hno.out]; rfl, hF0⟩
        have g6 : 0 ≤ l.next := Decidable.not_not.1 g6n
        clear g6n
        by_cases g7n : ¬ (l.next < 65536)
        · have hno : Hid (¬ l.Right) := hide (fun hR => g7n (by have := hR.2.2.1.2; omega))
          go_wp2
          all_goals go_ret
          all_goals exact ⟨by rw [decide_eq_false hno.out]; rfl, hF0⟩
        have g7 : l.next < 65536 := Decidable.not_not.1 g7n
        clear g7n
        by_cases g8n : ¬ (0 ≤ l.size)
        · have hno : Hid (¬ l.Right) := hide (fun hR => g8n (hR.2.2.2.2.1.1))
          go_wp2
          all_goals go_ret
          all_goals exact ⟨by rw [decide_eq_false hno.out]; rfl, hF0⟩
        have g8 : 0 ≤ l.size := Decidable.not_not.1 g8n
        clear g8n
        by_cases g9n : ¬ (l.size ≤ 116)
        · have hno : Hid (¬ l.Right) := hide (fun hR => g9n (hR.2.2.2.2.1.2))
          go_wp2
          all_goals go_ret
          all_goals exact ⟨by rw [decide_eq_false hno.out]; rfl, hF0⟩
        have g9 : l.size ≤ 116 := Decidable.not_not.1 g9n
        clear g9n
        have hyes : Hid l.Right := hide ⟨⟨g2, by omega⟩, ⟨g4, by omega⟩, ⟨g6, by omega⟩, ⟨g0, g1⟩, ⟨g8, g9⟩, fun u hu => hall.out u hu⟩
        go_wp2
        all_goals go_ret
        all_goals exact ⟨by rw [decide_eq_true hyes.out]; rfl, hF0⟩
  · have HST : ((l.size.toNat : Nat) : Int) = l.size := by omega
    go_upto_region 2 with (fail)
    go_loopw [3] (fun iv wr => ∃ k : Nat, l.size.toNat ≤ k ∧ (k ≤ 116 ∨ k = l.size.toNat) ∧ iv = .int .i64 k ∧ Hid (∀ j (h : j < l.load.length), l.size.toNat ≤ j → j < k → l.load[j] = 0) ∧ wr = W) (fun iv _ => 116 - (intOf iv).toNat)
    case atStart => exact ⟨l.size.toNat, Nat.le_refl _, .inr rfl, by rw [HST], hide (fun j h h1 h2 => by omega), rfl⟩
    case round =>
      obtain ⟨k, hsk, hk, rfl, hz, rfl⟩ := hrel
      by_cases hlt : k < 116
      · have hkl : k < l.load.length := by rw [hl.load]; exact hlt
        have yk : wr.cell? ⟨b, 5 + k, none⟩ = some (.int .u8 (l.load[k].toNat : Int)) := (Hb0.out.cell (5 + k)).trans (l.cells_byte k hkl)
        by_cases hx : l.load[k] = 0
        · have hq : ((l.load[k].toNat : Int) != 0) = false := by rw [hx]; rfl
          go_wp2_with fail
          refine ⟨⟨k + 1, by omega, .inl (by omega), rfl, hide (fun j h h1 h2 => ?_), by first | rfl | trivial⟩, by simp only [intOf]; omega⟩
          by_cases hjk : j = k
          · subst hjk; exact hx
          · exact hz.out j h h1 (by omega)
        · have hq : ((l.load[k].toNat : Int) != 0) = true := by
            simp only [bne_iff_ne, ne_eq]
            intro h
            exact hx (UInt8.toNat_inj.1 (by rw [show ((0 : UInt8).toNat) = 0 from rfl]; omega))
          have hno : Hid (¬ l.Right) := hide (fun hR => hx (hR.2.2.2.2.2 _ (mem_drop_of hkl hsk)))
          go_wp2_with fail
          go_ret
          exact ⟨by rw [decide_eq_false hno.out]; rfl, hF0⟩
      · have hall : Hid (∀ u ∈ l.load.drop l.size.toNat, u = 0) := hide (fun u hu => by
          obtain ⟨j, hj, h1, rfl⟩ := drop_mem hu
          exact hz.out j hj h1 (by rw [hl.load] at hj; omega))
        have z0 : wr.cell? ⟨b, 0, none⟩ = some (.int .i64 l.kind) := Hb0.out.cell 0
        have z1 : wr.cell? ⟨b, 1, none⟩ = some (.int .i64 l.file) := Hb0.out.cell 1
        have z2 : wr.cell? ⟨b, 2, none⟩ = some (.int .i64 l.place) := Hb0.out.cell 2
        have z3 : wr.cell? ⟨b, 3, none⟩ = some (.int .i64 l.next) := Hb0.out.cell 3
        have z4 : wr.cell? ⟨b, 4, none⟩ = some (.int .i64 l.size) := Hb0.out.cell 4
        clear hz
        by_cases g0n : ¬ (1 ≤ l.kind)
        · have hno : Hid (¬ l.Right) := hide (fun hR => g0n (hR.2.2.2.1.1))
          go_wp2
          all_goals go_ret
          all_goals exact ⟨by rw [decide_eq_false hno.out]; rfl, hF0⟩
        have g0 : 1 ≤ l.kind := Decidable.not_not.1 g0n
        clear g0n
        by_cases g1n : ¬ (l.kind ≤ 2)
        · have hno : Hid (¬ l.Right) := hide (fun hR => g1n (hR.2.2.2.1.2))
          go_wp2
          all_goals go_ret
          all_goals exact ⟨by rw [decide_eq_false hno.out]; rfl, hF0⟩
        have g1 : l.kind ≤ 2 := Decidable.not_not.1 g1n
        clear g1n
        by_cases g2n : ¬ (0 ≤ l.file)
        · have hno : Hid (¬ l.Right) := hide (fun hR => g2n (hR.1.1))
          go_wp2
          all_goals go_ret
          all_goals exact ⟨by rw [decide_eq_false hno.out]; rfl, hF0⟩
        have g2 : 0 ≤ l.file := Decidable.not_not.1 g2n
        clear g2n
        by_cases g3n : ¬ (l.file < 65536)
        · have hno : Hid (¬ l.Right) := hide (fun hR => g3n (by have := hR.1.2; omega))
          go_wp2
          all_goals go_ret
          all_goals exact ⟨by rw [decide_eq_false hno.out]; rfl, hF0⟩
        have g3 : l.file < 65536 := Decidable.not_not.1 g3n
        clear g3n
        by_cases g4n : ¬ (0 ≤ l.place)
        · have hno : Hid (¬ l.Right) := hide (fun hR => g4n (hR.2.1.1))
          go_wp2
          all_goals go_ret
          all_goals exact ⟨by rw [decide_eq_false hno.out]; rfl, hF0⟩
        have g4 : 0 ≤ l.place := Decidable.not_not.1 g4n
        clear g4n
        by_cases g5n : ¬ (l.place < 65536)
        · have hno : Hid (¬ l.Right) := hide (fun hR => g5n (by have := hR.2.1.2; omega))
          go_wp2
          all_goals go_ret
          all_goals exact ⟨by rw [decide_eq_false hno.out]; rfl, hF0⟩
        have g5 : l.place < 65536 := Decidable.not_not.1 g5n
        clear g5n
        by_cases g6n : ¬ (0 ≤ l.next)
        · have hno : Hid (¬ l.Right) := hide (fun hR => g6n (hR.2.2.1.1))
          go_wp2
          all_goals go_ret
          all_goals exact ⟨by rw [decide_eq_false hno.out]; rfl, hF0⟩
        have g6 : 0 ≤ l.next := Decidable.not_not.1 g6n
        clear g6n
        by_cases g7n : ¬ (l.next < 65536)
        · have hno : Hid (¬ l.Right) := hide (fun hR => g7n (by have := hR.2.2.1.2; omega))
          go_wp2
          all_goals go_ret
          all_goals exact ⟨by rw [decide_eq_false hno.out]; rfl, hF0⟩
        have g7 : l.next < 65536 := Decidable.not_not.1 g7n
        clear g7n
        by_cases g8n : ¬ (0 ≤ l.size)
        · have hno : Hid (¬ l.Right) := hide (fun hR => g8n (hR.2.2.2.2.1.1))
          go_wp2
          all_goals go_ret
          all_goals exact ⟨by rw [decide_eq_false hno.out]; rfl, hF0⟩
        have g8 : 0 ≤ l.size := Decidable.not_not.1 g8n
        clear g8n
        by_cases g9n : ¬ (l.size ≤ 116)
        · have hno : Hid (¬ l.Right) := hide (fun hR => g9n (hR.2.2.2.2.1.2))
          go_wp2
          all_goals go_ret
          all_goals exact ⟨by rw [decide_eq_false hno.out]; rfl, hF0⟩
        have g9 : l.size ≤ 116 := Decidable.not_not.1 g9n
        clear g9n
        have hyes : Hid l.Right := hide ⟨⟨g2, by omega⟩, ⟨g4, by omega⟩, ⟨g6, by omega⟩, ⟨g0, g1⟩, ⟨g8, g9⟩, fun u hu => hall.out u hu⟩
        go_wp2
        all_goals go_ret
        all_goals exact ⟨by rw [decide_eq_true hyes.out]; rfl, hF0⟩
end Go.Proofs.YtablmgnhpciljaaDoor
