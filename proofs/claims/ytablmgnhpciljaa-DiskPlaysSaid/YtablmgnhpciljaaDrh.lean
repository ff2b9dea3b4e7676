/- The reference's NewDisk. -/
import Derived.Test.YtablmgnhpciljaaDrg
namespace Go.Proofs.Ytablmgnhpciljaa
open Go.RowKit

section
variable {w w' : World} {p : Nat} {S F G T : Nat → Prop} {D : ADisk} {bv dv av wv v : Value} {bs ds as_ ws : List Value}

theorem Ref_New_nil (n : Int) (hn : n < 1 ∨ 512 < n) : Calls Try.prog 5 #[.int .i64 n] w fun e w' => e = .returned (.pointer none) ∧ w = w' := by
  by_cases h1 : n < 1
  · clear hn
    go_enter Try.func5, Try.ntmps5
    go_wp2
    go_ret
    exact ⟨rfl, rfl⟩
  · have h2 : 512 < n := by omega
    clear hn
    go_enter Try.func5, Try.ntmps5
    go_wp2
    go_ret
    exact ⟨rfl, rfl⟩

theorem make_bools (n : Nat) (hn : n ≤ 512) : ∀ w : World, (Instr.makeSlice 39 (.int .i64 (n : Int)) (.int .i64 (n : Int))).run Try.prog w = .ok (.slice (some ⟨w.heap.size, 0, none⟩) n n) (w.alloc (.cells (madeCells #[.bool false] n) 4)) := by
  intro w
  obtain ⟨i0, hi0, hz0, hz1, hz2⟩ := info_parts Try.info4
  have hr := run_make (P := Try.prog) w 39 4 i0 _ Try.underlying39 hi0 hz0 .i64 .i64 (n : Int) (n : Int) (by omega) (by omega) (by rw [hz2]; omega) (by omega)
  simp only [Int.toNat_natCast, hz1, Nat.mul_one] at hr
  exact hr

structure RefNew (w wr : World) (n k : Nat) (bv : Value) (bs : List Value) : Prop where
  frm : Frm NoB w wr
  blk : Blk wr (w.heap.size + 1) 42 #[bv, .slice (some ⟨w.heap.size, 0, none⟩) n n, .slice none 0 0, .slice none 0 0, .int .i64 (-1), .bool false, .int .i64 0]
  bl : Own wr (GeB w) 28 1 bv k bs
  bd : Own wr (GeB w) 4 1 (.slice (some ⟨w.heap.size, 0, none⟩) n n) n (List.replicate n (.bool false))
  bls : ∀ j, j < k → ∃ v, bs[j]? = some v ∧ BlockIs wr (GeB w) v (some zeroBlock)

theorem RefNew.start (w : World) (n : Nat) (h2 : n ≤ 512) :
    RefNew w ((w.alloc (.cells (madeCells #[.bool false] n) 4)).alloc (.cells #[.slice none 0 0, .slice (some ⟨w.heap.size, 0, none⟩) n n, .slice none 0 0, .slice none 0 0, .int .i64 (-1), .bool false, .int .i64 0] 42)) n 0 (.slice none 0 0) [] := by
  refine ⟨((Frm.refl _ _).alloc _).alloc _, ?_, ⟨World.ownsRow_nil _ _ _ _, by simp [Value.ownBlock]⟩, ?_, fun j hj => by omega⟩
  · have := Blk.new (w.alloc (.cells (madeCells #[.bool false] n) 4)) 42 #[.slice none 0 0, .slice (some ⟨w.heap.size, 0, none⟩) n n, .slice none 0 0, .slice none 0 0, .int .i64 (-1), .bool false, .int .i64 0]
    rw [World.size_alloc] at this
    exact this
  · refine Own.keep (w := w.alloc (.cells (madeCells #[.bool false] n) 4)) ⟨⟨by simp, .inr ⟨w.heap.size, n, madeCells #[.bool false] n, rfl, Nat.zero_le _, heap_alloc_new w _, Nat.le_refl _, by simp only [maxLen]; omega, by rw [size_madeCells, Nat.mul_one], ?_⟩⟩, fun g hg => by simp [Value.ownBlock] at hg; simp only [GeB]; omega⟩ fun b _ hl => Below.heap_alloc _ _ b hl
    rw [toList_madeCells_one, List.take_of_length_le (by simp)]

theorem RefNew.next {w wr w5 : World} {n k : Nat} {bv : Value} {bs : List Value} (h : RefNew w wr n k bv bs) (hf : Frm (fun g => bv.ownBlock = some g) wr w5) (b' v' : Value) (ho : Own w5 (GeB w) 28 1 b' (k + 1) (bs ++ [v'])) (hv : BlockIs w5 (GeB w) v' (some zeroBlock)) :
    RefNew w (w5.setCell ⟨w.heap.size + 1, 0, none⟩ b') n (k + 1) b' (bs ++ [v']) := by
  have hne : ¬ bv.ownBlock = some (w.heap.size + 1) := fun h' => (h.bl.ne h.blk (by decide) h') rfl
  have hb5 := h.blk.frm hf hne
  have hl : bs.length = k := by rw [h.bl.1.1, Nat.mul_one]
  have hbi : ∀ (v : Value) (o : Option (List Value)), BlockIs w5 (GeB w) v o → BlockIs (w5.setCell ⟨w.heap.size + 1, 0, none⟩ b') (GeB w) v o := fun v o hv => hv.put hb5 (by decide) 0 _
  refine ⟨(h.frm.trans hf (fun i hi hx => (by have := h.bl.2 i hx; simp only [GeB] at this; omega))).setCell (p := ⟨w.heap.size + 1, 0, none⟩) (fun h => absurd h (by show ¬ w.heap.size + 1 < w.heap.size; omega)) _, hb5.put 0 b', ho.putOther hb5 (by decide) _, (h.bd.keepAt fun g hg => hf.block g (h.bd.lt hg) (fun hx => ?_)).putOther hb5 (by decide) _, fun j hj => ?_⟩
  · exact h.bd.neOwn h.bl (by decide) hg hx
  · rcases Nat.lt_or_ge j k with hlt | hge
    · obtain ⟨v, e, hv⟩ := h.bls j hlt
      exact ⟨v, by rw [List.getElem?_append_left (by omega)]; exact e, hbi _ _ (hv.keepAt fun g cs hg => hf.block g (lt_of_heap hg) (fun hx => h.bl.ne hg (by decide) hx rfl))⟩
    · obtain rfl : j = k := by omega
      exact ⟨v', by rw [List.getElem?_append_right (by omega), hl]; simp, hbi _ _ hv⟩

theorem RefNew.done {w wr : World} {n : Nat} {bv : Value} {bs : List Value} (h : RefNew w wr n n bv bs) (h1 : 1 ≤ n) (h2 : n ≤ 512) : RefAt wr (w.heap.size + 1) (NewB w wr) (NewB w wr) (ADisk.new n) := by
  have hl : (ADisk.new n).blocks.length = n := by simp [ADisk.new]
  have hw : (ADisk.new n).waits.length = 0 := rfl
  have hnew : ∀ b, b < wr.heap.size → GeB w b → NewB w wr b := fun b hl hb => ⟨hb, hl⟩
  refine ⟨bv, .slice (some ⟨w.heap.size, 0, none⟩) n n, .slice none 0 0, .slice none 0 0, bs, List.replicate n (.bool false), [], [], h.blk, ⟨by show w.heap.size ≤ w.heap.size + 1; omega, h.blk.lt⟩, ?_, ?_, ⟨World.ownsRow_nil _ _ _ _, by simp [Value.ownBlock]⟩, ⟨World.ownsRow_nil _ _ _ _, by simp [Value.ownBlock]⟩, by simp [Value.ownBlock], ?_, fun j hj => absurd hj (by simp [hw]), ?_⟩
  · rw [hl]; exact h.bl.mono hnew
  · rw [hl]; exact h.bd.mono hnew
  · intro j hj
    rw [hl] at hj
    obtain ⟨v, e, hv⟩ := h.bls j hj
    exact ⟨v, zeroBlock, false, e, by simp [hj], hv.mono hnew, by simp [ADisk.new]⟩
  · exact ⟨by show (-1 : Int) ≤ -1; decide, by show (-1 : Int) ≤ 9223372036854775807; decide, by rw [hl]; exact h2, by rw [hl]; omega, by simp [ADisk.new]⟩

set_option maxHeartbeats 1000000 in
theorem Ref_New (n : Nat) (h1 : 1 ≤ n) (h2 : n ≤ 512) : Calls Try.prog 5 #[.int .i64 (n : Nat)] w fun e w' => ∃ p, e = .returned (.pointer (some ⟨p, 0, none⟩)) ∧ RefAt w' p (NewB w w') (NewB w w') (ADisk.new n) ∧ Frm NoB w w' := by
  have hm1 := make_bools n h2
  have hm2 := make_block
  obtain ⟨i8, hi8, hz80, hz81, hz82⟩ := info_parts Try.info28
  have q1 : decide ((n : Int) < 1) = false := by simp; omega
  have q2 : decide ((512 : Int) < (n : Int)) = false := by simp; omega
  have hst := RefNew.start w n h2
  go_enter Try.func5, Try.ntmps5
  go_wp2
  go_loopw [15] (fun i wr => ∃ k : Nat, k ≤ n ∧ i = .int .i64 k ∧ ∃ bv bs, RefNew w wr n k bv bs) (fun i _ => n - (intOf i).toNat)
  case atStart => exact ⟨0, Nat.zero_le _, rfl, _, _, hst⟩
  case round =>
    obtain ⟨k, hk, rfl, bv, bs, hI⟩ := hrel
    by_cases hlt : k < n
    · have c0 := hI.blk.cell 0
      have hp := hI.blk.lt
      have hN : Frm NoB wr.drew wr.drew := Frm.refl _ _
      have hI1 := hI.bl.keep (w' := wr.drew) (fun _ _ _ => rfl)
      have hbk : Blk wr.drew (w.heap.size + 1) 42 _ := hI.blk
      have hA : Own ((wr.alloc (.cells (madeCells #[.int .u8 0] 128) 5)).alloc (.cells #[.slice (some ⟨wr.heap.size, 0, none⟩) 128 128] 28)).drew (fun g => bv.ownBlock = some g) 28 1 bv k bs :=
        hI.bl.at_.frm ((((Frm.refl NoB wr).alloc (.cells (madeCells #[.int .u8 0] 128) 5)).alloc (.cells #[.slice (some ⟨wr.heap.size, 0, none⟩) 128 128] 28)).drew) (fun _ _ _ h => h)
      have hR : Rd ((wr.alloc (.cells (madeCells #[.int .u8 0] 128) 5)).alloc (.cells #[.slice (some ⟨wr.heap.size, 0, none⟩) 128 128] 28)).drew (GeB wr) 1 (.slice (some ⟨wr.heap.size + 1, 0, none⟩) 1 1) 1 [.slice (some ⟨wr.heap.size, 0, none⟩) 128 128] := by
        have := rd_lit (wr.alloc (.cells (madeCells #[.int .u8 0] 128) 5)) 28 1 1 #[.slice (some ⟨wr.heap.size, 0, none⟩) 128 128] rfl
        rw [World.size_alloc] at this
        exact (this.mono (G := GeB wr) (fun b _ hb => Nat.le_trans (by simp) hb.1)).keep (Nat.le_refl _) (fun _ _ _ => rfl)
      have hB : Blk ((wr.alloc (.cells (madeCells #[.int .u8 0] 128) 5)).alloc (.cells #[.slice (some ⟨wr.heap.size, 0, none⟩) 128 128] 28)).drew (w.heap.size + 1) 42 _ := ((hI.blk.alloc _).alloc _).drew
      have hone : ∀ x ∈ [Value.slice (some ⟨wr.heap.size, 0, none⟩) 128 128], x.oneCell' = true := by simp [Value.oneCell']
      have hn5 : ¬ bv.ownBlock = some (w.heap.size + 1) := fun h => (hI.bl.ne hI.blk (by decide) h) rfl
      have hp2 : w.heap.size + 1 < wr.heap.size + 1 := by omega
      have k1 : k + 1 ≤ maxLen := by simp only [maxLen]; omega
      have k2 : (k + 1) * 24 ≤ 140737488355328 := by omega
      have z0 : (Value.slice none 0 0).cells.size = 1 := rfl
      clear hN hI1 hbk
      have Hk := hide k1
      clear k1
      go_wp2
      go_region_law (refine step_app rfl (.tmp 21) (.tmp 23) 38 rfl 28 i8 (.slice none 0 0) 1 24 Try.underlying38 hi8 hz80 hz81 hz82 z0 (Nat.one_pos) (fun g => bv.ownBlock = some g) bv k bs ?c1 hA (GeB wr) (.slice (some ⟨wr.heap.size + 1, 0, none⟩) 1 1) 1 [.slice (some ⟨wr.heap.size, 0, none⟩) 128 128] ?c2 hR hone Hk.out k2 ?_; (case c1 => go_simp); (case c2 => go_simp); intro v5 w5 ho5 hf5 _; have hb5 := hB.frm hf5 hn5; have c5 := hb5.cell 0; have f5 := hb5.frozen 0; obtain ⟨A5, k5, rfl⟩ := ho5.form)
      all_goals
        have hf6 : Frm (fun g => bv.ownBlock = some g) wr w5 := ((((Frm.refl (fun g => bv.ownBlock = some g) wr).alloc (.cells (madeCells #[.int .u8 0] 128) 5)).alloc (.cells #[.slice (some ⟨wr.heap.size, 0, none⟩) 128 128] 28)).drew).trans hf5 (fun _ _ h => h)
        have hnext := hI.next hf6 (.slice A5 (k + 1) k5) (.slice (some ⟨wr.heap.size, 0, none⟩) 128 128) (ho5.mono fun b hl hb => (by
          rcases hb with hb | hb
          · exact hI.bl.2 b hb
          · have h1 := hb.1; have h2 := hI.frm.size; simp at h1; simp only [GeB]; omega))
          (((new_block wr).mono (G := GeB w) fun b _ hb => Nat.le_trans hI.frm.size hb).alloc (.cells #[.slice (some ⟨wr.heap.size, 0, none⟩) 128 128] 28) |>.drew |>.keepAt fun g cs hg => hf5.block g (lt_of_heap hg) (fun h => hA.ne hg (by decide) h rfl))
        go_wp2
        go_roundw
        case rel => exact ⟨k + 1, by omega, by go_num, _, _, hnext⟩
        case measure => simp [intOf]; omega
    · obtain rfl : k = n := by omega
      have hd := hI.done h1 h2
      have hf := hI.frm
      go_wp2
      go_ret
      exact ⟨_, rfl, hd, hf⟩
end
end Go.Proofs.Ytablmgnhpciljaa
