/- Disk: New, Twin, Burst. -/
import Derived.Test.YtablmgnhpciljaaDke
import Derived.Laws.MakeOwn
namespace Go.Proofs.Ytablmgnhpciljaa
open Go.RowKit

def zeroBlock : List Value := List.replicate 128 (.int .u8 0)
theorem zeroBlock_is : isBlock zeroBlock := ⟨by simp [zeroBlock], fun v hv => ⟨0, by simp [zeroBlock] at hv; subst hv; rfl⟩⟩
def ADisk.new (n : Nat) : ADisk := { blocks := List.replicate n (some zeroBlock), waits := [], fuse := -1, off := false, wrote := 0 }

section
variable {w : World} {p : Nat} {S F G : Nat → Prop} {D : ADisk} {bv wv : Value} {bs ws : List Value}

theorem Disk_New_nil (n : Int) (hn : n < 1 ∨ 512 < n) : Calls Try.prog 4 #[.int .i64 n] w fun e w' => e = .returned (.pointer none) ∧ w = w' := by
  by_cases h1 : n < 1
  · clear hn
    go_enter Try.func4, Try.ntmps4
    go_wp2
    go_ret
    exact ⟨rfl, rfl⟩
  · have h2 : 512 < n := by omega
    clear hn
    go_enter Try.func4, Try.ntmps4
    go_wp2
    go_ret
    exact ⟨rfl, rfl⟩

theorem make_rows (n : Nat) (hn : n ≤ 512) : ∀ w : World, (Instr.makeSlice 38 (.int .i64 (n : Int)) (.int .i64 (n : Int))).run Try.prog w = .ok (.slice (some ⟨w.heap.size, 0, none⟩) n n) (w.alloc (.cells (madeCells #[.slice none 0 0] n) 28)) := by
  intro w
  obtain ⟨i0, hi0, hz0, hz1, hz2⟩ := info_parts Try.info28
  have hr := run_make (P := Try.prog) w 38 28 i0 _ Try.underlying38 hi0 hz0 .i64 .i64 (n : Int) (n : Int) (by omega) (by omega) (by rw [hz2]; omega) (by omega)
  simp only [Int.toNat_natCast, hz1, Nat.mul_one] at hr
  exact hr

theorem make_block : ∀ w : World, (Instr.makeSlice 28 (.int .i64 128) (.int .i64 128)).run Try.prog w = .ok (.slice (some ⟨w.heap.size, 0, none⟩) 128 128) (w.alloc (.cells (madeCells #[.int .u8 0] 128) 5)) := by
  intro w
  obtain ⟨i0, hi0, hz0, hz1, hz2⟩ := info_parts Try.info5
  have hr := run_make (P := Try.prog) w 28 5 i0 _ Try.underlying28 hi0 hz0 .i64 .i64 128 128 (by omega) (by omega) (by rw [hz2]; omega) (by omega)
  simp only [hz1] at hr
  exact hr

def halfNew (n k : Nat) : List (Option (List Value)) := List.replicate k (some zeroBlock) ++ List.replicate (n - k) none
theorem halfNew_length (n k : Nat) (h : k ≤ n) : (halfNew n k).length = n := by simp [halfNew]; omega
theorem halfNew_succ (n k : Nat) (h : k < n) : (halfNew n k).set k (some zeroBlock) = halfNew n (k + 1) := by
  unfold halfNew
  rw [List.set_append_right _ _ (by simp)]
  simp only [List.length_replicate, Nat.sub_self]
  obtain ⟨m, hm⟩ : ∃ m, n - k = m + 1 := ⟨n - k - 1, by omega⟩
  rw [hm, show n - (k + 1) = m from by omega, List.replicate_succ, List.set_cons_zero, List.replicate_succ', List.append_assoc]
  rfl

theorem new_block (w : World) : BlockIs (w.alloc (.cells (madeCells #[.int .u8 0] 128) 5)) (fun b => w.heap.size ≤ b) (.slice (some ⟨w.heap.size, 0, none⟩) 128 128) (some zeroBlock) := by
  refine ⟨⟨⟨by simp [zeroBlock], .inr ⟨_, _, _, rfl, Nat.zero_le _, heap_alloc_new w _, Nat.le_refl _, by simp [maxLen], by rw [size_madeCells], ?_⟩⟩, fun g hg => by simp [Value.ownBlock] at hg; omega⟩, zeroBlock_is⟩
  rw [toList_madeCells_one, List.take_of_length_le (by simp)]
  rfl

/-- The disk as its struct was just laid: all blocks are none. -/
theorem DiskIn.start (w : World) (n : Nat) (h1 : 1 ≤ n) (h2 : n ≤ 512) :
    DiskIn ((w.alloc (.cells (madeCells #[.slice none 0 0] n) 28)).alloc (.cells #[.slice (some ⟨w.heap.size, 0, none⟩) n n, .slice none 0 0, .int .i64 (-1), .bool false, .int .i64 0] 53))
      (w.heap.size + 1) (fun b => w.heap.size ≤ b) (fun b => w.heap.size ≤ b) { blocks := halfNew n 0, waits := [], fuse := -1, off := false, wrote := 0 } (.slice (some ⟨w.heap.size, 0, none⟩) n n) (.slice none 0 0) (List.replicate n (.slice none 0 0)) [] := by
  have e : halfNew n 0 = List.replicate n none := by simp [halfNew]
  rw [e]
  refine ⟨?_, by show w.heap.size ≤ w.heap.size + 1; omega, ?_, ⟨World.ownsRow_nil _ _ _ _, by simp [Value.ownBlock]⟩, ?_, fun j hj => absurd hj (by simp), ⟨by show (-1 : Int) ≤ -1; decide, by show (-1 : Int) ≤ 9223372036854775807; decide, by simp; omega, by simp; omega, by simp⟩⟩
  · have := Blk.new (w.alloc (.cells (madeCells #[.slice none 0 0] n) 28)) 53 #[.slice (some ⟨w.heap.size, 0, none⟩) n n, .slice none 0 0, .int .i64 (-1), .bool false, .int .i64 0]
    rw [World.size_alloc] at this
    exact this
  · refine (Own.keep (w := w.alloc (.cells (madeCells #[.slice none 0 0] n) 28)) (F := fun b => w.heap.size ≤ b) ⟨⟨by simp, .inr ⟨w.heap.size, n, madeCells #[.slice none 0 0] n, by simp, Nat.zero_le _, heap_alloc_new w _, ?_, by simp only [maxLen]; omega, by rw [size_madeCells, Nat.mul_one], ?_⟩⟩, fun g hg => by simp [Value.ownBlock] at hg; omega⟩ fun b _ hl => Below.heap_alloc _ _ b hl)
    · simp
    · rw [toList_madeCells_one, List.take_of_length_le (by simp)]
  · intro j hj
    simp only [List.length_replicate] at hj
    exact ⟨.slice none 0 0, by simp [hj], by simp [BlockIs]⟩

set_option maxHeartbeats 400000 in
theorem Disk_New (n : Nat) (h1 : 1 ≤ n) (h2 : n ≤ 512) : Calls Try.prog 4 #[.int .i64 (n : Nat)] w fun e w' => ∃ p, e = .returned (.pointer (some ⟨p, 0, none⟩)) ∧ DiskAt w' p (NewB w w') (NewB w w') (ADisk.new n) ∧ Frm NoB w w' := by
  have hm1 := make_rows n h2
  have hm2 := make_block
  have q1 : decide ((n : Int) < 1) = false := by simp; omega
  have q2 : decide ((512 : Int) < (n : Int)) = false := by simp; omega
  have hst := DiskIn.start w n h1 h2
  have hfr : Frm NoB w ((w.alloc (.cells (madeCells #[.slice none 0 0] n) 28)).alloc (.cells #[.slice (some ⟨w.heap.size, 0, none⟩) n n, .slice none 0 0, .int .i64 (-1), .bool false, .int .i64 0] 53)) := ((Frm.refl _ _).alloc _).alloc _
  go_enter Try.func4, Try.ntmps4
  go_wp2
  go_loopw [20] (fun i wr => ∃ k : Nat, k ≤ n ∧ i = .int .i64 k ∧ ∃ bs', DiskIn wr (w.heap.size + 1) (fun b => w.heap.size ≤ b) (fun b => w.heap.size ≤ b) { blocks := halfNew n k, waits := [], fuse := -1, off := false, wrote := 0 } (.slice (some ⟨w.heap.size, 0, none⟩) n n) (.slice none 0 0) bs' [] ∧ Frm NoB w wr) (fun i _ => n - (intOf i).toNat)
  case atStart => exact ⟨0, Nat.zero_le _, rfl, _, hst, hfr⟩
  case round =>
    obtain ⟨k, hk, rfl, bs', hI, hF⟩ := hrel
    by_cases hlt : k < n
    · have hlk : k < (halfNew n k).length := by rw [halfNew_length n k hk]; exact hlt
      have hg := hI.bl.lt (g := w.heap.size) rfl
      have c0 := hI.blk.cell 0
      have hp := hI.blk.lt
      obtain ⟨cb, hcb⟩ := hI.blockCell hlk
      have hfz := hI.bl.frozen k
      have hfin := (hI.alloc (.cells (madeCells #[.int .u8 0] 128) 5)).putBlock k hlk (.slice (some ⟨wr.heap.size, 0, none⟩) 128 128) (some zeroBlock) ((new_block wr).mono fun b _ hb => Nat.le_trans hF.size hb)
      rw [World.setCell_alloc_past _ _ _ _ hg] at hfin
      dsimp only at hfin
      rw [halfNew_succ n k hlt] at hfin
      have hfr2 : Frm NoB w ((wr.setCell ⟨w.heap.size, k, none⟩ (.slice (some ⟨wr.heap.size, 0, none⟩) 128 128)).alloc (.cells (madeCells #[.int .u8 0] 128) 5)) :=
        (hF.setCell (p := ⟨w.heap.size, k, none⟩) (fun h => absurd h (Nat.lt_irrefl _)) _).alloc _
      go_wp2
      go_region
      all_goals
        go_wp2
        go_roundw
        case rel => exact ⟨k + 1, by omega, by go_num, _, hfin.drew, hfr2.drew⟩
        case measure => simp [intOf]; omega
    · obtain rfl : k = n := by omega
      go_wp2
      go_ret
      have e : ADisk.new k = { blocks := halfNew k k, waits := [], fuse := -1, off := false, wrote := 0 } := by simp [ADisk.new, halfNew]
      exact ⟨_, rfl, by rw [e]; exact (show DiskAt wr _ _ _ _ from ⟨_, _, _, _, hI⟩).mono (fun b hl hb => ⟨hb, hl⟩) (fun b hl hb => ⟨hb, hl⟩), hF⟩
end
end Go.Proofs.Ytablmgnhpciljaa
