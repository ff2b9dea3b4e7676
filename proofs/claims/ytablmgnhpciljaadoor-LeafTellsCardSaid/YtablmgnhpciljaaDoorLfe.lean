/- Rows of bytes that are made: make, sheafbook.Roomy, sheafbook.Intact, burst.Close. -/
import Derived.Test.YtablmgnhpciljaaDoorLfd
import Derived.Test.YtablmgnhpciljaaDoorSame
import Derived.Laws.MakeOwn
namespace Go.Proofs.YtablmgnhpciljaaDoor
open Go.RowKit

theorem make_bytes (n c : Nat) (hn : n ≤ c) (hc : c ≤ 140737488355328) : ∀ w : World, (Instr.makeSlice 25 (.int .i64 (n : Int)) (.int .i64 (c : Int))).run Tryd.prog w = .ok (.slice (some ⟨w.heap.size, 0, none⟩) n c) (w.alloc (.cells (madeCells #[.int .u8 0] c) 5)) := by
  intro w
  obtain ⟨i0, hi0, hz0, hz1, hz2⟩ := info_parts Tryd.infoByte
  have hr := run_make (P := Tryd.prog) w 25 5 i0 _ Tryd.underlying25 hi0 hz0 .i64 .i64 (n : Int) (c : Int) (by omega) (by omega) (by rw [hz2]; omega) (by omega)
  simp only [Int.toNat_natCast, hz1, Nat.mul_one] at hr
  exact hr
theorem own_made (w : World) (n c : Nat) (hn : n ≤ c) (hc : c ≤ 140737488355328) : BOwn w (w.alloc (.cells (madeCells #[.int .u8 0] c) 5)) (.slice (some ⟨w.heap.size, 0, none⟩) n c) (List.replicate n 0) := by
  refine ⟨⟨by simp, .inr ⟨w.heap.size, c, _, by rw [List.length_replicate], Nat.zero_le _, heap_alloc_new w _, by simpa using hn, by simp only [maxLen]; omega, by rw [size_madeCells]; simp, ?_⟩⟩, fun g hg => by simp [Value.ownBlock] at hg; subst hg; exact Nat.le_refl _⟩
  rw [toList_madeCells_one, List.length_replicate, Nat.mul_one, List.take_replicate, Nat.min_eq_left hn, List.map_replicate]
  rfl
theorem lit4 (s : Nat) : #[.int .u8 ((s : Int) % 256), .int .u8 ((s : Int) / 256 % 256), .int .u8 ((s : Int) / 65536 % 256), .int .u8 ((s : Int) / 16777216 % 256)] = ((lowB s 4).map byt).toArray := by
  simp [lowB, List.range_succ, byt_ofNat]

set_option maxRecDepth 100000 in
theorem Close_calls (l : List UInt8) (v : Value) (w : World) {F : Nat → Prop} (hr : BRd w F v l) (hl : l.length ≤ 1099511627776) :
    Calls Tryd.prog 32 #[v] w fun e w' => ∃ v', e = .returned v' ∧ BOwn w w' v' (l ++ lowB (crc l).toNat 4) ∧ Frm NoB w w' := by
  have hmk : ∀ w : World, (Instr.makeSlice 25 (.int .i64 0) (.int .i64 ((l.length : Int) + 4))).run Tryd.prog w = .ok (.slice (some ⟨w.heap.size, 0, none⟩) 0 (l.length + 4)) (w.alloc (.cells (madeCells #[.int .u8 0] (l.length + 4)) 5)) := make_bytes 0 (l.length + 4) (by omega) (by omega)
  have ho1 := own_made w 0 (l.length + 4) (by omega) (by omega)
  rw [List.replicate_zero] at ho1
  obtain ⟨A, c, rfl, hc⟩ := hr.form
  go_enter Tryd.func32, Tryd.ntmps32
  go_wp2_with fail
  refine (Sum_calls l _ w hr (by omega)).mono ?_
  rintro e w' ⟨rfl, rfl⟩
  obtain ⟨s, hs⟩ : ∃ s, (crc l).toNat = s := ⟨_, rfl⟩
  rw [hs]
  have hr1 := hr.frm ((Frm.refl NoB w).alloc (.cells (madeCells #[.int .u8 0] (l.length + 4)) 5))
  have h4 := lowB_length s 4
  go_wp2_with (first
    | (at_builtin; refine wpList_bytes rfl (.tmp 11) (.tmp 12) rfl w ((Frm.refl NoB w).alloc _) (.slice (some ⟨w.heap.size, 0, none⟩) 0 (l.length + 4)) [] rfl ho1 _ (.slice A l.length c) l rfl hr1 (by simp; omega) ?_; intro v1 w1 ho2 hf2 _; rw [List.nil_append] at ho2; obtain ⟨A1, c1, rfl⟩ := ho2.form; have hlit := BRd.lit w1 (lowB s 4) _ (lit4 s); have ho3 := ho2.frm ((Frm.refl NoB w1).alloc (.cells #[.int .u8 ((s : Int) % 256), .int .u8 ((s : Int) / 256 % 256), .int .u8 ((s : Int) / 65536 % 256), .int .u8 ((s : Int) / 16777216 % 256)] 5)))
    | (at_builtin; refine wpList_bytes rfl (.tmp 13) (.tmp 25) rfl w (hf2.alloc _) (.slice A1 l.length c1) l rfl ho3 _ (.slice (some ⟨w1.heap.size, 0, none⟩) 4 4) (lowB s 4) rfl hlit (by rw [h4]; omega) ?_; intro v2 w2 ho4 hf4 _)
    | fail)
  go_ret
  exact ⟨v2, rfl, by rw [hs]; exact ho4, hf4⟩

/-- A row with its first bytes, k marks, and the rest noughts. -/
def roomTo (l : List UInt8) (x : UInt8) (k : Nat) : List UInt8 := l ++ (List.replicate k x ++ List.replicate (80 - k) 0)
theorem roomTo_length (l : List UInt8) (x : UInt8) (k : Nat) (h : k ≤ 80) : (roomTo l x k).length = l.length + 80 := by simp [roomTo]; omega
theorem roomTo_succ (l : List UInt8) (x : UInt8) (k : Nat) (h : k < 80) : (roomTo l x k).set (l.length + k) x = roomTo l x (k + 1) := by
  unfold roomTo
  rw [List.set_append_right _ _ (by omega), Nat.add_sub_cancel_left, List.set_append_right _ _ (by simp)]
  simp only [List.length_replicate, Nat.sub_self]
  obtain ⟨m, hm⟩ : ∃ m, 80 - k = m + 1 := ⟨80 - k - 1, by omega⟩
  rw [hm, show 80 - (k + 1) = m from by omega, List.replicate_succ, List.set_cons_zero, List.replicate_succ', List.append_assoc]
  rfl
theorem own_row {w0 w : World} {g : Nat} {l : List UInt8} (hb : Blk w g 5 (l.map byt).toArray) (hg : w0.heap.size ≤ g) (hl : l.length ≤ 140737488355328) : BOwn w0 w (.slice (some ⟨g, 0, none⟩) l.length l.length) l := by
  refine ⟨⟨by simp, .inr ⟨g, l.length, _, rfl, Nat.zero_le _, hb, Nat.le_refl _, by simp only [maxLen]; omega, by simp, by rw [List.take_of_length_le (by simp)]⟩⟩, fun g' hg' => by simp [Value.ownBlock] at hg'; subst hg'; exact hg⟩

set_option maxRecDepth 100000 in
theorem Roomy_calls (l : List UInt8) (v : Value) (x : UInt8) (w : World) {F : Nat → Prop} (hr : BRd w F v l) (hl : l.length ≤ 1099511627776) :
    Calls Tryd.prog 10 #[v, .int .u8 (x.toNat : Int)] w fun e w' => ∃ g, e = .returned (.slice (some ⟨g, 0, none⟩) (l.length + 80) (l.length + 80)) ∧ BOwn w w' (.slice (some ⟨g, 0, none⟩) (l.length + 80) (l.length + 80)) (l ++ List.replicate 80 x) ∧ Frm NoB w w' := by
  have hmk : ∀ w : World, (Instr.makeSlice 25 (.int .i64 ((l.length : Int) + 80)) (.int .i64 ((l.length : Int) + 80))).run Tryd.prog w = .ok (.slice (some ⟨w.heap.size, 0, none⟩) (l.length + 80) (l.length + 80)) (w.alloc (.cells (madeCells #[.int .u8 0] (l.length + 80)) 5)) := make_bytes (l.length + 80) (l.length + 80) (by omega) (by omega)
  obtain ⟨i0, hi0, hz0, hz1, hz2⟩ := info_parts Tryd.infoByte
  have hsz : (Tryd.prog.info? 5).map (·.size) = some 1 := by rw [hi0]; simp [hz1]
  have hblk : (w.alloc (.cells (madeCells #[.int .u8 0] (l.length + 80)) 5)).heap[w.heap.size]? = some (.cells (List.replicate (l.length + 80) (.int .u8 0)).toArray 5 (0, 0)) := by
    have hmc : madeCells #[.int .u8 0] (l.length + 80) = (List.replicate (l.length + 80) (.int .u8 0 : Value)).toArray := by
      apply Array.toList_inj.1
      rw [toList_madeCells_one]
    rw [heap_alloc_new w _, hmc]
  obtain ⟨A, c, rfl, hc⟩ := hr.form
  have hr1 := hr.frm ((Frm.refl NoB w).alloc (.cells (madeCells #[.int .u8 0] (l.length + 80)) 5))
  have hn : (l.map byt).length = Nat.min l.length (l.length + 80) := by rw [List.length_map]; exact (Nat.min_eq_left (by omega)).symm
  have hfit : 0 + (l.map byt).length ≤ (List.replicate (l.length + 80) (.int .u8 0 : Value)).length := by simp
  have hpos : 0 < (l.map byt).length → (some ⟨w.heap.size, 0, none⟩ : Option Addr) = some ⟨w.heap.size, 0, none⟩ ∧ ∃ ad, A = some ad ∧ ∀ j v, (l.map byt)[j]? = some v → (w.alloc (.cells (madeCells #[.int .u8 0] (l.length + 80)) 5)).cell? (ad.add j) = some v := by
    intro hp
    obtain ⟨_, A', c', hv, _, h2⟩ := hr1
    injection hv with hA _ hcc
    subst hA hcc
    obtain ⟨b, off, hb, _, _, hx⟩ := h2 (by simpa using hp)
    refine ⟨rfl, _, hb, fun j v hj => ?_⟩
    rw [show (⟨b, off, none⟩ : Addr).add j = ⟨b, off + j, none⟩ by unfold Addr.add; split <;> simp_all]
    exact hx j v hj
  have hspl : splice (List.replicate (l.length + 80) (.int .u8 0 : Value)) 0 (l.map byt) = (roomTo l x 0).map byt := by
    simp [splice, roomTo, byt]
  have hbel : Below w.heap.size w (w.alloc (.cells (madeCells #[.int .u8 0] (l.length + 80)) 5)) := Frm.below ((Frm.refl NoB w).alloc _) (Nat.le_refl _) (fun _ _ h => h)
  clear hi0 hz0 hz1 hz2 hr1
  go_enter Tryd.func10, Tryd.ntmps10
  go_wp2_with (with_reducible refine wpList_copy_splice rfl (.tmp 11) (.tmp 12) 25 25 rfl 5 Tryd.underlying25 hsz (some ⟨w.heap.size, 0, none⟩) A (l.length + 80) (l.length + 80) l.length c rfl rfl w.heap.size 0 (List.replicate (l.length + 80) (.int .u8 0)) 5 hblk (l.map byt) hn hpos hfit (byt_one l) w.heap.size w hbel (Nat.le_refl _) ?_; intro w1 hb1 hbel1)
  have hO1 : BOwn w w1 (.slice (some ⟨w.heap.size, 0, none⟩) (l.length + 80) (l.length + 80)) (roomTo l x 0) := by
    have := own_row (w0 := w) (w := w1) (g := w.heap.size) (l := roomTo l x 0) (hspl ▸ hb1) (Nat.le_refl _) (by rw [roomTo_length l x 0 (by omega)]; omega)
    rw [roomTo_length l x 0 (by omega)] at this
    exact this
  have hF1 : Frm NoB w w1 := Frm.of_below hbel1
  clear hmk hblk hpos hspl hbel hb1 hbel1 hfit hn hr
  go_loopw [6] (fun iv wr => ∃ k : Nat, k ≤ 80 ∧ iv = .int .i64 ((l.length + k : Nat)) ∧ BOwn w wr (.slice (some ⟨w.heap.size, 0, none⟩) (l.length + 80) (l.length + 80)) (roomTo l x k) ∧ Frm NoB w wr) (fun iv _ => l.length + 80 - (intOf iv).toNat)
  case atStart => exact ⟨0, by omega, rfl, hO1, hF1⟩
  case round =>
    obtain ⟨k, hk, rfl, hI, hF⟩ := hrel
    have hlk := roomTo_length l x k hk
    by_cases hlt : k < 80
    · have hI' : Own wr (GeB w) 5 1 (.slice (some ⟨w.heap.size, 0, none⟩) (l.length + 80) (l.length + 80)) (l.length + 80) ((roomTo l x k).map byt) := by
        have := hI
        unfold BOwn at this
        rw [hlk] at this
        exact this
      have hjl : l.length + k < ((roomTo l x k).map byt).length := by rw [List.length_map, hlk]; omega
      have d0 := (hI'.cell (i := l.length + k) (by omega)).trans (List.getElem?_eq_getElem hjl)
      have df := hI'.frozen (l.length + k)
      have hI2 := hI'.set_ (g := w.heap.size) rfl (show l.length + k < l.length + 80 by omega) (byt x)
      rw [← List.map_set, roomTo_succ l x k hlt] at hI2
      have hI3 : BOwn w (wr.setCell ⟨w.heap.size, l.length + k, none⟩ (byt x)) (.slice (some ⟨w.heap.size, 0, none⟩) (l.length + 80) (l.length + 80)) (roomTo l x (k + 1)) := by
        unfold BOwn
        rw [roomTo_length l x (k + 1) (by omega)]
        exact hI2
      have hF2 := hF.setCell (p := ⟨w.heap.size, l.length + k, none⟩) (fun h => absurd h (Nat.lt_irrefl _)) (byt x)
      simp only [byt] at hI3 hF2
      obtain ⟨old, hold⟩ : ∃ old, wr.cell? ⟨w.heap.size, l.length + k, none⟩ = some old := ⟨_, d0⟩
      clear d0 hjl hI hI' hI2 hO1 hF1 hlk
      go_wp2
      refine ⟨⟨k + 1, by omega, ?_, hI3, hF2⟩, by simp only [intOf]; omega⟩
      congr 1
    · obtain rfl : k = 80 := by omega
      have e : roomTo l x 80 = l ++ List.replicate 80 x := by simp [roomTo]
      rw [e] at hI
      go_wp2
      go_ret
      exact ⟨_, rfl, hI, hF⟩

set_option maxRecDepth 100000 in
theorem Intact_calls (l : List UInt8) (v : Value) (x : UInt8) (A : Option Addr) (c : Nat) (w : World) {F G : Nat → Prop} (hf : BRd w F (.slice A (l.length + 80) c) (l ++ List.replicate 80 x)) (hr : BRd w G v l) (hl : l.length ≤ 1099511627776) :
    Calls Tryd.prog 17 #[.slice A (l.length + 80) c, v, .int .u8 (x.toNat : Int)] w fun e w' => e = .returned (.bool true) ∧ Frm NoB w w' := by
  obtain ⟨B, d, rfl, hd⟩ := hr.form
  have hc : l.length + 80 ≤ c := by
    obtain ⟨_, _, h1, h2⟩ := hf.form
    injection h1 with _ _ h1
    rw [List.length_append, List.length_replicate] at h2
    omega
  have hq : (((l.length : Int) + 80) != ((l.length : Int) + 80)) = false := by simp
  have ht := hf.take l.length (by rw [List.length_append]; omega)
  rw [List.take_left] at ht
  go_enter Tryd.func17, Tryd.ntmps17
  go_wp2_with fail
  refine (Same_calls _ _ l l w ht hr (by omega)).mono ?_
  rintro e w1 ⟨rfl, hf1⟩
  simp only [decide_true]
  have hf2 := hf.frm hf1
  clear ht hf hr
  go_wp2_with fail
  go_loopw [7] (fun iv wr => ∃ k : Nat, k ≤ 80 ∧ iv = .int .i64 ((l.length + k : Nat)) ∧ wr = w1) (fun iv _ => l.length + 80 - (intOf iv).toNat)
  case atStart => exact ⟨0, by omega, rfl, rfl⟩
  case round =>
    obtain ⟨k, hk, rfl, rfl⟩ := hrel
    by_cases hlt : k < 80
    · have hj : l.length + k < (l ++ List.replicate 80 x).length := by simp; omega
      obtain ⟨b, off, c', hv, _, _, _, hcell⟩ := Rd.byteAt hf2 hj
      injection hv with hA hB hcc
      have hx : (l ++ List.replicate 80 x)[l.length + k] = x := by rw [List.getElem_append_right (by omega), List.getElem_replicate]
      rw [hx] at hcell
      subst hA hcc
      clear hf2 hx hj hB
      have hq2 : ((x.toNat : Int) != (x.toNat : Int)) = false := by simp
      go_wp2
      exact ⟨⟨k + 1, by omega, by congr 1, by first | rfl | trivial⟩, by simp only [intOf]; omega⟩
    · obtain rfl : k = 80 := by omega
      go_wp2
      go_ret
      exact ⟨rfl, hf1⟩
end Go.Proofs.YtablmgnhpciljaaDoor
