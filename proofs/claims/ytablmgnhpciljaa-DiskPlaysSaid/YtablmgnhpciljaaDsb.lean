/- sheaflaw4.DiskRuns: chapter 4's runs. -/
import Derived.Test.YtablmgnhpciljaaDsa
namespace Go.Proofs.Ytablmgnhpciljaa
open Go.RowKit

/-- A disk of the call's own, in blocks S made since w. -/
structure Lone (w W : World) (p : Nat) (S : Nat → Prop) (D : ADisk) : Prop where
  at_ : DiskAt W p S S D
  low : ∀ b, S b → w.heap.size ≤ b
  high : ∀ b, S b → b < W.heap.size
  frm : Frm NoB w W

section
variable {w W W' : World} {p : Nat} {S : Nat → Prop} {D : ADisk}
theorem Lone.frm' (h : Lone w W p S D) (hf : Frm NoB W W') : Lone w W' p S D :=
  ⟨h.at_.frm hf (fun _ _ _ h => h), h.low, fun b hb => Nat.lt_of_lt_of_le (h.high b hb) hf.size, h.frm.trans hf (fun _ _ h => h)⟩
theorem Lone.grown {W1 : World} (h : Lone w W p S D) (hf1 : Frm NoB W W1) {D' : ADisk} (hd : DiskAt W' p (OrB S (NewB W1 W')) (OrB S (NewB W1 W')) D') (hf : Frm S W1 W') : Lone w W' p (OrB S (NewB W1 W')) D' := by
  have hs : W.heap.size ≤ W1.heap.size := hf1.size
  have hw : w.heap.size ≤ W.heap.size := h.frm.size
  refine ⟨hd, fun b hb => ?_, fun b hb => ?_, (h.frm.trans hf1 (fun _ _ h => h)).trans hf (fun i hi hx => absurd (h.low i hx) (Nat.not_le_of_lt hi))⟩
  · rcases hb with hb | hb
    · exact h.low b hb
    · have := hb.1; omega
  · rcases hb with hb | hb
    · exact Nat.lt_of_lt_of_le (h.high b hb) (Nat.le_trans hs hf.size)
    · exact hb.2

theorem Lone_write (h : Lone w W p S D) {W1 : World} (hf1 : Frm NoB W W1) (i : Int) (v : Value) (n : Nat) (l : List Value) (hr : Rd W1 (NewB W W1) 1 v n l) (hb : ∀ u ∈ l, isByte u) (hlen : D.waits.length ≤ 1099511627776) :
    Calls Try.prog 7 #[.pointer (some ⟨p, 0, none⟩), .int .i64 i, v] W1 fun e W' => e = .returned (.int .i64 (D.write i l).2) ∧ Lone w W' p (OrB S (NewB W1 W')) (D.write i l).1 ∧ Frm S W1 W' := by
  refine (Disk_Write (h.at_.frm hf1 (fun _ _ _ h => h)) i v n l hr hb (fun b _ h1 h2 => by have := h1.1; have := h.high b h2; omega) hlen).mono ?_
  rintro e W' ⟨rfl, h1, h2⟩
  exact ⟨rfl, h.grown hf1 h1 h2, h2⟩
theorem Lone_boot (h : Lone w W p S D) {W1 : World} (hf1 : Frm NoB W W1) (v : Value) (how : List UInt8) (hr : Rd W1 (NewB W W1) 1 v how.length (how.map byt)) (hlen : D.waits.length ≤ 1099511627776) :
    Calls Try.prog 11 #[.pointer (some ⟨p, 0, none⟩), v] W1 fun e W' => e = .returned (.tuple #[]) ∧ Lone w W' p (OrB S (NewB W1 W')) (D.boot how) ∧ Frm S W1 W' := by
  refine (Disk_Boot (h.at_.frm hf1 (fun _ _ _ h => h)) v how hr (fun b _ h1 h2 => by have := h1.1; have := h.high b h2; omega) hlen).mono ?_
  rintro e W' ⟨rfl, h1, h2⟩
  exact ⟨rfl, h.grown hf1 (h1.mono (fun _ _ h => .inl h) (fun _ _ h => .inl h)) h2, h2⟩
theorem Lone_flush (h : Lone w W p S D) (hlen : D.waits.length ≤ 1099511627776) :
    Calls Try.prog 9 #[.pointer (some ⟨p, 0, none⟩)] W fun e W' => e = .returned (.int .i64 D.flush.2) ∧ Lone w W' p (OrB S (NewB W W')) D.flush.1 ∧ Frm S W W' := by
  refine (Disk_Flush h.at_ hlen).mono ?_
  rintro e W' ⟨rfl, h1, h2⟩
  exact ⟨rfl, h.grown (Frm.refl _ _) (h1.mono (fun _ _ h => .inl h) (fun _ _ h => .inl h)) h2, h2⟩
theorem Lone_read (h : Lone w W p S D) (i : Int) (hlen : D.waits.length ≤ 1099511627776) :
    Calls Try.prog 21 #[.pointer (some ⟨p, 0, none⟩), .int .i64 i] W fun e W' => ReadPost W (D.read i) e W' ∧ Lone w W' p S D := by
  refine (Disk_Read h.at_ i hlen).mono ?_
  rintro e W' hp
  obtain ⟨v, _, _, hf⟩ := id hp
  exact ⟨hp, h.frm' hf⟩
theorem Lone_new (n : Nat) (h1 : 1 ≤ n) (h2 : n ≤ 512) : Calls Try.prog 4 #[.int .i64 (n : Nat)] w fun e W' => ∃ p, e = .returned (.pointer (some ⟨p, 0, none⟩)) ∧ Lone w W' p (NewB w W') (ADisk.new n) := by
  refine (Disk_New n h1 h2).mono ?_
  rintro e W' ⟨p, rfl, h1, h2⟩
  exact ⟨p, rfl, h1, fun _ h => h.1, fun _ h => h.2, h2⟩
end

/-! The runs, as data. -/
def runL : List Value := (fillB 9).map byt
def run0 : ADisk := ADisk.new 2
def run1 : ADisk := { blocks := [some zeroBlock, some zeroBlock], waits := [(0, runL)], fuse := -1, off := false, wrote := 1 }
def run2 : ADisk := { blocks := [some zeroBlock, some zeroBlock], waits := [], fuse := -1, off := false, wrote := 1 }
def run3 : ADisk := { blocks := [some zeroBlock, some zeroBlock], waits := [(0, runL)], fuse := -1, off := false, wrote := 2 }
def run4 : ADisk := { blocks := [none, some zeroBlock], waits := [], fuse := -1, off := false, wrote := 2 }
def run5 : ADisk := { blocks := [none, some zeroBlock], waits := [(0, runL)], fuse := -1, off := false, wrote := 3 }
def run6 : ADisk := { blocks := [some runL, some zeroBlock], waits := [], fuse := -1, off := false, wrote := 3 }
theorem runL_length : runL.length = 128 := by simp [runL, fillB]
theorem run01 : run0.write 0 runL = (run1, 0) := by
  unfold ADisk.write
  rw [if_pos ⟨by decide, by simp [run0, ADisk.new], runL_length⟩, if_pos (by rfl)]
  simp [run0, run1, ADisk.new, ADisk.goes, wrap64, List.replicate]
theorem run12 : run1.boot [0] = run2 := rfl
theorem run23 : run2.write 0 runL = (run3, 0) := by
  unfold ADisk.write
  rw [if_pos ⟨by decide, by simp [run2], runL_length⟩, if_pos (by rfl)]
  simp [run2, run3, ADisk.goes, wrap64]
theorem run34 : run3.boot [2] = run4 := rfl
theorem run45 : run4.write 0 runL = (run5, 0) := by
  unfold ADisk.write
  rw [if_pos ⟨by decide, by simp [run4], runL_length⟩, if_pos (by rfl)]
  simp [run4, run5, ADisk.goes, wrap64]
theorem run56 : run5.flush = (run6, 0) := by simp [ADisk.flush, ADisk.flushed, ADisk.can, ADisk.goes, landTo, run5, run6]
theorem run66 : run6.boot [] = run6 := rfl
theorem read2 : run2.read 0 = some ((fillB 0).map byt) := by simp [ADisk.read, run2, zeroBlock, fillB, byt]
theorem read4 : run4.read 0 = none := by simp [ADisk.read, run4]
theorem read6 : run6.read 0 = some ((fillB 9).map byt) := by simp [ADisk.read, run6, runL]

theorem run_len : run0.waits.length ≤ 1099511627776 ∧ run1.waits.length ≤ 1099511627776 ∧ run2.waits.length ≤ 1099511627776 ∧ run3.waits.length ≤ 1099511627776 ∧ run4.waits.length ≤ 1099511627776 ∧ run5.waits.length ≤ 1099511627776 ∧ run6.waits.length ≤ 1099511627776 := by
  simp [run0, run1, run2, run3, run4, run5, run6, ADisk.new]

set_option maxRecDepth 100000 in
set_option maxHeartbeats 2000000 in
theorem DiskRuns_calls (w : World) : Calls Try.prog 24 #[] w fun e w' => e = .returned (.bool true) ∧ Frm NoB w w' := by
  obtain ⟨l0, l1, l2, l3, l4, l5, l6⟩ := run_len
  have hnil : ∀ (p : Nat) (w : World), (binOp .eql 23 (.pointer (some ⟨p, 0, none⟩)) (.pointer none)).run Try.prog w = .ok (.bool false) w := fun _ _ => rfl
  have hby : ∀ u ∈ runL, isByte u := fun u hu => (fillB_is 9).2 u hu
  go_enter Try.func24, Try.ntmps24
  go_wp2_with fail
  refine (Lone_new (w := w) 2 (by omega) (by omega)).mono ?_
  rintro e w0 ⟨p, rfl, h0⟩
  go_wp2_with fail
  refine (fill_calls 9 w0).mono ?_
  rintro e w1 ⟨g1, rfl, o1, f1⟩
  go_wp2_with fail
  refine (Lone_write (D := run0) h0 f1 0 _ 128 runL o1.rd hby l0).mono ?_
  rw [run01]
  rintro e w2 ⟨rfl, h2, -⟩
  have fa := (Frm.refl NoB w2).alloc (.cells #[.int .u8 0] 5)
  have ra : Rd (w2.alloc (.cells #[.int .u8 0] 5)) (NewB w2 (w2.alloc (.cells #[.int .u8 0] 5))) 1 (.slice (some ⟨w2.heap.size, 0, none⟩) 1 1) ([0] : List UInt8).length (([0] : List UInt8).map byt) := rd_lit w2 5 1 1 #[.int .u8 0] rfl
  go_wp2_with fail
  refine (Lone_boot h2 fa _ [0] ra l1).mono ?_
  rw [run12]
  rintro e w3 ⟨rfl, h3, -⟩
  clear fa ra
  go_wp2_with fail
  refine (Lone_read h3 0 l2).mono ?_
  rw [read2]
  rintro e w4 ⟨⟨va, rfl, ⟨oa, _⟩, f4⟩, h4⟩
  simp only [Option.isSome_some]
  go_wp2_with fail
  refine (fill_calls 9 w4).mono ?_
  rintro e w5 ⟨g5, rfl, o5, f5⟩
  go_wp2_with fail
  refine (Lone_write (D := run2) h4 f5 0 _ 128 runL o5.rd hby l2).mono ?_
  rw [run23]
  rintro e w6 ⟨rfl, h6, f6⟩
  have fa := (Frm.refl NoB w6).alloc (.cells #[.int .u8 2] 5)
  have ra : Rd (w6.alloc (.cells #[.int .u8 2] 5)) (NewB w6 (w6.alloc (.cells #[.int .u8 2] 5))) 1 (.slice (some ⟨w6.heap.size, 0, none⟩) 1 1) ([2] : List UInt8).length (([2] : List UInt8).map byt) := rd_lit w6 5 1 1 #[.int .u8 2] rfl
  go_wp2_with fail
  refine (Lone_boot h6 fa _ [2] ra l3).mono ?_
  rw [run34]
  rintro e w7 ⟨rfl, h7, f7⟩
  clear ra
  go_wp2_with fail
  refine (Lone_read h7 0 l4).mono ?_
  rw [read4]
  rintro e w8 ⟨⟨vy, rfl, rfl, f8⟩, h8⟩
  simp only [Option.isSome_none]
  go_wp2_with fail
  refine (fill_calls 9 w8).mono ?_
  rintro e w9 ⟨g9, rfl, o9, f9⟩
  go_wp2_with fail
  refine (Lone_write (D := run4) h8 f9 0 _ 128 runL o9.rd hby l4).mono ?_
  rw [run45]
  rintro e w10 ⟨rfl, h10, f10⟩
  go_wp2_with fail
  refine (Lone_flush h10 l5).mono ?_
  rw [run56]
  rintro e w11 ⟨rfl, h11, f11⟩
  have ra : Rd w11 (NewB w11 w11) 1 (.slice none 0 0) ([] : List UInt8).length (([] : List UInt8).map byt) := ⟨rfl, none, 0, rfl, Nat.le_refl _, fun h => absurd h (by simp)⟩
  go_wp2_with fail
  refine (Lone_boot h11 (Frm.refl _ _) _ [] ra l6).mono ?_
  rw [run66]
  rintro e w12 ⟨rfl, h12, f12⟩
  clear ra
  go_wp2_with fail
  refine (Lone_read h12 0 l6).mono ?_
  rw [read6]
  rintro e w13 ⟨⟨vb, rfl, ⟨ob, _⟩, f13⟩, h13⟩
  simp only [Option.isSome_some]
  have z5 := f5.size
  have z6 := f6.size
  have z7 := f7.size
  have z8 := f8.size
  have z9 := f9.size
  have zA := fa.size
  have ra : Rd w13 (NewB w3 w4) 1 va 128 ((fillB 0).map byt) := by
    have y4 : Rd w4 (NewB w3 w4) 1 va 128 ((fillB 0).map byt) := oa.rd
    have y5 := y4.frm f5 (fun _ _ _ h => h)
    have y6 := y5.frm f6 (fun b h1 _ h2 => by have := h1.1; have := h3.high b h2; omega)
    have y6a := y6.frm fa (fun _ _ _ h => h)
    have y7 := y6a.frm f7 (fun b h1 _ h2 => by
      rcases h2 with h2 | h2
      · have := h1.1; have := h3.high b h2; omega
      · have := h1.2; have := h2.1; omega)
    have y8 := y7.frm f8 (fun _ _ _ h => h)
    have y9 := y8.frm f9 (fun _ _ _ h => h)
    have y10 := y9.frm f10 (fun b h1 _ h2 => by
      rcases h2 with (h2 | h2) | h2
      · have := h1.1; have := h3.high b h2; omega
      · have := h1.2; have := h2.1; omega
      · have := h1.2; have := h2.1; omega)
    have z10 := f10.size
    have y11 := y10.frm f11 (fun b h1 _ h2 => by
      rcases h2 with ((h2 | h2) | h2) | h2
      · have := h1.1; have := h3.high b h2; omega
      · have := h1.2; have := h2.1; omega
      · have := h1.2; have := h2.1; omega
      · have := h1.2; have := h2.1; omega)
    have z11 := f11.size
    have y12 := y11.frm f12 (fun b h1 _ h2 => by
      rcases h2 with (((h2 | h2) | h2) | h2) | h2
      · have := h1.1; have := h3.high b h2; omega
      · have := h1.2; have := h2.1; omega
      · have := h1.2; have := h2.1; omega
      · have := h1.2; have := h2.1; omega
      · have := h1.2; have := h2.1; omega)
    exact y12.frm f13 (fun _ _ _ h => h)
  clear h0 f1 o1 h2 h3 f4 h4 f5 o5 h6 f6 fa h7 f7 f8 h8 o9 f9 h10 f10 h11 f11 h12 f12 oa
  have rb := ob.rd
  clear ob
  go_wp2_with fail
  refine (fill_calls 0 w13).mono ?_
  rintro e w14 ⟨g14, rfl, o14, f14⟩
  go_wp2_with fail
  refine (Same_calls _ _ (fillB 0) (fillB 0) w14 (ra.frm f14 (fun _ _ _ h => h)) o14.rd (by simp [fillB])).mono ?_
  rintro e w15 ⟨rfl, f15⟩
  simp only [decide_true]
  go_wp2_with fail
  refine (fill_calls 9 w15).mono ?_
  rintro e w16 ⟨g16, rfl, o16, f16⟩
  go_wp2_with fail
  refine (Same_calls _ _ (fillB 9) (fillB 9) w16 (((rb.frm f14 (fun _ _ _ h => h)).frm f15 (fun _ _ _ h => h)).frm f16 (fun _ _ _ h => h)) o16.rd (by simp [fillB])).mono ?_
  rintro e w17 ⟨rfl, f17⟩
  simp only [decide_true]
  have h17 := (((h13.frm' f14).frm' f15).frm' f16).frm' f17
  go_wp2_with fail
  refine (Disk_Wrote h17.at_).mono ?_
  rintro e w' ⟨rfl, rfl⟩
  have h3 : run6.wrote = 3 := rfl
  rw [h3]
  go_wp2
  go_ret
  exact ⟨rfl, h17.frm⟩
end Go.Proofs.Ytablmgnhpciljaa
