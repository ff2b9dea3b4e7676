/- Two disks at once: the program's and the reference's. -/
import Derived.Test.YtablmgnhpciljaaDsb
import Derived.Deep.DeepCutAuto
import Derived.Deep.CutBlock
namespace Go.Proofs.Ytablmgnhpciljaa
open Go.RowKit

/-- The program's disk at d, the reference's at r, both of the data D, apart from each other, all made since w. -/
structure Duo (w W : World) (d r : Nat) (D : ADisk) (S F T : Nat → Prop) : Prop where
  dk : DiskAt W d S F D
  rf : RefAt W r T T D
  lowS : ∀ b, S b ∨ F b → w.heap.size ≤ b
  lowT : ∀ b, T b → w.heap.size ≤ b
  highS : ∀ b, S b ∨ F b → b < W.heap.size
  highT : ∀ b, T b → b < W.heap.size
  apart : ∀ b, S b ∨ F b → ¬ T b
  frm : Frm NoB w W

/-- A call in the loop's list. -/
structure AskV where
  kind : Int
  i : Int
  at_ : Int
  n : Int
  x : UInt8
  by_ : UInt32
  how : List UInt8
  hv : Value
  short : Bool
def AskV.cells (q : AskV) : Array Value := #[.int .i64 q.kind, .int .i64 q.i, .int .i64 q.at_, .int .i64 q.n, .int .u8 (q.x.toNat : Int), .int .u32 (q.by_.toNat : Int), q.hv, .bool q.short]
structure AskV.ok (w : World) (q : AskV) : Prop where
  kind : -9223372036854775808 ≤ q.kind ∧ q.kind ≤ 9223372036854775807
  n : -9223372036854775808 ≤ q.n ∧ q.n ≤ 9223372036854775807
  how : Rd w (fun b => b < w.heap.size) 1 q.hv q.how.length (q.how.map byt)
def Asks (w : World) (A : Option Addr) (m : Nat) : Prop :=
  0 < m → ∃ b off, A = some ⟨b, off, none⟩ ∧ b < w.heap.size ∧ ∀ k, k < m → ∃ q : AskV, q.ok w ∧ ∀ j v, q.cells[j]? = some v → w.cell? ⟨b, off + k * 8 + j, none⟩ = some v

section
variable {w W W' : World} {d r : Nat} {D : ADisk} {S F T : Nat → Prop}
theorem Duo.frm' (h : Duo w W d r D S F T) (hf : Frm NoB W W') : Duo w W' d r D S F T :=
  ⟨h.dk.frm hf (fun _ _ _ h => h), h.rf.frm hf (fun _ _ _ h => h), h.lowS, h.lowT, fun b hb => Nat.lt_of_lt_of_le (h.highS b hb) hf.size, fun b hb => Nat.lt_of_lt_of_le (h.highT b hb) hf.size, h.apart, h.frm.trans hf (fun _ _ h => h)⟩
/-- The program's disk has been turned. -/
theorem Duo.left (h : Duo w W d r D S F T) {D' : ADisk} (hd : DiskAt W' d (OrB S (NewB W W')) (OrB F (NewB W W')) D') (hf : Frm S W W') :
    DiskAt W' d (OrB S (NewB W W')) (OrB F (NewB W W')) D' ∧ RefAt W' r T T D ∧ (∀ b, OrB S (NewB W W') b ∨ OrB F (NewB W W') b → w.heap.size ≤ b) ∧ (∀ b, OrB S (NewB W W') b ∨ OrB F (NewB W W') b → b < W'.heap.size) ∧ (∀ b, T b → b < W'.heap.size) ∧
      (∀ b, OrB S (NewB W W') b ∨ OrB F (NewB W W') b → ¬ T b) ∧ Frm NoB w W' := by
  have hs := hf.size
  have hw := h.frm.size
  refine ⟨hd, h.rf.frm hf (fun b hl hb hS => ?_), ?_, ?_, fun b hb => Nat.lt_of_lt_of_le (h.highT b hb) hs, ?_, h.frm.trans hf (fun i hi hx => absurd (h.lowS i (.inl hx)) (Nat.not_le_of_lt hi))⟩
  · exact h.apart b (.inl hS) (by rcases hb with hb | hb <;> exact hb)
  · rintro b ((hb | hb) | (hb | hb))
    · exact h.lowS b (.inl hb)
    · have := hb.1; omega
    · exact h.lowS b (.inr hb)
    · have := hb.1; omega
  · rintro b ((hb | hb) | (hb | hb))
    · exact Nat.lt_of_lt_of_le (h.highS b (.inl hb)) hs
    · exact hb.2
    · exact Nat.lt_of_lt_of_le (h.highS b (.inr hb)) hs
    · exact hb.2
  · rintro b ((hb | hb) | (hb | hb)) hT
    · exact h.apart b (.inl hb) hT
    · have := hb.1; have := h.highT b hT; omega
    · exact h.apart b (.inr hb) hT
    · have := hb.1; have := h.highT b hT; omega
end

/-- Half a step: the program's disk is ahead of the reference's. -/
structure Half (w W : World) (d r : Nat) (D' D : ADisk) (S F T : Nat → Prop) : Prop where
  dk : DiskAt W d S F D'
  rf : RefAt W r T T D
  lowS : ∀ b, S b ∨ F b → w.heap.size ≤ b
  lowT : ∀ b, T b → w.heap.size ≤ b
  highS : ∀ b, S b ∨ F b → b < W.heap.size
  highT : ∀ b, T b → b < W.heap.size
  apart : ∀ b, S b ∨ F b → ¬ T b
  frm : Frm NoB w W
section
variable {w W W' : World} {d r : Nat} {D D' : ADisk} {S F T : Nat → Prop}
theorem Duo.half (h : Duo w W d r D S F T) (hd : DiskAt W' d (OrB S (NewB W W')) (OrB F (NewB W W')) D') (hf : Frm S W W') : Half w W' d r D' D (OrB S (NewB W W')) (OrB F (NewB W W')) T := by
  obtain ⟨a1, a2, a3, a4, a5, a6, a7⟩ := h.left hd hf
  exact ⟨a1, a2, a3, h.lowT, a4, a5, a6, a7⟩
theorem Half.frm' (h : Half w W d r D' D S F T) (hf : Frm NoB W W') : Half w W' d r D' D S F T :=
  ⟨h.dk.frm hf (fun _ _ _ h => h), h.rf.frm hf (fun _ _ _ h => h), h.lowS, h.lowT, fun b hb => Nat.lt_of_lt_of_le (h.highS b hb) hf.size, fun b hb => Nat.lt_of_lt_of_le (h.highT b hb) hf.size, h.apart, h.frm.trans hf (fun _ _ h => h)⟩
/-- The reference's disk has followed. -/
theorem Half.whole (h : Half w W d r D' D S F T) (hr : RefAt W' r (OrB T (NewB W W')) (OrB T (NewB W W')) D') (hf : Frm T W W') : Duo w W' d r D' S F (OrB T (NewB W W')) := by
  have hs := hf.size
  have hw := h.frm.size
  refine ⟨h.dk.frm hf (fun b _ hb hT => h.apart b hb hT), hr, h.lowS, ?_, fun b hb => Nat.lt_of_lt_of_le (h.highS b hb) hs, ?_, ?_, h.frm.trans hf (fun i hi hx => absurd (h.lowT i hx) (Nat.not_le_of_lt hi))⟩
  · rintro b (hb | hb)
    · exact h.lowT b hb
    · have := hb.1; omega
  · rintro b (hb | hb)
    · exact Nat.lt_of_lt_of_le (h.highT b hb) hs
    · exact hb.2
  · rintro b hb (hT | hT)
    · exact h.apart b hb hT
    · have := hT.1; have := h.highS b hb; omega
end

/-! The lengths that a walk wants. -/
theorem write_waits (D : ADisk) (i : Int) (l : List Value) : (D.write i l).1.waits.length ≤ D.waits.length + 1 := by
  unfold ADisk.write; split <;> (try split) <;> simp [ADisk.goes_waits]
theorem write_blocks (D : ADisk) (i : Int) (l : List Value) : (D.write i l).1.blocks.length = D.blocks.length := by
  unfold ADisk.write; split <;> (try split) <;> simp [ADisk.goes_blocks]
theorem flush_waits (D : ADisk) : D.flush.1.waits.length ≤ D.waits.length := by
  unfold ADisk.flush; split <;> simp [ADisk.flushed, ADisk.goes_waits]
theorem flush_blocks (D : ADisk) : D.flush.1.blocks.length = D.blocks.length := by
  unfold ADisk.flush; split <;> simp [ADisk.flushed, ADisk.goes_blocks, landTo_length]
theorem boot_blocks (D : ADisk) (how : List UInt8) : (D.boot how).blocks.length = D.blocks.length := by
  have := bootTo_length D.waits how (D.waits.zip how).length D.blocks
  rw [bootTo_all _ _ _ (Nat.le_refl _)] at this
  exact this
theorem burst_waits (D : ADisk) (i a : Int) (x : UInt32) : (D.burst i a x).1.waits = D.waits := by unfold ADisk.burst; split <;> rfl
theorem burst_blocks (D : ADisk) (i a : Int) (x : UInt32) : (D.burst i a x).1.blocks.length = D.blocks.length := by unfold ADisk.burst; split <;> simp


/-! Blocks of bytes lie apart from the disk's own. -/
def U8 (w : World) (b : Nat) : Prop := ∃ cs, w.heap[b]? = some (.cells cs 5 (0, 0))
section
variable {w W W' : World} {d r : Nat} {D D' : ADisk} {S F T G : Nat → Prop}
theorem BlockIs.tight {v : Value} {o : Option (List Value)} (h : BlockIs w F v o) : BlockIs w (fun b => F b ∧ U8 w b) v o := by
  cases o with
  | none => exact h
  | some l => exact ⟨⟨h.1.1, fun g hg => ⟨h.1.2 g hg, h.1.type hg⟩⟩, h.2⟩
theorem Own.tight {e sz n : Nat} {v : Value} {xs : List Value} (h : Own w F e sz v n xs) (he : e ≠ 5) : Own w (fun b => F b ∧ ¬ U8 w b) e sz v n xs :=
  ⟨h.1, fun g hg => ⟨h.2 g hg, fun ⟨cs, hc⟩ => h.ne hc he hg rfl⟩⟩
theorem DiskAt.tight (h : DiskAt w d S F D) : DiskAt w d (fun b => S b ∧ ¬ U8 w b) (fun b => F b ∧ U8 w b) D := by
  obtain ⟨bv, wv, bs, ws, h⟩ := h
  refine ⟨bv, wv, bs, ws, h.blk, ⟨h.own, fun ⟨cs, hc⟩ => type_ne hc h.blk (by decide) rfl⟩, h.bl.tight (by decide), h.wt.tight (by decide), fun i hi => ?_, fun i hi => ?_, h.ok⟩
  · obtain ⟨v, e, hv⟩ := h.bls i hi
    exact ⟨v, e, hv.tight⟩
  · obtain ⟨e0, v, e, hv⟩ := h.wts i hi
    exact ⟨e0, v, e, hv.tight⟩

/-! The two disks, call by call. -/
theorem Duo.halfS (h : Duo w W d r D S F T) (hd : DiskAt W' d S F D') (hf : Frm S W W') : Half w W' d r D' D (OrB S (NewB W W')) (OrB F (NewB W W')) T :=
  h.half (hd.mono (fun _ _ h => .inl h) (fun _ _ h => .inl h)) hf
theorem Half.wholeS (h : Half w W d r D' D S F T) (hr : RefAt W' r T (OrB T (NewB W W')) D') (hf : Frm T W W') : Duo w W' d r D' S F (OrB T (NewB W W')) :=
  h.whole (hr.mono (fun _ _ h => .inl h) (fun _ _ h => h)) hf

theorem Duo_Write (h : Duo w W d r D S F T) (i : Int) (v : Value) (n : Nat) (l : List Value) (hr : Rd W G 1 v n l) (hb : ∀ u ∈ l, isByte u) (hd : ∀ b, b < W.heap.size → G b → ¬ S b) (hlen : D.waits.length ≤ 1099511627776) :
    Calls Try.prog 7 #[.pointer (some ⟨d, 0, none⟩), .int .i64 i, v] W fun e W' =>
      e = .returned (.int .i64 (D.write i l).2) ∧ Half w W' d r (D.write i l).1 D (OrB S (NewB W W')) (OrB F (NewB W W')) T ∧ Frm S W W' :=
  (Disk_Write h.dk i v n l hr hb hd hlen).mono fun _ _ ⟨e, hd, hf⟩ => ⟨e, h.half hd hf, hf⟩
theorem Half_Write {i : Int} {l : List Value} (h : Half w W d r (D.write i l).1 D S F T) (v : Value) (n : Nat) (hr : Rd W G 1 v n l) (hb : ∀ u ∈ l, isByte u) (hd : ∀ b, b < W.heap.size → G b → ¬ T b) (hlen : D.waits.length ≤ 1099511627776) :
    Calls Try.prog 8 #[.pointer (some ⟨r, 0, none⟩), .int .i64 i, v] W fun e W' =>
      e = .returned (.int .i64 (D.write i l).2) ∧ Duo w W' d r (D.write i l).1 S F (OrB T (NewB W W')) ∧ Frm T W W' :=
  (Ref_Write h.rf i v n l hr hb hd hlen).mono fun _ _ ⟨e, hd, hf⟩ => ⟨e, h.whole hd hf, hf⟩

theorem Duo_Flush (h : Duo w W d r D S F T) (hlen : D.waits.length ≤ 1099511627776) :
    Calls Try.prog 9 #[.pointer (some ⟨d, 0, none⟩)] W fun e W' =>
      e = .returned (.int .i64 D.flush.2) ∧ Half w W' d r D.flush.1 D (OrB S (NewB W W')) (OrB F (NewB W W')) T ∧ Frm S W W' :=
  (Disk_Flush h.dk hlen).mono fun _ _ ⟨e, hd, hf⟩ => ⟨e, h.halfS hd hf, hf⟩
theorem Half_Flush (h : Half w W d r D.flush.1 D S F T) (hlen : D.waits.length ≤ 1099511627776) :
    Calls Try.prog 10 #[.pointer (some ⟨r, 0, none⟩)] W fun e W' =>
      e = .returned (.int .i64 D.flush.2) ∧ Duo w W' d r D.flush.1 S F (OrB T (NewB W W')) ∧ Frm T W W' :=
  (Ref_Flush h.rf hlen).mono fun _ _ ⟨e, hd, hf⟩ => ⟨e, h.wholeS hd hf, hf⟩

theorem Duo_Boot (h : Duo w W d r D S F T) (v : Value) (how : List UInt8) (hr : Rd W G 1 v how.length (how.map byt)) (hd : ∀ b, b < W.heap.size → G b → ¬ S b) (hlen : D.waits.length ≤ 1099511627776) :
    Calls Try.prog 11 #[.pointer (some ⟨d, 0, none⟩), v] W fun e W' =>
      e = .returned (.tuple #[]) ∧ Half w W' d r (D.boot how) D (OrB S (NewB W W')) (OrB F (NewB W W')) T ∧ Frm S W W' :=
  (Disk_Boot h.dk v how hr hd hlen).mono fun _ _ ⟨e, hd, hf⟩ => ⟨e, h.halfS hd hf, hf⟩
theorem Half_Boot {how : List UInt8} (h : Half w W d r (D.boot how) D S F T) (v : Value) (hr : Rd W G 1 v how.length (how.map byt)) (hd : ∀ b, b < W.heap.size → G b → ¬ T b) (hlen : D.waits.length ≤ 1099511627776) :
    Calls Try.prog 12 #[.pointer (some ⟨r, 0, none⟩), v] W fun e W' =>
      e = .returned (.tuple #[]) ∧ Duo w W' d r (D.boot how) S F (OrB T (NewB W W')) ∧ Frm T W W' :=
  (Ref_Boot h.rf v how hr hd hlen).mono fun _ _ ⟨e, hd, hf⟩ => ⟨e, h.wholeS hd hf, hf⟩

theorem Duo_Burst (h : Duo w W d r D S F T) (i at_ : Int) (x : UInt32) (hlen : D.waits.length ≤ 1099511627776) :
    Calls Try.prog 14 #[.pointer (some ⟨d, 0, none⟩), .int .i64 i, .int .i64 at_, .int .u32 (x.toNat : Int)] W fun e W' =>
      e = .returned (.bool (D.burst i at_ x).2) ∧ Half w W' d r (D.burst i at_ x).1 D (OrB S (NewB W W')) (OrB F (NewB W W')) T ∧ Frm S W W' :=
  (Disk_Burst h.dk i at_ x hlen).mono fun _ _ ⟨e, hd, hf⟩ => ⟨e, h.half (hd.mono (fun _ _ h => .inl h) (fun _ _ h => h)) hf, hf⟩
theorem Half_Burst {i at_ : Int} {x : UInt32} (h : Half w W d r (D.burst i at_ x).1 D S F T) (hlen : D.waits.length ≤ 1099511627776) :
    Calls Try.prog 15 #[.pointer (some ⟨r, 0, none⟩), .int .i64 i, .int .i64 at_, .int .u32 (x.toNat : Int)] W fun e W' =>
      e = .returned (.bool (D.burst i at_ x).2) ∧ Duo w W' d r (D.burst i at_ x).1 S F (OrB T (NewB W W')) ∧ Frm T W W' :=
  (Ref_Burst h.rf i at_ x hlen).mono fun _ _ ⟨e, hd, hf⟩ => ⟨e, h.wholeS hd hf, hf⟩

theorem Duo_Arm (h : Duo w W d r D S F T) (n : Int) (hn : -9223372036854775808 ≤ n) (hn' : n ≤ 9223372036854775807) :
    Calls Try.prog 13 #[.pointer (some ⟨d, 0, none⟩), .int .i64 n] W fun e W' =>
      e = .returned (.tuple #[]) ∧ Half w W' d r (D.arm n) D (OrB S (NewB W W')) (OrB F (NewB W W')) T ∧ Frm S W W' :=
  (Disk_Arm h.dk n hn hn').mono fun _ _ ⟨e, hd, hf⟩ => ⟨e, h.halfS hd hf, hf⟩
theorem arm_ok {D : ADisk} {n : Int} (h : D.ok) (hn' : n ≤ 9223372036854775807) : (D.arm n).ok := by
  refine ⟨?_, ?_, h.2.2⟩ <;> simp only [ADisk.arm] <;> split <;> omega
/-- The reference's fuse is set in place. -/
theorem Half.fuse {n : Int} (h : Half w W d r (D.arm n) D S F T) (hn' : n ≤ 9223372036854775807) :
    W.cell? ⟨r, 4, none⟩ = some (.int .i64 D.fuse) ∧ W.frozen? ⟨r, 4, none⟩ = false ∧ Duo w (W.setCell ⟨r, 4, none⟩ (.int .i64 (D.arm n).fuse)) d r (D.arm n) S F T := by
  obtain ⟨bv, dv, av, wv, bs, ds, as_, ws, hr⟩ := id h.rf
  refine ⟨hr.blk.cell 4, hr.blk.frozen 4, ?_⟩
  have hf := hr.frmPut 4 (.int .i64 (D.arm n).fuse)
  have h2 := hr.put 4 (.int .i64 (D.arm n).fuse) (D' := D.arm n) rfl rfl (arm_ok hr.ok hn') rfl
  refine ⟨h.dk.frm hf (fun b _ hb hT => h.apart b hb hT), ⟨_, _, _, _, _, _, _, _, h2⟩, h.lowS, h.lowT, fun b hb => Nat.lt_of_lt_of_le (h.highS b hb) hf.size, fun b hb => Nat.lt_of_lt_of_le (h.highT b hb) hf.size, h.apart, h.frm.trans hf (fun i hi hx => absurd (h.lowT i hx) (Nat.not_le_of_lt hi))⟩

/-- The twin stays as it was while the old disk goes on. -/
structure Pair (w W : World) (d t r : Nat) (Do D : ADisk) (O S F T : Nat → Prop) : Prop where
  old : DiskAt W d O (fun _ => True) Do
  duo : Duo w W t r D S F T
  apart : ∀ b, O b → ¬ (S b ∨ F b ∨ T b)
  low : ∀ b, O b → w.heap.size ≤ b
  high : ∀ b, O b → b < W.heap.size
theorem Duo.pair (h : Duo w W d r D S F T) {t : Nat} (ht : DiskAt W' t (NewB W W') F D) (hf : Frm NoB W W') : ∃ O, Pair w W' d t r D D O (NewB W W') (fun b => F b ∧ U8 W b) T := by
  have hs := hf.size
  have hw := h.frm.size
  have h1 := h.dk.tight.frm hf (fun _ _ _ h => h)
  have hno : ∀ b, F b → U8 W' b → U8 W b := by
    rintro b hb ⟨cs, hc⟩
    exact ⟨cs, (hf.block b (h.highS b (.inr hb)) (fun h => h)).symm.trans hc⟩
  refine ⟨_, h1.mono (fun _ _ h => h) (fun _ _ _ => trivial), ⟨?_, h.rf.frm hf (fun _ _ _ h => h), ?_, h.lowT, ?_, fun b hb => Nat.lt_of_lt_of_le (h.highT b hb) hs, ?_, h.frm.trans hf (fun _ _ h => h)⟩, ?_, fun b hb => h.lowS b (.inl hb.1), fun b hb => Nat.lt_of_lt_of_le (h.highS b (.inl hb.1)) hs⟩
  · obtain ⟨bv, wv, bs, ws, h2⟩ := ht
    refine ⟨bv, wv, bs, ws, h2.blk, h2.own, h2.bl, h2.wt, fun i hi => ?_, fun i hi => ?_, h2.ok⟩
    · obtain ⟨v, e, hv⟩ := h2.bls i hi
      exact ⟨v, e, hv.tight.mono fun b _ hb => ⟨hb.1, hno b hb.1 hb.2⟩⟩
    · obtain ⟨e0, v, e, hv⟩ := h2.wts i hi
      exact ⟨e0, v, e, hv.tight.mono fun b _ hb => ⟨hb.1, hno b hb.1 hb.2⟩⟩
  · rintro b (hb | hb)
    · exact Nat.le_trans hw hb.1
    · exact h.lowS b (.inr hb.1)
  · rintro b (hb | hb)
    · exact hb.2
    · exact Nat.lt_of_lt_of_le (h.highS b (.inr hb.1)) hs
  · rintro b (hb | hb) hT
    · have := hb.1; have := h.highT b hT; omega
    · exact h.apart b (.inr hb.1) hT
  · rintro b ⟨hS, hU⟩ (hb | hb | hb)
    · have := hb.1; have := h.highS b (.inl hS); omega
    · exact hU hb.2
    · exact h.apart b (.inl hS) hb
theorem Pair.frm' {t : Nat} {Do : ADisk} {O : Nat → Prop} (h : Pair w W d t r Do D O S F T) (hf : Frm NoB W W') : Pair w W' d t r Do D O S F T :=
  ⟨h.old.frm hf (fun _ _ _ h => h), h.duo.frm' hf, h.apart, h.low, fun b hb => Nat.lt_of_lt_of_le (h.high b hb) hf.size⟩
theorem Pair.next {t : Nat} {Do Do' : ADisk} {O : Nat → Prop} (h : Pair w W d t r Do D O S F T) (hd : DiskAt W' d (OrB O (NewB W W')) (fun _ => True) Do') (hf : Frm O W W') : Pair w W' d t r Do' D (OrB O (NewB W W')) S F T := by
  have hs := hf.size
  have hw := h.duo.frm.size
  refine ⟨hd, ⟨h.duo.dk.frm hf (fun b _ hb hO => h.apart b hO (by rcases hb with hb | hb <;> simp [hb])), h.duo.rf.frm hf (fun b _ hb hO => h.apart b hO (by rcases hb with hb | hb <;> simp [hb])), h.duo.lowS, h.duo.lowT,
    fun b hb => Nat.lt_of_lt_of_le (h.duo.highS b hb) hs, fun b hb => Nat.lt_of_lt_of_le (h.duo.highT b hb) hs, h.duo.apart, h.duo.frm.trans hf (fun i hi hx => absurd (h.low i hx) (Nat.not_le_of_lt hi))⟩, ?_, ?_, ?_⟩
  · rintro b (hb | hb) hx
    · exact h.apart b hb hx
    · have := hb.1
      rcases hx with hx | hx | hx
      · have := h.duo.highS b (.inl hx); omega
      · have := h.duo.highS b (.inr hx); omega
      · have := h.duo.highT b hx; omega
  · rintro b (hb | hb)
    · exact h.low b hb
    · have := hb.1; omega
  · rintro b (hb | hb)
    · exact Nat.lt_of_lt_of_le (h.high b hb) hs
    · exact hb.2
theorem Pair_Write {t : Nat} {Do : ADisk} {O : Nat → Prop} (h : Pair w W d t r Do D O S F T) (i : Int) (v : Value) (n : Nat) (l : List Value) (hr : Rd W G 1 v n l) (hb : ∀ u ∈ l, isByte u) (hd : ∀ b, b < W.heap.size → G b → ¬ O b) (hlen : Do.waits.length ≤ 1099511627776) :
    Calls Try.prog 7 #[.pointer (some ⟨d, 0, none⟩), .int .i64 i, v] W fun e W' => e = .returned (.int .i64 (Do.write i l).2) ∧ Pair w W' d t r (Do.write i l).1 D (OrB O (NewB W W')) S F T :=
  (Disk_Write h.old i v n l hr hb hd hlen).mono fun _ _ ⟨e, hd, hf⟩ => ⟨e, h.next (hd.mono (fun _ _ h => h) (fun _ _ _ => trivial)) hf⟩
theorem Pair_Boot {t : Nat} {Do : ADisk} {O : Nat → Prop} (h : Pair w W d t r Do D O S F T) (v : Value) (how : List UInt8) (hr : Rd W G 1 v how.length (how.map byt)) (hd : ∀ b, b < W.heap.size → G b → ¬ O b) (hlen : Do.waits.length ≤ 1099511627776) :
    Calls Try.prog 11 #[.pointer (some ⟨d, 0, none⟩), v] W fun e W' => e = .returned (.tuple #[]) ∧ ∃ Do' O, Pair w W' d t r Do' D O S F T :=
  (Disk_Boot h.old v how hr hd hlen).mono fun _ _ ⟨e, hd, hf⟩ => ⟨e, _, _, h.next (hd.mono (fun _ _ h => .inl h) (fun _ _ h => h)) hf⟩
end

/-- The row without its first byte. -/
theorem Rd.drop1 {w : World} {F : Nat → Prop} {g : Nat} {l : List Value} (h : Rd w F 1 (.slice (some ⟨g, 0, none⟩) 128 128) 128 l) : Rd w F 1 (.slice (some ⟨g, 1, none⟩) 127 127) 127 (l.drop 1) := by
  obtain ⟨h1, A, c, hv, hc, h2⟩ := h
  injection hv with hA _ hcc
  obtain ⟨b, off, hb, hF, hlt, hx⟩ := h2 (by omega)
  subst hA
  injection hb with hb
  injection hb with e1 e2
  subst e1 e2
  refine ⟨by simp; omega, _, 127, rfl, by omega, fun _ => ⟨g, 1, rfl, hF, hlt, fun j u hu => ?_⟩⟩
  rw [List.getElem?_drop] at hu
  have := hx (1 + j) u hu
  rw [Nat.zero_add] at this
  exact this
theorem DiskAt.drewN {w : World} {p : Nat} {S F : Nat → Prop} {D : ADisk} (h : DiskAt w p S F D) (n : Nat) : DiskAt (w.drewN n) p S F D := h.keep fun _ _ _ => rfl
theorem quiet_left {P : Program} {f : FuncId} {args : Array Value} {w : World} {n : Nat} {v : Value}
    (h : Calls P f args (w.drewN n) fun e w' => e = .returned v ∧ w.drewN n = w') : Calls P f args (w.drewN n) fun e w'' => e = .returned v ∧ ∃ m, w'' = w.drewN m :=
  h.mono fun _ _ ⟨he, hm⟩ => ⟨he, n, hm.symm⟩
theorem bytes_of : ∀ (l : List Value), (∀ v ∈ l, isByte v) → ∃ b : List UInt8, l = b.map byt
  | [], _ => ⟨[], rfl⟩
  | v :: l, h => by
    obtain ⟨x, hx⟩ := h v (List.mem_cons_self ..)
    obtain ⟨b, hb⟩ := bytes_of l (fun u hu => h u (List.mem_cons_of_mem _ hu))
    exact ⟨x :: b, by rw [hb, hx]; rfl⟩
/-- Two readings of one block, as bytes. -/
theorem read_both {w W : World} {F G : Nat → Prop} {va vb : Value} {o : Option (List Value)} (ha : BlockIs w F va o) (hb : BlockIs W G vb o) :
    ∃ la : List UInt8, Rd w F 1 va la.length (la.map byt) ∧ Rd W G 1 vb la.length (la.map byt) ∧ la.length ≤ 140737488355328 := by
  cases o with
  | none =>
    rw [show va = .slice none 0 0 from ha, show vb = .slice none 0 0 from hb]
    exact ⟨[], ⟨rfl, none, 0, rfl, Nat.le_refl _, fun h => absurd h (by simp)⟩, ⟨rfl, none, 0, rfl, Nat.le_refl _, fun h => absurd h (by simp)⟩, by simp⟩
  | some l =>
    obtain ⟨b, hbb⟩ := bytes_of l ha.2.2
    have hl : b.length = 128 := by have := ha.2.1; rw [hbb] at this; simpa using this
    refine ⟨b, ?_, ?_, by omega⟩
    · rw [hl, ← hbb]; exact ha.1.rd
    · rw [hl, ← hbb]; exact hb.1.rd
end Go.Proofs.Ytablmgnhpciljaa
