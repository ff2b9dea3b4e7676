/- A disk in memory ('DiskAt'), and the small methods: Len, has, Waits, Off, Wrote, Arm, goes. -/
import Derived.Test.YtablmgnhpciljaaDka
namespace Go.Proofs.Ytablmgnhpciljaa
open Go.RowKit

/-- A disk as data: its blocks (none: torn), what waits, the fuse, is it off, how many Writes went. -/
structure ADisk where
  blocks : List (Option (List Value))
  waits : List (Nat × List Value)
  fuse : Int
  off : Bool
  wrote : Int

/-- Bytes of a block: so many cells, each a byte. -/
def isByte (v : Value) : Prop := ∃ x : UInt8, v = .int .u8 (x.toNat : Int)
def isBlock (l : List Value) : Prop := l.length = 128 ∧ ∀ v ∈ l, isByte v

/-- A slice value that is a block (or none). -/
def BlockIs (w : World) (F : Nat → Prop) (v : Value) : Option (List Value) → Prop
  | none => v = .slice none 0 0
  | some l => Own w F 5 1 v 128 l ∧ isBlock l

def ADisk.ok (D : ADisk) : Prop := -1 ≤ D.fuse ∧ D.fuse ≤ 9223372036854775807 ∧ D.blocks.length ≤ 512 ∧ 0 < D.blocks.length ∧ ∀ x ∈ D.waits, x.1 < D.blocks.length

structure DiskIn (w : World) (p : Nat) (S F : Nat → Prop) (D : ADisk) (bv wv : Value) (bs ws : List Value) : Prop where
  blk : Blk w p 53 #[bv, wv, .int .i64 D.fuse, .bool D.off, .int .i64 D.wrote]
  own : S p
  bl : Own w S 28 1 bv D.blocks.length bs
  wt : Own w S 57 2 wv D.waits.length ws
  bls : ∀ i (h : i < D.blocks.length), ∃ v, bs[i]? = some v ∧ BlockIs w F v D.blocks[i]
  wts : ∀ i (h : i < D.waits.length), ws[2 * i]? = some (.int .i64 (D.waits[i].1 : Nat)) ∧ ∃ v, ws[2 * i + 1]? = some v ∧ BlockIs w F v (some D.waits[i].2)
  ok : D.ok

def DiskAt (w : World) (p : Nat) (S F : Nat → Prop) (D : ADisk) : Prop := ∃ bv wv bs ws, DiskIn w p S F D bv wv bs ws

section
variable {w w' : World} {p : Nat} {S F G T : Nat → Prop} {D : ADisk} {bv wv v : Value} {bs ws : List Value}

theorem BlockIs.keep {o : Option (List Value)} (h : BlockIs w F v o) (hk : ∀ b, F b → b < w.heap.size → w'.heap[b]? = w.heap[b]?) : BlockIs w' F v o := by
  cases o with
  | none => exact h
  | some l => exact ⟨h.1.keep hk, h.2⟩
/-- Content lies in blocks of bytes. -/
theorem BlockIs.keepAt {o : Option (List Value)} (h : BlockIs w F v o) (hk : ∀ (g : Nat) (cs : Array Value), w.heap[g]? = some (Obj.cells cs 5 (0, 0)) → w'.heap[g]? = w.heap[g]?) : BlockIs w' F v o := by
  cases o with
  | none => exact h
  | some l => exact ⟨h.1.keepAt fun g hg => (by obtain ⟨cs, hc⟩ := h.1.type hg; exact hk g cs hc), h.2⟩
theorem BlockIs.mono {o : Option (List Value)} (h : BlockIs w F v o) (hs : ∀ b, b < w.heap.size → F b → G b) : BlockIs w G v o := by
  cases o with
  | none => exact h
  | some l => exact ⟨h.1.mono hs, h.2⟩
/-- Content stays where blocks of other element types alone are turned. -/
theorem BlockIs.put {o : Option (List Value)} (h : BlockIs w F v o) {g : Nat} {t : Nat} {cs : Array Value} {fz : Nat × Nat} (hg : w.heap[g]? = some (.cells cs t fz)) (ht : t ≠ 5) (i : Nat) (u : Value) :
    BlockIs (w.setCell ⟨g, i, none⟩ u) F v o := by
  cases o with
  | none => exact h
  | some l =>
    refine ⟨⟨⟨h.1.1.1, ?_⟩, h.1.2⟩, h.2⟩
    rcases h.1.1.2 with h2 | ⟨g', cap, cur, e, hb, hg', hr⟩
    · exact .inl h2
    · refine .inr ⟨g', cap, cur, e, hb, ?_, hr⟩
      rw [Below.heap_setCell _ _ _ _ (by
        rintro rfl
        rw [hg'] at hg
        injection hg with hg
        injection hg with _ hg
        exact ht hg.symm)]
      exact hg'

theorem DiskIn.keep (h : DiskIn w p S F D bv wv bs ws) (hk : ∀ b, S b ∨ F b → b < w.heap.size → w'.heap[b]? = w.heap[b]?) : DiskIn w' p S F D bv wv bs ws :=
  ⟨(hk p (.inl h.own) (Blk.lt h.blk)).trans h.blk, h.own, h.bl.keep fun b hb => hk b (.inl hb), h.wt.keep fun b hb => hk b (.inl hb),
    fun i hi => by obtain ⟨v, e, hv⟩ := h.bls i hi; exact ⟨v, e, hv.keep fun b hb => hk b (.inr hb)⟩,
    fun i hi => by obtain ⟨e0, v, e, hv⟩ := h.wts i hi; exact ⟨e0, v, e, hv.keep fun b hb => hk b (.inr hb)⟩, h.ok⟩
theorem DiskIn.drew (h : DiskIn w p S F D bv wv bs ws) : DiskIn w.drew p S F D bv wv bs ws := h.keep fun _ _ _ => rfl
theorem DiskAt.keep (h : DiskAt w p S F D) (hk : ∀ b, S b ∨ F b → b < w.heap.size → w'.heap[b]? = w.heap[b]?) : DiskAt w' p S F D := by
  obtain ⟨bv, wv, bs, ws, h⟩ := h
  exact ⟨bv, wv, bs, ws, h.keep hk⟩
theorem DiskAt.drew (h : DiskAt w p S F D) : DiskAt w.drew p S F D := h.keep fun _ _ _ => rfl
theorem DiskAt.frm (h : DiskAt w p S F D) (hf : Frm T w w') (hd : ∀ b, b < w.heap.size → S b ∨ F b → ¬ T b) : DiskAt w' p S F D :=
  h.keep fun b hb hl => hf.block b hl (hd b hl hb)
theorem DiskIn.mono (h : DiskIn w p S F D bv wv bs ws) (hs : ∀ b, b < w.heap.size → S b → T b) (hf : ∀ b, b < w.heap.size → F b → G b) : DiskIn w p T G D bv wv bs ws :=
  ⟨h.blk, hs p (Blk.lt h.blk) h.own, h.bl.mono hs, h.wt.mono hs,
    fun i hi => by obtain ⟨v, e, hv⟩ := h.bls i hi; exact ⟨v, e, hv.mono hf⟩,
    fun i hi => by obtain ⟨e0, v, e, hv⟩ := h.wts i hi; exact ⟨e0, v, e, hv.mono hf⟩, h.ok⟩
theorem DiskAt.mono (h : DiskAt w p S F D) (hs : ∀ b, b < w.heap.size → S b → T b) (hf : ∀ b, b < w.heap.size → F b → G b) : DiskAt w p T G D := by
  obtain ⟨bv, wv, bs, ws, h⟩ := h
  exact ⟨bv, wv, bs, ws, h.mono hs hf⟩

/-- A store into the disk's own struct. -/
theorem DiskIn.put (h : DiskIn w p S F D bv wv bs ws) (i : Nat) (u : Value) {D' : ADisk} (hb : D'.blocks = D.blocks) (hw : D'.waits = D.waits) (hok : D'.ok)
    (hcs : (#[bv, wv, .int .i64 D.fuse, .bool D.off, .int .i64 D.wrote] : Array Value).setIfInBounds i u = #[bv, wv, .int .i64 D'.fuse, .bool D'.off, .int .i64 D'.wrote]) :
    DiskIn (w.setCell ⟨p, i, none⟩ u) p S F D' bv wv bs ws := by
  obtain ⟨blocks, waits, fuse, off, wrote⟩ := D
  obtain ⟨blocks', waits', fuse', off', wrote'⟩ := D'
  dsimp only at hb hw hcs
  subst hb hw
  have h53 : ∀ (e sz n : Nat) (v : Value) (xs : List Value), e ≠ 53 → Own w S e sz v n xs → Own (w.setCell ⟨p, i, none⟩ u) S e sz v n xs := by
    intro e sz n v xs he ho
    refine ⟨⟨ho.1.1, ?_⟩, ho.2⟩
    rcases ho.1.2 with h2 | ⟨g', cap, cur, e', hb, hg', hr⟩
    · exact .inl h2
    · refine .inr ⟨g', cap, cur, e', hb, ?_, hr⟩
      rw [Below.heap_setCell _ _ _ _ (by
        rintro rfl
        have hg := h.blk
        unfold Blk at hg
        rw [hg'] at hg
        injection hg with hg
        injection hg with _ hg
        exact he hg)]
      exact hg'
  refine ⟨?_, h.own, h53 _ _ _ _ _ (by decide) h.bl, h53 _ _ _ _ _ (by decide) h.wt, fun j hj => ?_, fun j hj => ?_, hok⟩
  · have := h.blk.put i u
    rw [hcs] at this
    exact this
  · obtain ⟨v, e, hv⟩ := h.bls j hj
    exact ⟨v, e, hv.put h.blk (by decide) i u⟩
  · obtain ⟨e0, v, e, hv⟩ := h.wts j hj
    exact ⟨e0, v, e, hv.put h.blk (by decide) i u⟩
theorem DiskIn.frmPut (h : DiskIn w p S F D bv wv bs ws) (i : Nat) (u : Value) : Frm S w (w.setCell ⟨p, i, none⟩ u) := (Frm.refl S w).setCell (fun _ => h.own) u
end

/-- The fuse burns. -/
def ADisk.goes (D : ADisk) : ADisk :=
  if D.off = true ∨ D.fuse = 0 then { D with off := true } else { D with fuse := if -1 ≤ D.fuse - 1 then D.fuse - 1 else -1 }
theorem ADisk.goes_ok {D : ADisk} (h : D.ok) : D.goes.ok := by
  obtain ⟨h1, h2, h3, h4, h5⟩ := h
  unfold ADisk.goes
  split
  · exact ⟨h1, h2, h3, h4, h5⟩
  · refine ⟨?_, ?_, h3, h4, h5⟩ <;> dsimp only <;> split <;> omega
theorem ADisk.goes_blocks (D : ADisk) : D.goes.blocks = D.blocks := by unfold ADisk.goes; split <;> rfl
theorem ADisk.goes_waits (D : ADisk) : D.goes.waits = D.waits := by unfold ADisk.goes; split <;> rfl
theorem ADisk.goes_wrote (D : ADisk) : D.goes.wrote = D.wrote := by unfold ADisk.goes; split <;> rfl

section
variable {w : World} {p : Nat} {S F : Nat → Prop} {D : ADisk} {bv wv : Value} {bs ws : List Value}

theorem Disk_Len (h : DiskAt w p S F D) : Calls Try.prog 20 #[.pointer (some ⟨p, 0, none⟩)] w fun e w' => e = .returned (.int .i64 (D.blocks.length : Nat)) ∧ w = w' := by
  obtain ⟨bv, wv, bs, ws, h⟩ := h
  have c0 := h.blk.cell 0
  obtain ⟨_, A, c, hv, _⟩ := h.bl.rd
  clear h
  subst hv
  go_enter Try.func20, Try.ntmps20
  go_wp2
  go_ret
  exact ⟨rfl, rfl⟩

theorem Disk_Waits (h : DiskAt w p S F D) : Calls Try.prog 17 #[.pointer (some ⟨p, 0, none⟩)] w fun e w' => e = .returned (.int .i64 (D.waits.length : Nat)) ∧ w = w' := by
  obtain ⟨bv, wv, bs, ws, h⟩ := h
  have c0 := h.blk.cell 1
  obtain ⟨_, A, c, hv, _⟩ := h.wt.rd
  clear h
  subst hv
  go_enter Try.func17, Try.ntmps17
  go_wp2
  go_ret
  exact ⟨rfl, rfl⟩

theorem Disk_Off (h : DiskAt w p S F D) : Calls Try.prog 18 #[.pointer (some ⟨p, 0, none⟩)] w fun e w' => e = .returned (.bool D.off) ∧ w = w' := by
  obtain ⟨bv, wv, bs, ws, h⟩ := h
  have c0 := h.blk.cell 3
  clear h
  go_enter Try.func18, Try.ntmps18
  go_wp2
  go_ret
  exact ⟨rfl, rfl⟩

theorem Disk_Wrote (h : DiskAt w p S F D) : Calls Try.prog 19 #[.pointer (some ⟨p, 0, none⟩)] w fun e w' => e = .returned (.int .i64 D.wrote) ∧ w = w' := by
  obtain ⟨bv, wv, bs, ws, h⟩ := h
  have c0 := h.blk.cell 4
  clear h
  go_enter Try.func19, Try.ntmps19
  go_wp2
  go_ret
  exact ⟨rfl, rfl⟩

theorem Disk_has (h : DiskAt w p S F D) (i : Int) : Calls Try.prog 25 #[.pointer (some ⟨p, 0, none⟩), .int .i64 i] w fun e w' => e = .returned (.bool (decide (0 ≤ i ∧ i < D.blocks.length))) ∧ w = w' := by
  obtain ⟨bv, wv, bs, ws, h⟩ := h
  have c0 := h.blk.cell 0
  obtain ⟨_, A, c, hv, _⟩ := h.bl.rd
  clear h
  subst hv
  by_cases h0 : 0 ≤ i
  · go_enter Try.func25, Try.ntmps25
    go_wp2
    go_ret
    exact ⟨by simp [h0], rfl⟩
  · go_enter Try.func25, Try.ntmps25
    go_wp2
    go_ret
    exact ⟨by simp; omega, rfl⟩

/-- Arm a fuse. -/
def ADisk.arm (D : ADisk) (n : Int) : ADisk := { D with fuse := if -1 ≤ n then n else -1 }
theorem Disk_Arm (h : DiskAt w p S F D) (n : Int) (hn : -9223372036854775808 ≤ n) (hn' : n ≤ 9223372036854775807) : Calls Try.prog 13 #[.pointer (some ⟨p, 0, none⟩), .int .i64 n] w fun e w' => e = .returned (.tuple #[]) ∧ DiskAt w' p S F (D.arm n) ∧ Frm S w w' := by
  obtain ⟨bv, wv, bs, ws, h⟩ := h
  have c0 := h.blk.cell 2
  have f0 := h.blk.frozen 2
  have hok := h.ok
  have H := h
  clear h
  by_cases h0 : -1 ≤ n
  · have H2 := H.put 2 (.int .i64 n) (D' := D.arm n) rfl rfl ⟨by simp only [ADisk.arm]; split <;> omega, by simp only [ADisk.arm]; split <;> omega, hok.2.2⟩ (by simp [ADisk.arm, if_pos h0])
    have hf := H.frmPut 2 (.int .i64 n)
    clear H hok
    go_enter Try.func13, Try.ntmps13
    go_wp2
    go_end0
    exact ⟨rfl, ⟨_, _, _, _, H2⟩, hf⟩
  · have H2 := H.put 2 (.int .i64 (-1)) (D' := D.arm n) rfl rfl ⟨by simp only [ADisk.arm]; split <;> omega, by simp only [ADisk.arm]; split <;> omega, hok.2.2⟩ (by simp [ADisk.arm, if_neg h0])
    have hf := H.frmPut 2 (.int .i64 (-1))
    clear H hok
    go_enter Try.func13, Try.ntmps13
    go_wp2
    go_end0
    exact ⟨rfl, ⟨_, _, _, _, H2⟩, hf⟩

/-- The power is off already, or the fuse is burnt. -/
theorem Disk_goes_no (h : DiskAt w p S F D) (hn : D.off = true ∨ D.fuse = 0) : Calls Try.prog 26 #[.pointer (some ⟨p, 0, none⟩)] w fun e w' => e = .returned (.bool false) ∧ DiskAt w' p S F D.goes ∧ Frm S w w' := by
  obtain ⟨bv, wv, bs, ws, h⟩ := h
  have c2 := h.blk.cell 2
  have c3 := h.blk.cell 3
  have f3 := h.blk.frozen 3
  have hok := ADisk.goes_ok h.ok
  have hg : D.goes = { D with off := true } := by unfold ADisk.goes; rw [if_pos hn]
  by_cases h0 : D.fuse = 0
  · have hz : (D.fuse == 0) = true := by simp [h0]
    have H2 := h.put 3 (.bool true) (D' := D.goes) (ADisk.goes_blocks D) (ADisk.goes_waits D) hok (by simp [hg])
    have hf := h.frmPut 3 (.bool true)
    clear h hok hg hn h0
    go_enter Try.func26, Try.ntmps26
    go_wp2
    go_ret
    exact ⟨rfl, ⟨_, _, _, _, H2⟩, hf⟩
  · have hz : (D.fuse == 0) = false := by simp [h0]
    have ho : D.off = true := by rcases hn with h | h; exact h; exact absurd h h0
    have hD : D.goes = D := by rw [hg]; cases D; simp only at ho; subst ho; rfl
    rw [hD]
    rw [ho] at c3
    have hf := Frm.refl S w
    have H2 : DiskAt w p S F D := ⟨_, _, _, _, h⟩
    clear h hok hg hn h0 ho hD
    go_enter Try.func26, Try.ntmps26
    go_wp2
    go_ret
    exact ⟨rfl, H2, hf⟩

theorem Disk_goes_yes (h : DiskAt w p S F D) (hn : ¬ (D.off = true ∨ D.fuse = 0)) : Calls Try.prog 26 #[.pointer (some ⟨p, 0, none⟩)] w fun e w' => e = .returned (.bool true) ∧ DiskAt w' p S F D.goes ∧ Frm S w w' := by
  obtain ⟨bv, wv, bs, ws, h⟩ := h
  have c2 := h.blk.cell 2
  have c3 := h.blk.cell 3
  have f2 := h.blk.frozen 2
  have hok := ADisk.goes_ok h.ok
  have hb := h.ok
  have hg : D.goes = { D with fuse := if -1 ≤ D.fuse - 1 then D.fuse - 1 else -1 } := by unfold ADisk.goes; rw [if_neg hn]
  have ho : D.off = false := by cases h : D.off; rfl; exact absurd (.inl h) hn
  have hz : (D.fuse == 0) = false := by simp; exact fun h => hn (.inr h)
  rw [ho] at c3
  have l1 := hb.1
  have l2 := hb.2.1
  by_cases h0 : -1 ≤ D.fuse - 1
  · have H2 := h.put 2 (.int .i64 (D.fuse - 1)) (D' := D.goes) (ADisk.goes_blocks D) (ADisk.goes_waits D) hok (by simp [hg, if_pos h0])
    have hf := h.frmPut 2 (.int .i64 (D.fuse - 1))
    clear h hok hg hn hb ho
    go_enter Try.func26, Try.ntmps26
    go_wp2
    go_ret
    exact ⟨rfl, ⟨_, _, _, _, H2⟩, hf⟩
  · have H2 := h.put 2 (.int .i64 (-1)) (D' := D.goes) (ADisk.goes_blocks D) (ADisk.goes_waits D) hok (by simp [hg, if_neg h0])
    have hf := h.frmPut 2 (.int .i64 (-1))
    clear h hok hg hn hb ho
    go_enter Try.func26, Try.ntmps26
    go_wp2
    go_ret
    exact ⟨rfl, ⟨_, _, _, _, H2⟩, hf⟩

/-- Does an operation go? -/
def ADisk.can (D : ADisk) : Bool := !(D.off || D.fuse == 0)
theorem Disk_goes (h : DiskAt w p S F D) : Calls Try.prog 26 #[.pointer (some ⟨p, 0, none⟩)] w fun e w' => e = .returned (.bool D.can) ∧ DiskAt w' p S F D.goes ∧ Frm S w w' := by
  by_cases hn : D.off = true ∨ D.fuse = 0
  · have : D.can = false := by unfold ADisk.can; rcases hn with h | h <;> simp [h]
    rw [this]
    exact Disk_goes_no h hn
  · have : D.can = true := by
      unfold ADisk.can
      cases ho : D.off
      · simp; exact fun h => hn (.inr h)
      · exact absurd (.inl ho) hn
    rw [this]
    exact Disk_goes_yes h hn

end
end Go.Proofs.Ytablmgnhpciljaa
