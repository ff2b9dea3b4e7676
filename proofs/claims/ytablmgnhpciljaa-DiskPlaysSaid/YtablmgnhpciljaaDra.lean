/- The reference's disk in memory ('RefAt'), as the same data; goes. -/
import Derived.Test.YtablmgnhpciljaaDkj
namespace Go.Proofs.Ytablmgnhpciljaa
open Go.RowKit

theorem Try.info4 : (Try.prog.info? 4).map (fun i => (i.zero, i.size, i.bytes)) = some (some (.bool false), 1, 1) := by kernel_rfl
theorem Try.info3 : (Try.prog.info? 3).map (fun i => (i.zero, i.size, i.bytes)) = some (some (.int .i64 0), 1, 8) := by kernel_rfl

structure RefIn (w : World) (p : Nat) (S F : Nat → Prop) (D : ADisk) (bv dv av wv : Value) (bs ds as_ ws : List Value) : Prop where
  blk : Blk w p 42 #[bv, dv, av, wv, .int .i64 D.fuse, .bool D.off, .int .i64 D.wrote]
  own : S p
  bl : Own w S 28 1 bv D.blocks.length bs
  bd : Own w S 4 1 dv D.blocks.length ds
  at_ : Own w S 3 1 av D.waits.length as_
  wt : Own w S 28 1 wv D.waits.length ws
  ne : ∀ g, bv.ownBlock = some g → ¬ wv.ownBlock = some g
  bls : ∀ i (h : i < D.blocks.length), ∃ v l b, bs[i]? = some v ∧ ds[i]? = some (.bool b) ∧ BlockIs w F v (some l) ∧ D.blocks[i] = if b = true then none else some l
  wts : ∀ i (h : i < D.waits.length), as_[i]? = some (.int .i64 (D.waits[i].1 : Nat)) ∧ ∃ v, ws[i]? = some v ∧ BlockIs w F v (some D.waits[i].2)
  ok : D.ok

def RefAt (w : World) (p : Nat) (S F : Nat → Prop) (D : ADisk) : Prop := ∃ bv dv av wv bs ds as_ ws, RefIn w p S F D bv dv av wv bs ds as_ ws

section
variable {w w' : World} {p : Nat} {S F G T : Nat → Prop} {D : ADisk} {bv dv av wv v : Value} {bs ds as_ ws : List Value}

theorem RefIn.keep (h : RefIn w p S F D bv dv av wv bs ds as_ ws) (hk : ∀ b, S b ∨ F b → b < w.heap.size → w'.heap[b]? = w.heap[b]?) : RefIn w' p S F D bv dv av wv bs ds as_ ws :=
  ⟨(hk p (.inl h.own) (Blk.lt h.blk)).trans h.blk, h.own, h.bl.keep fun b hb => hk b (.inl hb), h.bd.keep fun b hb => hk b (.inl hb), h.at_.keep fun b hb => hk b (.inl hb), h.wt.keep fun b hb => hk b (.inl hb), h.ne,
    fun i hi => by obtain ⟨v, l, b, e1, e2, hv, e3⟩ := h.bls i hi; exact ⟨v, l, b, e1, e2, hv.keep fun b hb => hk b (.inr hb), e3⟩,
    fun i hi => by obtain ⟨e0, v, e, hv⟩ := h.wts i hi; exact ⟨e0, v, e, hv.keep fun b hb => hk b (.inr hb)⟩, h.ok⟩
theorem RefIn.drew (h : RefIn w p S F D bv dv av wv bs ds as_ ws) : RefIn w.drew p S F D bv dv av wv bs ds as_ ws := h.keep fun _ _ _ => rfl
theorem RefIn.alloc (h : RefIn w p S F D bv dv av wv bs ds as_ ws) (o : Obj) : RefIn (w.alloc o) p S F D bv dv av wv bs ds as_ ws := h.keep fun b _ hl => Below.heap_alloc w o b hl
theorem RefIn.frm (h : RefIn w p S F D bv dv av wv bs ds as_ ws) (hf : Frm NoB w w') : RefIn w' p S F D bv dv av wv bs ds as_ ws := h.keep fun b _ hl => hf.block b hl (fun h => h)
theorem RefAt.keep (h : RefAt w p S F D) (hk : ∀ b, S b ∨ F b → b < w.heap.size → w'.heap[b]? = w.heap[b]?) : RefAt w' p S F D := by
  obtain ⟨bv, dv, av, wv, bs, ds, as_, ws, h⟩ := h
  exact ⟨_, _, _, _, _, _, _, _, h.keep hk⟩
theorem RefAt.frm (h : RefAt w p S F D) (hf : Frm T w w') (hd : ∀ b, b < w.heap.size → S b ∨ F b → ¬ T b) : RefAt w' p S F D :=
  h.keep fun b hb hl => hf.block b hl (hd b hl hb)
theorem RefIn.mono (h : RefIn w p S F D bv dv av wv bs ds as_ ws) (hs : ∀ b, b < w.heap.size → S b → T b) (hf : ∀ b, b < w.heap.size → F b → G b) : RefIn w p T G D bv dv av wv bs ds as_ ws :=
  ⟨h.blk, hs p (Blk.lt h.blk) h.own, h.bl.mono hs, h.bd.mono hs, h.at_.mono hs, h.wt.mono hs, h.ne,
    fun i hi => by obtain ⟨v, l, b, e1, e2, hv, e3⟩ := h.bls i hi; exact ⟨v, l, b, e1, e2, hv.mono hf, e3⟩,
    fun i hi => by obtain ⟨e0, v, e, hv⟩ := h.wts i hi; exact ⟨e0, v, e, hv.mono hf⟩, h.ok⟩
theorem RefAt.mono (h : RefAt w p S F D) (hs : ∀ b, b < w.heap.size → S b → T b) (hf : ∀ b, b < w.heap.size → F b → G b) : RefAt w p T G D := by
  obtain ⟨bv, dv, av, wv, bs, ds, as_, ws, h⟩ := h
  exact ⟨_, _, _, _, _, _, _, _, h.mono hs hf⟩

/-- What owns an array of another element type stays where a block of a known type is turned. -/
theorem Own.putOther {e sz n g i t : Nat} {xs : List Value} {cs : Array Value} {fz : Nat × Nat} (h : Own w F e sz v n xs) (hg : w.heap[g]? = some (.cells cs t fz)) (hne : e ≠ t) (u : Value) : Own (w.setCell ⟨g, i, none⟩ u) F e sz v n xs :=
  h.keepAt fun _ hg' => Below.heap_setCell _ _ _ _ (h.ne hg hne hg')

/-- A store into the struct's own numbers. -/
theorem RefIn.put (h : RefIn w p S F D bv dv av wv bs ds as_ ws) (i : Nat) (u : Value) {D' : ADisk} (hb : D'.blocks = D.blocks) (hw : D'.waits = D.waits) (hok : D'.ok)
    (hcs : (#[bv, dv, av, wv, .int .i64 D.fuse, .bool D.off, .int .i64 D.wrote] : Array Value).setIfInBounds i u = #[bv, dv, av, wv, .int .i64 D'.fuse, .bool D'.off, .int .i64 D'.wrote]) :
    RefIn (w.setCell ⟨p, i, none⟩ u) p S F D' bv dv av wv bs ds as_ ws := by
  obtain ⟨blocks, waits, fuse, off, wrote⟩ := D
  obtain ⟨blocks', waits', fuse', off', wrote'⟩ := D'
  dsimp only at hb hw hcs
  subst hb hw
  refine ⟨?_, h.own, h.bl.putOther h.blk (by decide) u, h.bd.putOther h.blk (by decide) u, h.at_.putOther h.blk (by decide) u, h.wt.putOther h.blk (by decide) u, h.ne, fun j hj => ?_, fun j hj => ?_, hok⟩
  · have := h.blk.put i u
    rw [hcs] at this
    exact this
  · obtain ⟨v, l, b, e1, e2, hv, e3⟩ := h.bls j hj
    exact ⟨v, l, b, e1, e2, hv.put h.blk (by decide) i u, e3⟩
  · obtain ⟨e0, v, e, hv⟩ := h.wts j hj
    exact ⟨e0, v, e, hv.put h.blk (by decide) i u⟩
theorem RefIn.frmPut (h : RefIn w p S F D bv dv av wv bs ds as_ ws) (i : Nat) (u : Value) : Frm S w (w.setCell ⟨p, i, none⟩ u) := (Frm.refl S w).setCell (fun _ => h.own) u

theorem Ref_goes (h : RefAt w p S F D) : Calls Try.prog 28 #[.pointer (some ⟨p, 0, none⟩)] w fun e w' => e = .returned (.bool D.can) ∧ RefAt w' p S F D.goes ∧ Frm S w w' := by
  obtain ⟨bv, dv, av, wv, bs, ds, as_, ws, h⟩ := h
  have c4 := h.blk.cell 4
  have c5 := h.blk.cell 5
  have f4 := h.blk.frozen 4
  have f5 := h.blk.frozen 5
  have hok := ADisk.goes_ok h.ok
  have l1 := h.ok.1
  have l2 := h.ok.2.1
  cases ho : D.off with
  | true =>
    have hc : D.can = false := by unfold ADisk.can; simp [ho]
    have hg : D.goes = { D with off := true } := by unfold ADisk.goes; rw [if_pos (.inl ho)]
    have H2 := h.put 5 (.bool true) (D' := D.goes) (ADisk.goes_blocks D) (ADisk.goes_waits D) hok (by simp [hg])
    have hf := h.frmPut 5 (.bool true)
    rw [hc]
    rw [ho] at c5
    clear h hok hg hc ho
    go_enter Try.func28, Try.ntmps28
    go_wp2
    go_ret
    exact ⟨rfl, ⟨_, _, _, _, _, _, _, _, H2⟩, hf⟩
  | false =>
    rw [ho] at c5
    by_cases h0 : D.fuse = 0
    · have hz : (D.fuse == 0) = true := by simp [h0]
      have hc : D.can = false := by unfold ADisk.can; simp [h0]
      have hg : D.goes = { D with off := true } := by unfold ADisk.goes; rw [if_pos (.inr h0)]
      have H2 := h.put 5 (.bool true) (D' := D.goes) (ADisk.goes_blocks D) (ADisk.goes_waits D) hok (by simp [hg])
      have hf := h.frmPut 5 (.bool true)
      rw [hc]
      clear h hok hg hc ho h0
      go_enter Try.func28, Try.ntmps28
      go_wp2
      go_ret
      exact ⟨rfl, ⟨_, _, _, _, _, _, _, _, H2⟩, hf⟩
    · have hz : (D.fuse == 0) = false := by simp [h0]
      have hc : D.can = true := by unfold ADisk.can; simp [h0, ho]
      have hg : D.goes = { D with fuse := if -1 ≤ D.fuse - 1 then D.fuse - 1 else -1 } := by unfold ADisk.goes; rw [if_neg (by simp [ho, h0])]
      rw [hc]
      by_cases hp : 0 < D.fuse
      · have H2 := h.put 4 (.int .i64 (D.fuse - 1)) (D' := D.goes) (ADisk.goes_blocks D) (ADisk.goes_waits D) hok (by simp [hg]; omega)
        have hf := h.frmPut 4 (.int .i64 (D.fuse - 1))
        clear h hok hg hc ho
        go_enter Try.func28, Try.ntmps28
        go_wp2
        go_ret
        exact ⟨rfl, ⟨_, _, _, _, _, _, _, _, H2⟩, hf⟩
      · have hD : D.goes = D := by
          rw [hg]
          obtain ⟨a, b, f, o, wr⟩ := D
          dsimp only at *
          congr 1
          split <;> omega
        rw [hD]
        have H2 : RefAt w p S F D := ⟨_, _, _, _, _, _, _, _, h⟩
        have hf := Frm.refl S w
        clear h hok hg hc ho hD
        go_enter Try.func28, Try.ntmps28
        go_wp2
        go_ret
        exact ⟨rfl, H2, hf⟩
end
end Go.Proofs.Ytablmgnhpciljaa
