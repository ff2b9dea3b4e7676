/- Disk: land, Flush, Boot. -/
import Derived.Test.YtablmgnhpciljaaDkc
namespace Go.Proofs.Ytablmgnhpciljaa
open Go.RowKit

section
variable {w : World} {p : Nat} {S F G : Nat → Prop} {D : ADisk} {bv wv : Value} {bs ws : List Value}

theorem Own.some_ {e sz n : Nat} {v : Value} {xs : List Value} (h : Own w F e sz v n xs) (hn : 0 < n) : ∃ g cap, v = .slice (some ⟨g, 0, none⟩) n cap ∧ n ≤ cap := by
  rcases h.1.2 with ⟨_, rfl⟩ | ⟨g', cap, cur, rfl, _, _, h2, _⟩
  · omega
  · exact ⟨_, _, rfl, h2⟩
theorem Own.cell {e n : Nat} {g cap m : Nat} {xs : List Value} (h : Own w F e 1 (.slice (some ⟨g, 0, none⟩) m cap) n xs) {i : Nat} : i < n → w.cell? ⟨g, i, none⟩ = xs[i]? := by
  intro hi
  rcases h.1.2 with ⟨h0, _⟩ | ⟨g', cap, cur, he, _, hh, hnc, _, _, ht⟩
  · cases h0
  · injection he with he hm hc
    injection he with he
    injection he with he
    subst he
    rw [Blk.cell (t := e) (cs := cur) hh i, ← ht, List.getElem?_take, if_pos (by omega), Array.getElem?_toList]
theorem Own.cells {e sz n : Nat} {g cap m : Nat} {xs : List Value} (h : Own w F e sz (.slice (some ⟨g, 0, none⟩) m cap) n xs) {i : Nat} : i < n * sz → w.cell? ⟨g, i, none⟩ = xs[i]? := by
  intro hi
  rcases h.1.2 with ⟨h0, _⟩ | ⟨g', cap, cur, he, _, hh, hnc, _, _, ht⟩
  · cases h0
  · injection he with he hm hc
    injection he with he
    injection he with he
    subst he
    rw [Blk.cell (t := e) (cs := cur) hh i, ← ht, List.getElem?_take, if_pos hi, Array.getElem?_toList]
theorem Own.frozen {e n : Nat} {g cap m sz : Nat} {xs : List Value} (h : Own w F e sz (.slice (some ⟨g, 0, none⟩) m cap) n xs) (i : Nat) : w.frozen? ⟨g, i, none⟩ = false := by
  rcases h.1.2 with ⟨h0, _⟩ | ⟨g', cap, cur, he, _, hh, hnc, _, _, ht⟩
  · cases h0
  · injection he with he hm hc
    injection he with he
    injection he with he
    subst he
    exact Blk.frozen (t := e) (cs := cur) hh i

/-- A block's slot is turned. -/
theorem DiskIn.putBlock {g cap m : Nat} (h : DiskIn w p S F D (.slice (some ⟨g, 0, none⟩) m cap) wv bs ws) (i : Nat) (hi : i < D.blocks.length) (v : Value) (o : Option (List Value)) (hv : BlockIs w F v o) :
    DiskIn (w.setCell ⟨g, i, none⟩ v) p S F { D with blocks := D.blocks.set i o } (.slice (some ⟨g, 0, none⟩) m cap) wv (bs.set i v) ws := by
  obtain ⟨cs, hcs⟩ := h.bl.type (g := g) rfl
  have hc : ∀ (x : Value) (o : Option (List Value)), BlockIs w F x o → BlockIs (w.setCell ⟨g, i, none⟩ v) F x o := fun x o hx => hx.put hcs (by decide) i v
  have hbl : bs.length = D.blocks.length := by have := h.bl.1.1; omega
  refine ⟨h.blk.far (p := ⟨g, i, none⟩) (Ne.symm (h.bl.ne h.blk (by decide) rfl)) v, h.own, ?_, ?_, ?_, ?_, ?_⟩
  · rw [List.length_set]
    exact h.bl.set_ rfl hi v
  · exact h.wt.keepAt fun g' hg' => Below.heap_setCell _ _ _ _ (h.wt.ne hcs (by decide) hg')
  · intro j hj
    rw [List.length_set] at hj
    by_cases e : i = j
    · subst e
      exact ⟨v, by rw [List.getElem?_set_self (by omega)], by rw [List.getElem_set_self]; exact hc _ _ hv⟩
    · obtain ⟨x, e1, hx⟩ := h.bls j hj
      exact ⟨x, by rw [List.getElem?_set_ne e]; exact e1, by rw [List.getElem_set_ne e]; exact hc _ _ hx⟩
  · intro j hj
    obtain ⟨e0, x, e1, hx⟩ := h.wts j hj
    exact ⟨e0, x, e1, hc _ _ hx⟩
  · obtain ⟨k1, k2, k3, k4, k5⟩ := h.ok
    exact ⟨k1, k2, by simpa using k3, by simpa using k4, fun x hx => by simpa using k5 x hx⟩
theorem DiskIn.frmBlock {g cap m : Nat} (h : DiskIn w p S F D (.slice (some ⟨g, 0, none⟩) m cap) wv bs ws) (i : Nat) (v : Value) : Frm S w (w.setCell ⟨g, i, none⟩ v) :=
  (Frm.refl S w).setCell (fun _ => h.bl.2 g rfl) v

theorem DiskIn.blockCell {g cap m i : Nat} (h : DiskIn w p S F D (.slice (some ⟨g, 0, none⟩) m cap) wv bs ws) (hi : i < D.blocks.length) : ∃ x, w.cell? ⟨g, i, none⟩ = some x := by
  obtain ⟨x, e1, _⟩ := h.bls i hi
  exact ⟨x, (h.bl.cell hi).trans e1⟩

theorem DiskIn.alloc (h : DiskIn w p S F D bv wv bs ws) (o : Obj) : DiskIn (w.alloc o) p S F D bv wv bs ws := h.keep fun b _ hl => Below.heap_alloc w o b hl
theorem BlockIs.drew {v : Value} {o : Option (List Value)} (h : BlockIs w F v o) : BlockIs w.drew F v o := h.keep fun _ _ _ => rfl
theorem BlockIs.alloc {v : Value} {o : Option (List Value)} (h : BlockIs w F v o) (x : Obj) : BlockIs (w.alloc x) F v o := h.keep fun b _ hl => Below.heap_alloc w x b hl

theorem Disk_land (h : DiskIn w p S F D bv wv bs ws) (i : Nat) (v : Value) (l : List Value) (hi : i < D.blocks.length) (hv : BlockIs w F v (some l)) :
    Calls Try.prog 29 #[.pointer (some ⟨p, 0, none⟩), .agg #[.int .i64 (i : Nat), v]] w fun e w' => e = .returned (.tuple #[]) ∧ DiskIn w' p S F { D with blocks := D.blocks.set i (some l) } bv wv (bs.set i v) ws ∧ Frm S w w' := by
  obtain ⟨g, cap, rfl, hcap⟩ := h.bl.some_ (by omega)
  obtain ⟨A, c, rfl⟩ := hv.1.form
  have hfin := ((h.putBlock i hi _ _ hv).alloc (.cells #[.int .i64 (i : Nat), .slice A 128 c] 57)).drew
  have hfr := ((h.frmBlock i (.slice A 128 c)).alloc (.cells #[.int .i64 (i : Nat), .slice A 128 c] 57)).drew
  obtain ⟨cb, hcb⟩ : ∃ x, w.cell? ⟨g, i, none⟩ = some x := by
    obtain ⟨x, e1, _⟩ := h.bls i hi
    exact ⟨x, (h.bl.cell hi).trans e1⟩
  have hfz := h.bl.frozen i
  have hg := h.bl.lt (g := g) rfl
  have hp := h.blk.lt
  have c0 := h.blk.cell 0
  have hbn := h.ok.2.2.1
  clear h hv
  go_enter Try.func29, Try.ntmps29
  go_wp2
  go_region
  all_goals (go_end0; exact ⟨rfl, hfin, hfr⟩)

/-- What the first k of the waiting writes make of the blocks. -/
def landTo (ws : List (Nat × List Value)) (k : Nat) (bs : List (Option (List Value))) : List (Option (List Value)) := (ws.take k).foldl (fun bs x => bs.set x.1 (some x.2)) bs
theorem landTo_zero (ws : List (Nat × List Value)) (bs : List (Option (List Value))) : landTo ws 0 bs = bs := rfl
theorem landTo_succ (ws : List (Nat × List Value)) (k : Nat) (h : k < ws.length) (bs : List (Option (List Value))) : landTo ws (k + 1) bs = (landTo ws k bs).set ws[k].1 (some ws[k].2) := by
  unfold landTo
  rw [List.take_succ_eq_append_getElem h, List.foldl_append]
  rfl
theorem landTo_length (ws : List (Nat × List Value)) (k : Nat) (bs : List (Option (List Value))) : (landTo ws k bs).length = bs.length := by
  unfold landTo
  induction ws.take k generalizing bs with
  | nil => rfl
  | cons x r ih => simp only [List.foldl_cons]; rw [ih, List.length_set]

def ADisk.flushed (D : ADisk) : ADisk := { D.goes with blocks := landTo D.waits D.waits.length D.blocks, waits := [] }

/-- The waits' list is struck. -/
theorem DiskIn.noWaits (h : DiskIn w p S F D bv wv bs ws) : DiskIn (w.setCell ⟨p, 1, none⟩ (.slice none 0 0)) p S F { D with waits := [] } bv (.slice none 0 0) bs [] := by
  refine ⟨h.blk.put 1 _, h.own, ?_, ⟨World.ownsRow_nil _ _ _ _, by simp [Value.ownBlock]⟩, ?_, fun j hj => absurd hj (by simp), ?_⟩
  · exact h.bl.keepAt fun g' hg' => Below.heap_setCell _ _ _ _ (h.bl.ne h.blk (by decide) hg')
  · intro j hj
    obtain ⟨x, e1, hx⟩ := h.bls j hj
    exact ⟨x, e1, hx.put h.blk (by decide) 1 _⟩
  · obtain ⟨k1, k2, k3, k4, _⟩ := h.ok
    exact ⟨k1, k2, k3, k4, by simp⟩

set_option maxHeartbeats 400000 in
theorem Disk_Flush_yes (h : DiskAt w p S F D) (hcan : D.can = true) (hlen : D.waits.length ≤ 1099511627776) : Calls Try.prog 9 #[.pointer (some ⟨p, 0, none⟩)] w fun e w' => e = .returned (.int .i64 0) ∧ DiskAt w' p S F D.flushed ∧ Frm S w w' := by
  go_enter Try.func9, Try.ntmps9
  go_wp2_with fail
  refine (Disk_goes h).mono ?_
  rintro e w1 ⟨rfl, h1, hf1⟩
  rw [hcan]
  clear hcan
  obtain ⟨bv, wv, bs, ws, h1⟩ := h1
  have c1 := h1.blk.cell 1
  obtain ⟨A, c, rfl⟩ := h1.wt.form
  have hwl : D.goes.waits.length ≤ 1099511627776 := by rw [ADisk.goes_waits]; exact hlen
  go_wp2_with fail
  go_loopw [13] (fun i wr => ∃ k : Nat, k ≤ D.goes.waits.length ∧ i = .int .i64 k ∧ ∃ bs', DiskIn wr p S F { D.goes with blocks := landTo D.goes.waits k D.goes.blocks } bv (.slice A D.goes.waits.length c) bs' ws ∧ Frm S w wr) (fun i _ => D.goes.waits.length - (intOf i).toNat)
  case atStart => exact ⟨0, Nat.zero_le _, rfl, bs, h1, hf1⟩
  case round =>
    obtain ⟨k, hk, rfl, bs', hI, hF⟩ := hrel
    by_cases hlt : k < D.goes.waits.length
    · obtain ⟨g, cap, he, hcap⟩ := hI.wt.some_ (by show 0 < D.goes.waits.length; omega)
      injection he with he hn hc
      subst he hc
      clear hn
      obtain ⟨e0, v, e1, hv⟩ := hI.wts k hlt
      have d0 := (hI.wt.cells (i := k * 2) (by show k * 2 < D.goes.waits.length * 2; omega)).trans ((congrArg (ws[·]?) (Nat.mul_comm k 2)).trans e0)
      have d1 := (hI.wt.cells (i := k * 2 + 1) (by show k * 2 + 1 < D.goes.waits.length * 2; omega)).trans ((congrArg (fun x => ws[x + 1]?) (Nat.mul_comm k 2)).trans e1)
      obtain ⟨A2, c2, rfl⟩ := hv.1.form
      have hi' : D.goes.waits[k].1 < (landTo D.goes.waits k D.goes.blocks).length := by rw [landTo_length]; exact h1.ok.2.2.2.2 _ (List.getElem_mem _)
      generalize hat : D.goes.waits[k].1 = at_ at *
      have Hat := hide hat
      clear hat
      go_wp2_with fail
      refine (Disk_land (hI.alloc _) at_ (.slice A2 128 c2) D.goes.waits[k].2 hi' (hv.alloc _)).mono ?_
      rintro e w2 ⟨rfl, h2, hf2⟩
      have hF2 := (hF.alloc (.cells #[.int .i64 (at_ : Nat), .slice A2 128 c2] 57)).trans hf2 (fun _ _ h => h)
      go_wp2
      go_roundw
      case rel => exact ⟨k + 1, by omega, by go_num, _, by rw [landTo_succ _ _ hlt, Hat.out]; exact h2, hF2⟩
      case measure => simp [intOf]; omega
    · obtain rfl : k = D.goes.waits.length := by omega
      have f1 := hI.blk.frozen 1
      have c2 := hI.blk.cell 1
      have hfin := hI.noWaits
      have hF2 := hF.trans (hI.frmPut 1 (.slice none 0 0)) (fun _ _ h => h)
      have hfin' : DiskAt (wr.setCell ⟨p, 1, none⟩ (.slice none 0 0)) p S F D.flushed := by
        unfold ADisk.flushed
        rw [ADisk.goes_waits, ADisk.goes_blocks] at hfin
        exact ⟨_, _, _, _, hfin⟩
      clear hfin
      go_wp2
      go_ret
      exact ⟨rfl, hfin', hF2⟩

theorem Disk_Flush_no (h : DiskAt w p S F D) (hcan : D.can = false) : Calls Try.prog 9 #[.pointer (some ⟨p, 0, none⟩)] w fun e w' => e = .returned (.int .i64 7) ∧ DiskAt w' p S F D.goes ∧ Frm S w w' := by
  go_enter Try.func9, Try.ntmps9
  go_wp2_with fail
  refine (Disk_goes h).mono ?_
  rintro e w1 ⟨rfl, h1, hf1⟩
  rw [hcan]
  clear hcan
  go_wp2
  go_ret
  exact ⟨rfl, h1, hf1⟩

/-- Flush: the disk behind it, and the status. -/
def ADisk.flush (D : ADisk) : ADisk × Int := if D.can = true then (D.flushed, 0) else (D.goes, 7)
theorem Disk_Flush (h : DiskAt w p S F D) (hlen : D.waits.length ≤ 1099511627776) : Calls Try.prog 9 #[.pointer (some ⟨p, 0, none⟩)] w fun e w' => e = .returned (.int .i64 D.flush.2) ∧ DiskAt w' p S F D.flush.1 ∧ Frm S w w' := by
  unfold ADisk.flush
  cases hc : D.can with
  | true => rw [if_pos rfl]; exact Disk_Flush_yes h hc hlen
  | false => rw [if_neg (by simp)]; exact Disk_Flush_no h hc
end
end Go.Proofs.Ytablmgnhpciljaa
