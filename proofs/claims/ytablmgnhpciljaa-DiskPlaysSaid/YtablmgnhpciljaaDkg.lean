/- Disk: Twin. -/
import Derived.Test.YtablmgnhpciljaaDkf
namespace Go.Proofs.Ytablmgnhpciljaa
open Go.RowKit

section
variable {w : World} {p : Nat} {S F G : Nat → Prop} {D : ADisk} {bv wv : Value} {bs ws : List Value}

/-- A second disk out of the first's parts, the two lists copied. -/
theorem DiskIn.twin {w1 : World} (h : DiskIn w p S F D bv wv bs ws) (q : Nat) (b1 w1v : Value) (hf : Frm NoB w w1) (hq : w.heap.size ≤ q) (hb : Blk w1 q 53 #[bv, wv, .int .i64 D.fuse, .bool D.off, .int .i64 D.wrote])
    (h1 : Own w1 (NewB w w1) 28 1 b1 D.blocks.length bs) (h2 : Own w1 (NewB w w1) 57 2 w1v D.waits.length ws) :
    DiskAt ((w1.setCell ⟨q, 0, none⟩ b1).setCell ⟨q, 1, none⟩ w1v) q (NewB w w1) F D ∧ Frm NoB w ((w1.setCell ⟨q, 0, none⟩ b1).setCell ⟨q, 1, none⟩ w1v) := by
  have hq1 : q < w1.heap.size := hb.lt
  have hb2 := (hb.put 0 b1).put 1 w1v
  have hcont : ∀ (v : Value) (o : Option (List Value)), BlockIs w F v o → BlockIs ((w1.setCell ⟨q, 0, none⟩ b1).setCell ⟨q, 1, none⟩ w1v) F v o := fun v o hv =>
    ((hv.keepAt (w' := w1) fun g cs hg => hf.block g (lt_of_heap hg) fun h => h).put hb (by decide) 0 b1).put (hb.put 0 b1) (by decide) 1 w1v
  have hfar : ∀ (e sz n : Nat) (v : Value) (xs : List Value), e ≠ 53 → Own w1 (NewB w w1) e sz v n xs → Own ((w1.setCell ⟨q, 0, none⟩ b1).setCell ⟨q, 1, none⟩ w1v) (NewB w w1) e sz v n xs := by
    intro e sz n v xs he ho
    have h3 : Own (w1.setCell ⟨q, 0, none⟩ b1) (NewB w w1) e sz v n xs := ho.keepAt fun g hg => Below.heap_setCell _ _ _ _ (ho.ne hb he hg)
    exact h3.keepAt fun g hg => Below.heap_setCell _ _ _ _ (h3.ne (hb.put 0 b1) he hg)
  refine ⟨⟨b1, w1v, bs, ws, hb2, ⟨hq, hq1⟩, hfar _ _ _ _ _ (by decide) h1, hfar _ _ _ _ _ (by decide) h2, ?_, ?_, h.ok⟩, ?_⟩
  · intro j hj
    obtain ⟨v, e, hv⟩ := h.bls j hj
    exact ⟨v, e, hcont v _ hv⟩
  · intro j hj
    obtain ⟨e0, v, e, hv⟩ := h.wts j hj
    exact ⟨e0, v, e, hcont v _ hv⟩
  · exact (hf.setCell (p := ⟨q, 0, none⟩) (fun h => absurd hq (Nat.not_le_of_lt h)) _).setCell (p := ⟨q, 1, none⟩) (fun h => absurd hq (Nat.not_le_of_lt h)) _

theorem nil_of_own {e sz n : Nat} {v : Value} {xs : List Value} (h : Own w F e sz v n xs) : ∀ c, v = .slice none n c → v = .slice none 0 0 := by
  intro c hc
  rcases h.1.2 with ⟨rfl, _⟩ | ⟨g, cap, cur, rfl, _⟩
  · rfl
  · cases hc

set_option maxHeartbeats 1000000 in
theorem Disk_Twin (h : DiskAt w p S F D) (hlen : D.waits.length ≤ 1099511627776) : Calls Try.prog 16 #[.pointer (some ⟨p, 0, none⟩)] w fun e w' =>
    ∃ q, e = .returned (.pointer (some ⟨q, 0, none⟩)) ∧ DiskAt w' q (NewB w w') F D ∧ Frm NoB w w' := by
  obtain ⟨bv, wv, bs, ws, h⟩ := h
  obtain ⟨gb, capb, rfl, hcap⟩ := h.bl.some_ h.ok.2.2.2.1
  obtain ⟨A, c, rfl⟩ := h.wt.form
  have hone1 : ∀ u ∈ bs, u.oneCell' = true := by
    intro u hu
    obtain ⟨j, hj, rfl⟩ := List.mem_iff_getElem.1 hu
    have hjl : j < D.blocks.length := by have := h.bl.1.1; omega
    obtain ⟨v, e, hv⟩ := h.bls j hjl
    rw [List.getElem?_eq_getElem hj] at e
    injection e with e
    rw [e]
    cases hb : D.blocks[j] with
    | none => rw [hb] at hv; rw [show v = .slice none 0 0 from hv]; rfl
    | some l => rw [hb] at hv; obtain ⟨A, c, rfl⟩ := hv.1.form; rfl
  have hone2 : ∀ u ∈ ws, u.oneCell' = true := by
    intro u hu
    obtain ⟨j, hj, rfl⟩ := List.mem_iff_getElem.1 hu
    have hwl := h.wt.1.1
    have hjl : j / 2 < D.waits.length := by omega
    obtain ⟨e0, v, e, hv⟩ := h.wts (j / 2) hjl
    rcases Nat.mod_two_eq_zero_or_one j with hm | hm
    · rw [show 2 * (j / 2) = j from by omega, List.getElem?_eq_getElem hj] at e0
      injection e0 with e0
      rw [e0]; rfl
    · rw [show 2 * (j / 2) + 1 = j from by omega, List.getElem?_eq_getElem hj] at e
      injection e with e
      rw [e]
      obtain ⟨A, c, rfl⟩ := hv.1.form; rfl
  have hnw := nil_of_own h.wt
  have hnb := nil_of_own h.bl
  have hbl : D.blocks.length * 24 ≤ 140737488355328 := by have := h.ok.2.2.1; omega
  have hb0 := h.blk
  have hp := h.blk.lt
  have cc := h.blk.cell
  have c0 := cc 0
  have c1 := cc 1
  have c2 := cc 2
  have c3 := cc 3
  have c4 := cc 4
  clear cc
  go_enter Try.func16, Try.ntmps16
  go_wp2_with fail
  have hA := (h.alloc (.cells #[.slice (some ⟨gb, 0, none⟩) D.blocks.length capb, .slice A D.waits.length c, .int .i64 D.fuse, .bool D.off, .int .i64 D.wrote] 53)).drew
  have hqb := (Blk.new w 53 #[.slice (some ⟨gb, 0, none⟩) D.blocks.length capb, .slice A D.waits.length c, .int .i64 D.fuse, .bool D.off, .int .i64 D.wrote]).drew
  have hfA := ((Frm.refl NoB w).alloc (.cells #[.slice (some ⟨gb, 0, none⟩) D.blocks.length capb, .slice A D.waits.length c, .int .i64 D.fuse, .bool D.off, .int .i64 D.wrote] 53)).drew
  have hsz : (w.alloc (.cells #[.slice (some ⟨gb, 0, none⟩) D.blocks.length capb, .slice A D.waits.length c, .int .i64 D.fuse, .bool D.off, .int .i64 D.wrote] 53)).drew.heap.size = w.heap.size + 1 := by simp
  obtain ⟨W, hW⟩ : ∃ W, w.alloc (.cells #[.slice (some ⟨gb, 0, none⟩) D.blocks.length capb, .slice A D.waits.length c, .int .i64 D.fuse, .bool D.off, .int .i64 D.wrote] 53) = W := ⟨_, rfl⟩
  rw [hW] at hA hqb hfA hsz ⊢
  clear hW c0 c1 c2 c3 c4 hb0
  obtain ⟨q, hq⟩ : ∃ q, q = w.heap.size := ⟨_, rfl⟩
  rw [← hq] at hqb ⊢
  have Hq := hide hq
  have Hsz := hide hsz
  clear hq hsz
  have hrb := hA.bl.rd
  have hrw := hA.wt.rd
  have hpb := hA.blk
  have c0 := hpb.cell 0
  have c1 := hpb.cell 1
  have hfin : ∀ (w5 : World) (b1 w1v : Value), Frm NoB W.drew w5 → Own w5 (NewB W.drew w5) 28 1 b1 D.blocks.length bs → Own w5 (NewB W.drew w5) 57 2 w1v D.waits.length ws →
      DiskAt ((w5.setCell ⟨q, 0, none⟩ b1).setCell ⟨q, 1, none⟩ w1v) q (NewB w w5) F D ∧ Frm NoB w ((w5.setCell ⟨q, 0, none⟩ b1).setCell ⟨q, 1, none⟩ w1v) := by
    intro w5 b1 w1v hf5 o1 o2
    have hn : ∀ b, NewB W.drew w5 b → NewB w w5 b := fun b hb => ⟨by have := hb.1; have := Hsz.out; omega, hb.2⟩
    exact h.twin q b1 w1v (hfA.trans hf5 (fun _ _ h => h)) (by rw [Hq.out]; exact Nat.le_refl _) (hqb.frm hf5 (fun h => h)) (o1.mono fun b _ => hn b) (o2.mono fun b _ => hn b)
  have Hfin := hide hfin
  clear hfin hfA
  have hne1 := hA.bl
  clear hne1
  go_region_law (go_simp; first | (go_at_call 31; refine (clone_rows _ S _ _ _ hrb hone1 hbl hnb).mono ?_; rintro e w3 ⟨b1, rfl, _, ho1, hf1⟩; have hrb := hrb.frm hf1 (fun _ _ _ h => h); have hrw := hrw.frm hf1 (fun _ _ _ h => h); have hpb := hpb.frm hf1 (fun h => h); have c0 := hpb.cell 0; have c1 := hpb.cell 1; have hqb := hqb.frm hf1 (fun h => h); have q0 := hqb.cell 0; have q1 := hqb.cell 1; have f0 := hqb.frozen 0; have f1 := hqb.frozen 1; obtain ⟨A1, k1, rfl⟩ := ho1.form) | (go_at_call 32; refine (clone_writes _ S _ _ _ hrw hone2 (by omega) hnw).mono ?_; rintro e w4 ⟨b2, rfl, _, ho2, hf2⟩; have hrb := hrb.frm hf2 (fun _ _ _ h => h); have hrw := hrw.frm hf2 (fun _ _ _ h => h); have hpb := hpb.frm hf2 (fun h => h); have c0 := hpb.cell 0; have c1 := hpb.cell 1; have hqb := hqb.frm hf2 (fun h => h); have q0 := hqb.cell 0; have q1 := hqb.cell 1; have f0 := hqb.frozen 0; have f1 := hqb.frozen 1; obtain ⟨A2, k2, rfl⟩ := ho2.form))
  all_goals go_wp2
  all_goals go_ret
  all_goals first
    | (obtain ⟨g1, g2⟩ := Hfin.out w4 _ _ (hf1.trans hf2 (fun _ _ h => h)) ((ho1.frm hf2 (fun _ _ _ h => h)).mono fun b hl hb => ⟨hb.1, hl⟩) (ho2.mono fun b hl hb => ⟨Nat.le_trans hf1.size hb.1, hl⟩)
       exact ⟨q, rfl, g1.mono (fun b _ hb => ⟨hb.1, by simpa using hb.2⟩) (fun _ _ h => h), g2⟩)
    | (obtain ⟨g1, g2⟩ := Hfin.out w3 _ _ (hf2.trans hf1 (fun _ _ h => h)) (ho1.mono fun b hl hb => ⟨Nat.le_trans hf2.size hb.1, hl⟩) ((ho2.frm hf1 (fun _ _ _ h => h)).mono fun b hl hb => ⟨hb.1, hl⟩)
       exact ⟨q, rfl, g1.mono (fun b _ hb => ⟨hb.1, by simpa using hb.2⟩) (fun _ _ h => h), g2⟩)
end
end Go.Proofs.Ytablmgnhpciljaa
