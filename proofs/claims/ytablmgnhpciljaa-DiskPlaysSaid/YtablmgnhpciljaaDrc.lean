/- The reference's land. -/
import Derived.Test.YtablmgnhpciljaaDrb
namespace Go.Proofs.Ytablmgnhpciljaa
open Go.RowKit

section
variable {w w' : World} {p : Nat} {S F G T : Nat → Prop} {D : ADisk} {bv dv av wv v : Value} {bs ds as_ ws : List Value}

theorem RefIn.mono' (h : RefIn w p S F D bv dv av wv bs ds as_ ws) (hf : ∀ b, b < w.heap.size → F b → G b) : RefIn w p S G D bv dv av wv bs ds as_ ws := h.mono (fun _ _ h => h) hf

/-- A block is turned, and is whole again. -/
theorem RefIn.putBlock {g cap m gd capd md : Nat} (h : RefIn w p S F D (.slice (some ⟨g, 0, none⟩) m cap) (.slice (some ⟨gd, 0, none⟩) md capd) av wv bs ds as_ ws) (i : Nat) (hi : i < D.blocks.length) (v : Value) (l : List Value) (b : Bool) (hv : BlockIs w F v (some l)) :
    RefIn ((w.setCell ⟨g, i, none⟩ v).setCell ⟨gd, i, none⟩ (.bool b)) p S F { D with blocks := D.blocks.set i (if b = true then none else some l) } (.slice (some ⟨g, 0, none⟩) m cap) (.slice (some ⟨gd, 0, none⟩) md capd) av wv (bs.set i v) (ds.set i (.bool b)) as_ ws := by
  obtain ⟨cs, hcs⟩ := h.bl.type (g := g) rfl
  obtain ⟨cd, hcd⟩ := h.bd.type (g := gd) rfl
  have hgd : g ≠ gd := type_ne hcs hcd (by decide)
  have hcd1 : (w.setCell ⟨g, i, none⟩ v).heap[gd]? = some (.cells cd 4 (0, 0)) := (Below.heap_setCell _ _ _ _ (Ne.symm hgd)).trans hcd
  have far : ∀ (k : Nat), k ≠ g → k ≠ gd → ((w.setCell ⟨g, i, none⟩ v).setCell ⟨gd, i, none⟩ (.bool b)).heap[k]? = w.heap[k]? := fun k h1 h2 =>
    (Below.heap_setCell _ _ _ _ h2).trans (Below.heap_setCell _ _ _ _ h1)
  have hc : ∀ (x : Value) (o : Option (List Value)), BlockIs w F x o → BlockIs ((w.setCell ⟨g, i, none⟩ v).setCell ⟨gd, i, none⟩ (.bool b)) F x o := fun x o hx => (hx.put hcs (by decide) i v).put hcd1 (by decide) i _
  have hbl : bs.length = D.blocks.length := by have := h.bl.1.1; omega
  have hdl : ds.length = D.blocks.length := by have := h.bd.1.1; omega
  refine ⟨(far p (Ne.symm (h.bl.ne h.blk (by decide) rfl)) (Ne.symm (h.bd.ne h.blk (by decide) rfl))).trans h.blk, h.own, ?_, ?_, ?_, ?_, h.ne, ?_, ?_, ?_⟩
  · rw [List.length_set]
    exact (h.bl.set_ rfl hi v).putOther hcd1 (by decide) _
  · rw [List.length_set]
    exact (h.bd.putOther hcs (by decide) v).set_ rfl hi (.bool b)
  · exact (h.at_.putOther hcs (by decide) v).putOther hcd1 (by decide) _
  · refine Own.putOther (w := w.setCell ⟨g, i, none⟩ v) (h.wt.keepAt fun k hk => Below.heap_setCell _ _ _ _ ?_) hcd1 (by decide) _
    rintro rfl
    exact h.ne _ rfl hk
  · intro j hj
    rw [List.length_set] at hj
    by_cases e : i = j
    · subst e
      exact ⟨v, l, b, by rw [List.getElem?_set_self (by omega)], by rw [List.getElem?_set_self (by omega)], hc _ _ hv, by rw [List.getElem_set_self]⟩
    · obtain ⟨x, l', b', e1, e2, hx, e3⟩ := h.bls j hj
      exact ⟨x, l', b', by rw [List.getElem?_set_ne e]; exact e1, by rw [List.getElem?_set_ne e]; exact e2, hc _ _ hx, by rw [List.getElem_set_ne e]; exact e3⟩
  · intro j hj
    obtain ⟨e0, x, e1, hx⟩ := h.wts j hj
    exact ⟨e0, x, e1, hc _ _ hx⟩
  · obtain ⟨k1, k2, k3, k4, k5⟩ := h.ok
    exact ⟨k1, k2, by simpa using k3, by simpa using k4, fun x hx => by simpa using k5 x hx⟩

theorem RefIn.forms (h : RefIn w p S F D bv dv av wv bs ds as_ ws) {k : Nat} (hk : k < D.waits.length) :
    ∃ gb cb gd cd ga ca gw cw, bv = .slice (some ⟨gb, 0, none⟩) D.blocks.length cb ∧ dv = .slice (some ⟨gd, 0, none⟩) D.blocks.length cd ∧ av = .slice (some ⟨ga, 0, none⟩) D.waits.length ca ∧ wv = .slice (some ⟨gw, 0, none⟩) D.waits.length cw ∧
      gb < w.heap.size ∧ gd < w.heap.size ∧ ga < w.heap.size ∧ gw < w.heap.size ∧ gb ≠ p ∧ gd ≠ p ∧ ga ≠ p ∧ gw ≠ p ∧ gb ≠ gd ∧ gb ≠ ga ∧ gb ≠ gw ∧ gd ≠ ga ∧ gd ≠ gw := by
  obtain ⟨gb, cb, rfl, _⟩ := h.bl.some_ h.ok.2.2.2.1
  obtain ⟨gd, cd, rfl, _⟩ := h.bd.some_ h.ok.2.2.2.1
  obtain ⟨ga, ca, rfl, _⟩ := h.at_.some_ (by omega)
  obtain ⟨gw, cw, rfl, _⟩ := h.wt.some_ (by omega)
  obtain ⟨_, h1⟩ := h.bl.type (g := gb) rfl
  obtain ⟨_, h2⟩ := h.bd.type (g := gd) rfl
  obtain ⟨_, h3⟩ := h.at_.type (g := ga) rfl
  obtain ⟨_, h4⟩ := h.wt.type (g := gw) rfl
  exact ⟨gb, cb, gd, cd, ga, ca, gw, cw, rfl, rfl, rfl, rfl, lt_of_heap h1, lt_of_heap h2, lt_of_heap h3, lt_of_heap h4, type_ne h1 h.blk (by decide), type_ne h2 h.blk (by decide), type_ne h3 h.blk (by decide), type_ne h4 h.blk (by decide),
    type_ne h1 h2 (by decide), type_ne h1 h3 (by decide), fun e => h.ne gb rfl (by rw [e]; rfl), type_ne h2 h3 (by decide), type_ne h2 h4 (by decide)⟩

theorem setCell_cell_ne (w : World) (g i g' j : Nat) (u : Value) (h : g ≠ g') : (w.setCell ⟨g, i, none⟩ u).cell? ⟨g', j, none⟩ = w.cell? ⟨g', j, none⟩ := World.cell?_setCell_other w _ _ _ (by intro e; injection e with e; exact h e)

set_option maxHeartbeats 1000000 in
theorem Ref_land (h : RefIn w p S F D bv dv av wv bs ds as_ ws) (k : Nat) (hk : k < D.waits.length) :
    Calls Try.prog 30 #[.pointer (some ⟨p, 0, none⟩), .int .i64 (k : Nat)] w fun e w' => e = .returned (.tuple #[]) ∧
      (∃ bs' ds', RefIn w' p S (OrB F (NewB w w')) { D with blocks := D.blocks.set D.waits[k].1 (some D.waits[k].2) } bv dv av wv bs' ds' as_ ws) ∧ Frm S w w' := by
  obtain ⟨i5, hi5, hz50, hz51, hz52⟩ := info_parts Try.info5
  obtain ⟨gb, cb, gd, cd, ga, ca, gw, cw, rfl, rfl, rfl, rfl, lb, ld, la, lw, n1, n2, n3, n4, n5, n6, n7, n8, n9⟩ := h.forms hk
  obtain ⟨e0, v, e1, hv⟩ := h.wts k hk
  obtain ⟨A, c, rfl⟩ := hv.1.form
  have hi : D.waits[k].1 < D.blocks.length := h.ok.2.2.2.2 _ (List.getElem_mem _)
  have hbn := h.ok.2.2.1
  have hone : ∀ u ∈ D.waits[k].2, u.oneCell' = true := by
    intro u hu
    obtain ⟨x, rfl⟩ := hv.2.2 u hu
    rfl
  have hvb := hv.2
  generalize hat : D.waits[k].1 = at_ at *
  generalize hll : D.waits[k].2 = l at *
  clear hat hll
  have h1 := h.drew
  have r1 := h1.blk.cell 0
  have r2 := h1.blk.cell 2
  have r3 := h1.blk.cell 3
  have r4 := (h1.at_.cell hk).trans e0
  have r5 := (h1.wt.cell hk).trans e1
  have hrv : Rd w.drew F 1 (.slice A 128 c) 128 l := hv.drew.1.rd
  have h2 := h1.alloc (.cells #[] 5)
  have s1 := h2.blk.cell 0
  have s2 := h2.blk.cell 2
  have s3 := h2.blk.cell 3
  have s4 := (h2.at_.cell hk).trans e0
  have s5 := (h2.wt.cell hk).trans e1
  go_enter Try.func30, Try.ntmps30
  go_wp2_with fail
  go_region_held3 (fun w' => w'.cell? ⟨p, 0, none⟩ = some (.slice (some ⟨gb, 0, none⟩) D.blocks.length cb) ∧ w'.cell? ⟨p, 2, none⟩ = some (.slice (some ⟨ga, 0, none⟩) D.waits.length ca) ∧ w'.cell? ⟨p, 3, none⟩ = some (.slice (some ⟨gw, 0, none⟩) D.waits.length cw) ∧ w'.cell? ⟨ga, k, none⟩ = some (.int .i64 (at_ : Nat)) ∧ w'.cell? ⟨gw, k, none⟩ = some (.slice A 128 c))
    (first | exact ⟨u1, u2, u3, u4, u5⟩ | exact ⟨t1, t2, t3, t4, t5⟩ | exact ⟨s1, s2, s3, s4, s5⟩ | exact ⟨r1, r2, r3, r4, r5⟩)
    (first | (refine step_new rfl (.tmp 15) (.tmp 22) 28 rfl w.drew ((Frm.refl NoB w.drew).alloc _) 5 i5 _ 1 1 Try.underlying28 hi5 hz50 hz51 hz52 rfl (by omega) (.slice (some ⟨w.heap.size, 0, none⟩) 0 0) 0 [] ?c1 (own_lit0G (Nat.le_refl _) 5 1) F (.slice A 128 c) 128 l ?c2 (hrv.frm ((Frm.refl NoB w.drew).alloc _) (fun _ _ _ h => h)) hone (by simp only [maxLen]; omega) (by omega) ?_; (case c1 => go_simp); (case c2 => go_simp); intro v3 w3 ho3 hf3 _; simp only [Nat.zero_add, List.nil_append] at ho3; obtain ⟨A3, c3, rfl⟩ := ho3.form; have h3 := h1.frm hf3; have t1 := h3.blk.cell 0; have t2 := h3.blk.cell 2; have t3 := h3.blk.cell 3; have t4 := (h3.at_.cell hk).trans e0; have t5 := (h3.wt.cell hk).trans e1; obtain ⟨x3, t6⟩ : ∃ x, w3.cell? ⟨gb, at_, none⟩ = some x := (by obtain ⟨v', l', b', e1, _⟩ := h3.bls at_ hi; exact ⟨v', (h3.bl.cell hi).trans e1⟩); have t7 := h3.bl.frozen at_; have u1 := (setCell_cell_ne w3 gb at_ p 0 (.slice A3 128 c3) n1).trans t1; have u2 := (setCell_cell_ne w3 gb at_ p 2 (.slice A3 128 c3) n1).trans t2; have u3 := (setCell_cell_ne w3 gb at_ p 3 (.slice A3 128 c3) n1).trans t3; have u4 := (setCell_cell_ne w3 gb at_ ga k (.slice A3 128 c3) n6).trans t4; have u5 := (setCell_cell_ne w3 gb at_ gw k (.slice A3 128 c3) n7).trans t5))
  have hfin := h3.mono' (G := OrB F (NewB w w3)) (fun _ _ h => .inl h) |>.putBlock at_ hi (.slice A3 128 c3) l false ⟨ho3.mono fun b hl hb => .inr ⟨hb, hl⟩, hvb⟩
  have hfr := ((hf3.mono (T := S) (fun _ _ h => h.elim)).setCell (p := ⟨gb, at_, none⟩) (fun _ => h1.bl.2 gb rfl) (.slice A3 128 c3)).setCell (p := ⟨gd, at_, none⟩) (fun _ => h1.bd.2 gd rfl) (.bool false)
  have y1 := (setCell_cell_ne w3 gb at_ p 1 (.slice A3 128 c3) n1).trans (h3.blk.cell 1)
  obtain ⟨b3, y2⟩ : ∃ x, (w3.setCell ⟨gb, at_, none⟩ (.slice A3 128 c3)).cell? ⟨gd, at_, none⟩ = some x := by
    obtain ⟨_, _, b', _, e2, _⟩ := h3.bls at_ hi
    exact ⟨_, (setCell_cell_ne w3 gb at_ gd at_ (.slice A3 128 c3) n5).trans ((h3.bd.cell hi).trans e2)⟩
  have y3 : (w3.setCell ⟨gb, at_, none⟩ (.slice A3 128 c3)).frozen? ⟨gd, at_, none⟩ = false := by
    rw [World.frozen?_setCell]; exact h3.bd.frozen at_
  obtain ⟨w4, hw4⟩ : ∃ x, w3.setCell ⟨gb, at_, none⟩ (.slice A3 128 c3) = x := ⟨_, rfl⟩
  rw [hw4] at hfin hfr y1 y2 y3 u1 u2 u3 u4 u5 ⊢
  have hs4 : w4.heap.size = w3.heap.size := by rw [← hw4]; simp
  clear hw4 h1 h2 h3 r1 r2 r3 r4 r5 s1 s2 s3 s4 s5 t1 t2 t3 t4 t5 t6 t7 ho3
  go_wp2_with fail
  go_region
  all_goals
    go_end0
    refine ⟨rfl, ⟨_, _, (hfin.drew.mono' fun b hl hb => ?_)⟩, (Frm.refl S w).drew.trans hfr.drew (fun _ _ h => h)⟩
    rcases hb with hb | hb
    · exact .inl hb
    · exact .inr ⟨hb.1, by simpa using hl⟩
end
end Go.Proofs.Ytablmgnhpciljaa
