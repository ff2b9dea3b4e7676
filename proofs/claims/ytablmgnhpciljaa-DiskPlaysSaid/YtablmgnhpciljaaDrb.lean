/- The reference's Write. -/
import Derived.Test.YtablmgnhpciljaaDra
import Derived.Deep.CutBlock
namespace Go.Proofs.Ytablmgnhpciljaa
open Go.RowKit

section
variable {w w' : World} {p : Nat} {S F G T : Nat → Prop} {D : ADisk} {bv dv av wv v : Value} {bs ds as_ ws : List Value}

theorem Own.val1 {e n : Nat} {xs : List Value} (h : Own w F e 1 v n xs) : v.cells.size = 1 := by obtain ⟨A, c, rfl⟩ := h.form; rfl

/-- The two lists of what waits are turned. -/
theorem RefIn.putWaits {w6 : World} (h : RefIn w p S F D bv dv av wv bs ds as_ ws) (hf : Frm (fun g => g = p) w w6) (a' w'' v' : Value) (i : Nat) (l : List Value) (hi : i < D.blocks.length) (n : Nat) (hn : n = D.waits.length + 1)
    (ha : Own w6 (NewB w w6) 3 1 a' n (as_ ++ [.int .i64 (i : Nat)])) (hw : Own w6 (NewB w w6) 28 1 w'' n (ws ++ [v'])) (hv : BlockIs w6 (NewB w w6) v' (some l))
    (hb6 : Blk w6 p 42 #[bv, dv, a', w'', .int .i64 D.fuse, .bool D.off, .int .i64 D.wrote]) :
    RefIn w6 p (OrB S (NewB w w6)) (OrB F (NewB w w6)) { D with waits := D.waits ++ [(i, l)] } bv dv a' w'' bs ds (as_ ++ [.int .i64 (i : Nat)]) (ws ++ [v']) := by
  subst hn
  have ow : ∀ (e sz n : Nat) (v : Value) (xs : List Value), e ≠ 42 → Own w S e sz v n xs → Own w6 (OrB S (NewB w w6)) e sz v n xs := fun e sz n v xs he ho =>
    (ho.keepAt fun g hg => hf.block g (ho.lt hg) (ho.ne h.blk he hg)).mono fun b _ hb => .inl hb
  have bi : ∀ (v : Value) (o : Option (List Value)), BlockIs w F v o → BlockIs w6 (OrB F (NewB w w6)) v o := fun v o hv =>
    (hv.keepAt fun g cs hg => hf.block g (lt_of_heap hg) (type_ne hg h.blk (by decide))).mono fun b _ hb => .inl hb
  have hal : as_.length = D.waits.length := by rw [h.at_.1.1, Nat.mul_one]
  have hwl : ws.length = D.waits.length := by rw [h.wt.1.1, Nat.mul_one]
  refine ⟨hb6, .inl h.own, ow _ _ _ _ _ (by decide) h.bl, ow _ _ _ _ _ (by decide) h.bd, ?_, ?_, ?_, ?_, ?_, ?_⟩
  · rw [List.length_append, List.length_singleton]
    exact ha.mono fun b _ hb => .inr hb
  · rw [List.length_append, List.length_singleton]
    exact hw.mono fun b _ hb => .inr hb
  · intro g hg hg'
    have h1 := h.bl.lt hg
    have h2 := (hw.2 g hg').1
    omega
  · intro j hj
    obtain ⟨v, l, b, e1, e2, hv, e3⟩ := h.bls j hj
    exact ⟨v, l, b, e1, e2, bi _ _ hv, e3⟩
  · intro j hj
    simp only [List.length_append, List.length_singleton] at hj
    rcases Nat.lt_or_ge j D.waits.length with hlt | hge
    · obtain ⟨e0, v, e, hv⟩ := h.wts j hlt
      refine ⟨?_, v, ?_, ?_⟩
      · rw [List.getElem?_append_left (by omega), List.getElem_append_left hlt]; exact e0
      · rw [List.getElem?_append_left (by omega)]; exact e
      · rw [List.getElem_append_left hlt]; exact bi _ _ hv
    · obtain rfl : j = D.waits.length := by omega
      refine ⟨?_, v', ?_, ?_⟩
      · rw [List.getElem?_append_right (by omega), hal]; simp
      · rw [List.getElem?_append_right (by omega), hwl]; simp
      · simp only [List.getElem_append_right (Nat.le_refl _), Nat.sub_self, List.getElem_singleton]
        exact hv.mono fun b _ hb => .inr hb
  · obtain ⟨k1, k2, k3, k4, k5⟩ := h.ok
    refine ⟨k1, k2, k3, k4, fun x hx => ?_⟩
    rcases List.mem_append.1 hx with hx | hx
    · exact k5 x hx
    · simp at hx; subst hx; exact hi

theorem RefIn.one (h : RefIn w p S F D bv dv av wv bs ds as_ ws) : (∀ u ∈ as_, u.oneCell' = true) ∧ (∀ u ∈ ws, u.oneCell' = true) := by
  constructor
  · intro u hu
    obtain ⟨j, hj, rfl⟩ := List.mem_iff_getElem.1 hu
    have hl := h.at_.1.1
    obtain ⟨e0, _⟩ := h.wts j (by omega)
    rw [List.getElem?_eq_getElem hj] at e0
    injection e0 with e0
    rw [e0]; rfl
  · intro u hu
    obtain ⟨j, hj, rfl⟩ := List.mem_iff_getElem.1 hu
    have hl := h.wt.1.1
    obtain ⟨_, v, e, hv⟩ := h.wts j (by omega)
    rw [List.getElem?_eq_getElem hj] at e
    injection e with e
    rw [e]
    obtain ⟨A, c, rfl⟩ := hv.1.form
    rfl

set_option maxHeartbeats 1000000 in
theorem Ref_Write_yes (h : RefAt w p S F D) (i : Nat) (v : Value) (l : List Value) (hr : Rd w G 1 v 128 l) (hb : isBlock l) (hd : ∀ b, b < w.heap.size → G b → ¬ S b)
    (hi' : i < D.blocks.length) (hcan : D.can = true) (hlen : D.waits.length ≤ 1099511627776) :
    Calls Try.prog 8 #[.pointer (some ⟨p, 0, none⟩), .int .i64 (i : Nat), v] w fun e w' =>
      e = .returned (.int .i64 0) ∧ RefAt w' p (OrB S (NewB w w')) (OrB F (NewB w w')) { D.goes with wrote := wrap64 (D.wrote + 1), waits := D.waits ++ [(i, l)] } ∧ Frm S w w' := by
  obtain ⟨_, A, c, rfl, hc, _⟩ := id hr
  obtain ⟨i3, hi3, hz30, hz31, hz32⟩ := info_parts Try.info3
  obtain ⟨i5, hi5, hz50, hz51, hz52⟩ := info_parts Try.info5
  obtain ⟨i8, hi8, hz80, hz81, hz82⟩ := info_parts Try.info28
  obtain ⟨c0, hc0⟩ : ∃ bv' : Value, w.cell? ⟨p, 0, none⟩ = some bv' ∧ ∃ A c, bv' = .slice A D.blocks.length c := by
    obtain ⟨bv, dv, av, wv, bs, ds, as_, ws, h⟩ := id h
    exact ⟨_, h.blk.cell 0, h.bl.form⟩
  obtain ⟨k0, Ab, cb, rfl⟩ := hc0
  have q1 : decide ((i : Int) < 0) = false := by simp
  have q2 : decide ((D.blocks.length : Int) ≤ (i : Int)) = false := by simp; omega
  have hone : ∀ u ∈ l, u.oneCell' = true := by
    intro u hu
    obtain ⟨x, rfl⟩ := hb.2 u hu
    rfl
  go_enter Try.func8, Try.ntmps8
  go_wp2_with fail
  refine (Ref_goes h).mono ?_
  rintro e w1 ⟨rfl, h1, hf1⟩
  rw [hcan]
  clear hcan k0 q1 q2
  obtain ⟨bv, dv, av, wv, bs, ds, as_, ws, h1⟩ := h1
  have c6 := h1.blk.cell 6
  have f6 := h1.blk.frozen 6
  have h2 := h1.put 6 (.int .i64 (wrap64 (D.goes.wrote + 1))) (D' := { D.goes with wrote := wrap64 (D.goes.wrote + 1) }) rfl rfl h1.ok rfl
  have hf2 := hf1.trans (h1.frmPut 6 (.int .i64 (wrap64 (D.goes.wrote + 1)))) (fun _ _ h => h)
  go_upto_region 6 with (fail)
  obtain ⟨w2, hw2⟩ : ∃ x, w1.setCell ⟨p, 6, none⟩ (.int .i64 (wrap64 (D.goes.wrote + 1))) = x := ⟨_, rfl⟩
  rw [hw2] at h2 hf2 ⊢
  clear hw2 h1 hf1 c6 f6
  have hpl := h2.blk.lt
  have c2 := h2.blk.cell 2
  have hwl : D.goes.waits.length ≤ 1099511627776 := by rw [ADisk.goes_waits]; exact hlen
  obtain ⟨hone1, hone2⟩ := h2.one
  have hr2 := hr.frm hf2 (fun b hb hl => hd b hl hb)
  have ra := h2.at_.rd
  have rw_ := h2.wt.rd
  have hN : Frm NoB w2 w2 := Frm.refl _ _
  go_upto_region 7 with (first
    | (at_builtin; refine wpList_new rfl (.tmp 34) (.tmp 38) 40 rfl w2 (hN.alloc _) 3 i3 _ 1 8 Try.underlying40 hi3 hz30 hz31 hz32 rfl (by omega) (.slice (some ⟨w2.heap.size, 0, none⟩) 0 0) 0 [] rfl (own_lit0G hN.size 3 1) S av D.goes.waits.length as_ rfl (ra.frm (hN.alloc _) (fun _ _ _ h => h)) hone1 (by simp only [maxLen]; omega) (by omega) ?_; intro v1 w3 ho3 hf3 _; simp only [Nat.zero_add, List.nil_append] at ho3; have hb3 := h2.blk.frm hf3 (fun h => h); have hl3 := hb3.lt; have d3 := hb3.cell)
    | (at_builtin; refine wpList_new rfl (.tmp 39) (.tmp 41) 40 rfl w2 (hf3.alloc _) 3 i3 _ 1 8 Try.underlying40 hi3 hz30 hz31 hz32 rfl (by omega) v1 D.goes.waits.length as_ rfl (ho3.frm ((Frm.refl NoB w3).alloc _) (fun _ _ _ h => h)) _ (.slice (some ⟨w3.heap.size, 0, none⟩) 1 1) 1 [.int .i64 (i : Nat)] rfl (rd_lit w3 3 1 1 #[.int .i64 (i : Nat)] rfl) (by simp [Value.oneCell']) (by simp only [maxLen]; omega) (by omega) ?_; intro v2 w4 ho4 hf4 _; obtain ⟨A4, c4, rfl⟩ := ho4.form; have hb4 := h2.blk.frm hf4 (fun h => h); have hl4 := hb4.lt; have d4 := hb4.cell 2; have e4 := hb4.frozen 2)
    | fail)
  have hb5 := hb4.put 2 (.slice A4 (D.goes.waits.length + 1) c4)
  have hW5 : ∀ g, g ≠ p → (w4.setCell ⟨p, 2, none⟩ (.slice A4 (D.goes.waits.length + 1) c4)).heap[g]? = w4.heap[g]? := fun g hg => Below.heap_setCell w4 _ _ _ hg
  have hs5 : (w4.setCell ⟨p, 2, none⟩ (.slice A4 (D.goes.waits.length + 1) c4)).heap.size = w4.heap.size := by simp
  have hwr5 : Rd (w4.setCell ⟨p, 2, none⟩ (.slice A4 (D.goes.waits.length + 1) c4)) (fun g => wv.ownBlock = some g) 1 wv D.goes.waits.length ws :=
    (((h2.wt.at_.frm hf4 (fun _ _ _ h => h)).putOther hb4 (by decide) _)).rd
  have hr5 : Rd (w4.setCell ⟨p, 2, none⟩ (.slice A4 (D.goes.waits.length + 1) c4)) G 1 (.slice A 128 c) 128 l :=
    hr.keep (by simpa using Nat.le_trans hf2.size hf4.size) fun b hb hl => by
      rw [hW5 b (by rintro rfl; exact hd _ hl hb h2.own), hf4.block b (Nat.lt_of_lt_of_le hl hf2.size) (fun h => h), hf2.block b hl (hd b hl hb)]
  have ho5 : Own (w4.setCell ⟨p, 2, none⟩ (.slice A4 (D.goes.waits.length + 1) c4)) (GeB w2) 3 1 (.slice A4 (D.goes.waits.length + 1) c4) (D.goes.waits.length + 1) (as_ ++ [.int .i64 (i : Nat)]) := ho4.putOther hb4 (by decide) _
  have hn5 : Frm (fun g => g = p) w2 (w4.setCell ⟨p, 2, none⟩ (.slice A4 (D.goes.waits.length + 1) c4)) := Frm.setCell (S := fun g => g = p) (hf4.mono (fun _ _ h => h.elim)) (p := ⟨p, 2, none⟩) (fun _ => rfl) _
  obtain ⟨w5, hw5⟩ : ∃ x, w4.setCell ⟨p, 2, none⟩ (.slice A4 (D.goes.waits.length + 1) c4) = x := ⟨_, rfl⟩
  rw [hw5] at hb5 hwr5 hr5 ho5 hn5 ⊢
  clear hw5 hW5 hs5 d4 e4 hb4 hl4 d3 hl3 hb3 ho4 hf4 ho3 hf3 c2 ra rw_ hr2 hone1 hwl
  have hwl : D.goes.waits.length ≤ 1099511627776 := by rw [ADisk.goes_waits]; exact hlen
  have hN5 : Frm NoB w5 w5 := Frm.refl _ _
  have d5 := hb5.cell 3
  have hl5 := hb5.lt
  go_wp2_with (first
    | (at_builtin; refine wpList_new rfl (.tmp 46) (.tmp 50) 38 rfl w5 (hN5.alloc _) 28 i8 _ 1 24 Try.underlying38 hi8 hz80 hz81 hz82 rfl (by omega) (.slice (some ⟨w5.heap.size, 0, none⟩) 0 0) 0 [] rfl (own_lit0G hN5.size 28 1) _ wv D.goes.waits.length ws rfl (hwr5.frm (hN5.alloc _) (fun _ _ _ h => h)) hone2 (by simp only [maxLen]; omega) (by omega) ?_; intro v6 w6 ho6 hf6 _; simp only [Nat.zero_add, List.nil_append] at ho6)
    | (at_builtin; refine wpList_new rfl (.tmp 52) (.tmp 53) 28 rfl w6 ((Frm.refl NoB w6).alloc _) 5 i5 _ 1 1 Try.underlying28 hi5 hz50 hz51 hz52 rfl (by omega) (.slice (some ⟨w6.heap.size, 0, none⟩) 0 0) 0 [] rfl (own_lit0G (Nat.le_refl _) 5 1) G (.slice A 128 c) 128 l rfl (hr5.frm (hf6.alloc _) (fun _ _ _ h => h)) hone (by simp only [maxLen]; omega) (by omega) ?_; intro v7 w7 ho7 hf7 _; simp only [Nat.zero_add, List.nil_append] at ho7; obtain ⟨A7, c7, rfl⟩ := ho7.form)
    | (at_builtin; refine wpList_app rfl (.tmp 51) (.tmp 55) 38 rfl 28 i8 _ 1 24 Try.underlying38 hi8 hz80 hz81 hz82 rfl (by omega) (fun g => v6.ownBlock = some g) v6 D.goes.waits.length ws rfl ((ho6.at_.frm hf7 (fun _ _ _ h => h)).frm ((Frm.refl NoB w7).alloc _) (fun _ _ _ h => h)) _ (.slice (some ⟨w7.heap.size, 0, none⟩) 1 1) 1 [.slice A7 128 c7] rfl (rd_lit w7 28 1 1 #[.slice A7 128 c7] rfl) (by simp [Value.oneCell']) (by simp only [maxLen]; omega) (by omega) ?_; intro v8 w8 ho8 hf8 _; obtain ⟨A8, c8, rfl⟩ := ho8.form; have h58 : Frm NoB w5 w8 := ((hf6.trans hf7 (fun _ _ h => h)).alloc (.cells #[.slice A7 128 c7] 28)).trans hf8 (fun i hi h => by have := ho6.2 i h; simp only [GeB] at this; omega); have hb8 := hb5.frm h58 (fun h => h); have d8 := hb8.cell 3; have e8 := hb8.frozen 3)
    | fail)
  go_ret
  have hb9 := hb8.put 3 (.slice A8 (D.goes.waits.length + 1) c8)
  have h25 : w2.heap.size ≤ w5.heap.size := hn5.size
  have h56 : w5.heap.size ≤ w6.heap.size := hf6.size
  have hv8 : Own w8 (GeB w2) 5 1 (.slice A7 128 c7) 128 l :=
    (((ho7.frm ((Frm.refl NoB w7).alloc (.cells #[.slice A7 128 c7] 28)) (fun _ _ _ h => h)).keepAt (w' := w8) fun g hg => hf8.block g (Nat.lt_of_lt_of_le (ho7.lt hg) (by simp)) (fun h6 => by
      have h6' : Own w7 (fun g => v6.ownBlock = some g) 28 1 v6 D.goes.waits.length ws := ho6.at_.frm hf7 (fun _ _ _ h => h)
      exact ho7.neOwn h6' (by decide) hg h6)).mono fun b _ hb => by simp only [GeB] at hb ⊢; omega)
  have hw8 : Own w8 (GeB w2) 28 1 (.slice A8 (D.goes.waits.length + 1) c8) (D.goes.waits.length + 1) (ws ++ [.slice A7 128 c7]) :=
    ho8.mono fun b hl hb => by
      rcases hb with hb | hb
      · have := ho6.2 b hb; simp only [GeB] at this ⊢; omega
      · have h1 := hb.1; have h2 := hf7.size; simp at h1; simp only [GeB]; omega
  have ha8 : Own w8 (GeB w2) 3 1 (.slice A4 (D.goes.waits.length + 1) c4) (D.goes.waits.length + 1) (as_ ++ [.int .i64 (i : Nat)]) := ho5.frm h58 (fun _ _ _ h => h)
  have hfp : Frm (fun g => g = p) w2 (w8.setCell ⟨p, 3, none⟩ (.slice A8 (D.goes.waits.length + 1) c8)) := (hn5.trans (h58.mono (T := fun g => g = p) (fun _ _ h => h.elim)) (fun _ _ h => h)).setCell (p := ⟨p, 3, none⟩) (fun _ => rfl) _
  have hnew : ∀ b, b < (w8.setCell ⟨p, 3, none⟩ (.slice A8 (D.goes.waits.length + 1) c8)).heap.size → GeB w2 b → NewB w2 (w8.setCell ⟨p, 3, none⟩ (.slice A8 (D.goes.waits.length + 1) c8)) b := fun b hl hb => ⟨hb, hl⟩
  have hfin := h2.putWaits hfp (.slice A4 (D.goes.waits.length + 1) c4) (.slice A8 (D.goes.waits.length + 1) c8) (.slice A7 128 c7) i l (by show i < D.goes.blocks.length; rw [ADisk.goes_blocks]; exact hi') (D.goes.waits.length + 1) rfl
    ((ha8.putOther hb8 (by decide) _).mono hnew) ((hw8.putOther hb8 (by decide) _).mono hnew) (BlockIs.mono (BlockIs.put (o := some l) ⟨hv8, hb⟩ hb8 (by decide) 3 _) hnew) hb9
  have hSp : S p := h2.own
  refine ⟨rfl, ?_, hf2.trans (hfp.mono (T := S) (fun i _ h => by subst h; exact hSp)) (fun _ _ h => h)⟩
  rw [show ({ D.goes with wrote := wrap64 (D.wrote + 1), waits := D.waits ++ [(i, l)] } : ADisk) = { ({ D.goes with wrote := wrap64 (D.goes.wrote + 1) } : ADisk) with waits := D.goes.waits ++ [(i, l)] } from by simp only [ADisk.goes_waits, ADisk.goes_wrote]]
  refine RefAt.mono ⟨_, _, _, _, _, _, _, _, hfin⟩ (fun b _ hb => ?_) (fun b _ hb => ?_)
  · rcases hb with hb | hb
    · exact .inl hb
    · exact .inr ⟨Nat.le_trans hf2.size hb.1, hb.2⟩
  · rcases hb with hb | hb
    · exact .inl hb
    · exact .inr ⟨Nat.le_trans hf2.size hb.1, hb.2⟩

theorem Ref_Write_bad (h : RefAt w p S F D) (i : Int) (v : Value) (n : Nat) (l : List Value) (hr : Rd w G 1 v n l) (hno : ¬ (0 ≤ i ∧ i < D.blocks.length ∧ n = 128)) :
    Calls Try.prog 8 #[.pointer (some ⟨p, 0, none⟩), .int .i64 i, v] w fun e w' => e = .returned (.int .i64 1) ∧ w = w' := by
  obtain ⟨_, A, c, rfl, hc, _⟩ := id hr
  obtain ⟨bv, dv, av, wv, bs, ds, as_, ws, h⟩ := h
  have c0 := h.blk.cell 0
  obtain ⟨Ab, cb, rfl⟩ := h.bl.form
  clear hr hc h
  by_cases h0 : i < 0
  · clear hno
    go_enter Try.func8, Try.ntmps8
    go_wp2
    go_ret
    exact ⟨rfl, rfl⟩
  · have q1 : decide (i < 0) = false := by simp; omega
    by_cases h1 : (D.blocks.length : Int) ≤ i
    · clear hno
      go_enter Try.func8, Try.ntmps8
      go_wp2
      go_ret
      exact ⟨rfl, rfl⟩
    · have q2 : decide ((D.blocks.length : Int) ≤ i) = false := by simp; omega
      have q3 : ((n : Int) != 128) = true := by simp; omega
      clear hno
      go_enter Try.func8, Try.ntmps8
      go_wp2
      go_ret
      exact ⟨rfl, rfl⟩

theorem Ref_Write_down (h : RefAt w p S F D) (i : Int) (v : Value) (l : List Value) (hr : Rd w G 1 v 128 l) (hi : 0 ≤ i) (hi' : i < D.blocks.length) (hcan : D.can = false) :
    Calls Try.prog 8 #[.pointer (some ⟨p, 0, none⟩), .int .i64 i, v] w fun e w' => e = .returned (.int .i64 7) ∧ RefAt w' p S F D.goes ∧ Frm S w w' := by
  obtain ⟨_, A, c, rfl, hc, _⟩ := id hr
  clear hr
  obtain ⟨c0, hc0⟩ : ∃ bv' : Value, w.cell? ⟨p, 0, none⟩ = some bv' ∧ ∃ A c, bv' = .slice A D.blocks.length c := by
    obtain ⟨bv, dv, av, wv, bs, ds, as_, ws, h⟩ := id h
    exact ⟨_, h.blk.cell 0, h.bl.form⟩
  obtain ⟨k0, Ab, cb, rfl⟩ := hc0
  have q1 : decide (i < 0) = false := by simp; omega
  have q2 : decide ((D.blocks.length : Int) ≤ i) = false := by simp; omega
  go_enter Try.func8, Try.ntmps8
  go_wp2_with fail
  refine (Ref_goes h).mono ?_
  rintro e w1 ⟨rfl, h1, hf1⟩
  rw [hcan]
  clear hcan
  go_wp2
  go_ret
  exact ⟨rfl, h1, hf1⟩

theorem Ref_Write (h : RefAt w p S F D) (i : Int) (v : Value) (n : Nat) (l : List Value) (hr : Rd w G 1 v n l) (hb : ∀ u ∈ l, isByte u) (hd : ∀ b, b < w.heap.size → G b → ¬ S b) (hlen : D.waits.length ≤ 1099511627776) :
    Calls Try.prog 8 #[.pointer (some ⟨p, 0, none⟩), .int .i64 i, v] w fun e w' =>
      e = .returned (.int .i64 (D.write i l).2) ∧ RefAt w' p (OrB S (NewB w w')) (OrB F (NewB w w')) (D.write i l).1 ∧ Frm S w w' := by
  have hl : l.length = n := by have := hr.1; omega
  by_cases hg : 0 ≤ i ∧ i < D.blocks.length ∧ n = 128
  · obtain ⟨h0, h1, rfl⟩ := hg
    cases hc : D.can with
    | true =>
      have e : D.write i l = ({ D.goes with wrote := wrap64 (D.wrote + 1), waits := D.waits ++ [(i.toNat, l)] }, 0) := by
        unfold ADisk.write; rw [if_pos ⟨h0, h1, hl⟩, if_pos hc]
      rw [e]
      obtain ⟨k, rfl⟩ := Int.eq_ofNat_of_zero_le h0
      exact Ref_Write_yes h k v l hr ⟨hl, hb⟩ hd (by omega) hc hlen
    | false =>
      have e : D.write i l = (D.goes, 7) := by
        unfold ADisk.write; rw [if_pos ⟨h0, h1, hl⟩, if_neg (by simp [hc])]
      rw [e]
      refine (Ref_Write_down h i v l hr h0 h1 hc).mono ?_
      rintro e w' ⟨rfl, h2, h3⟩
      exact ⟨rfl, h2.mono (fun _ _ h => .inl h) (fun _ _ h => .inl h), h3⟩
  · have e : D.write i l = (D, 1) := by unfold ADisk.write; rw [if_neg (by rw [hl]; exact hg)]
    rw [e]
    refine (Ref_Write_bad h i v n l hr hg).mono ?_
    rintro e w' ⟨rfl, rfl⟩
    exact ⟨rfl, h.mono (fun _ _ h => .inl h) (fun _ _ h => .inl h), Frm.refl _ _⟩
end
end Go.Proofs.Ytablmgnhpciljaa
