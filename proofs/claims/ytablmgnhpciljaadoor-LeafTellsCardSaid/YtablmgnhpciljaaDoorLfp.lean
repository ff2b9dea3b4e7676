/- LeafTells answers true. -/
import Derived.Test.YtablmgnhpciljaaDoorLfo
namespace Go.Proofs.YtablmgnhpciljaaDoor
open Go.RowKit

theorem getL_ok (bs : List UInt8) : (leafOf (getL bs)).ok := by
  unfold getL
  split
  · rename_i h
    exact decode_ok h.1
  · exact ALeaf.zero_ok
theorem u8_bv (c : UInt8) : BitVec.ofInt 8 (c.toNat : Int) = c.toBitVec := by
  rw [BitVec.ofInt_natCast]
  apply BitVec.eq_of_toNat_eq
  rw [BitVec.toNat_ofNat]
  exact Nat.mod_eq_of_lt c.toNat_lt
theorem xor_u8 (a b : UInt8) : bits .xor .u8 (a.toNat : Int) (b.toNat : Int) = ((a ^^^ b).toNat : Int) := by
  show IntKind.u8.wrap ((BitVec.ofInt 8 (a.toNat : Int) ^^^ BitVec.ofInt 8 (b.toNat : Int)).toNat : Int) = _
  rw [u8_bv, u8_bv]
  have h2 := (a ^^^ b).toNat_lt
  have h3 : (a.toBitVec ^^^ b.toBitVec).toNat = (a ^^^ b).toNat := rfl
  rw [h3]
  simp only [IntKind.wrap_u8]
  omega

set_option maxRecDepth 1000000 in
set_option maxHeartbeats 4000000 in
theorem LeafTells_calls (l : ALeaf) (hl : l.ok) (bs : List UInt8) (vb : Value) (at_ : Int) (x : UInt8) (w : World) {F : Nat → Prop} (hrb : BRd w F vb bs) :
    Calls Tryd.prog 3 #[.agg l.cells, vb, .int .i64 at_, .int .u8 (x.toNat : Int)] w fun e w' => e = .returned (.bool true) ∧ Frm NoB w w' := by
  obtain ⟨Ab, cb, rfl, hcb⟩ := hrb.form
  have hb0 := Blk.new w 24 l.cells
  have hF0 := (Frm.refl NoB w).alloc (.cells l.cells 24)
  go_enter Tryd.func3, Tryd.ntmps3
  go_upto_region 1 with (fail)
  obtain ⟨W, hW⟩ : ∃ W, w.alloc (.cells l.cells 24) = W := ⟨_, rfl⟩
  obtain ⟨b, hbe⟩ : ∃ b, w.heap.size = b := ⟨_, rfl⟩
  rw [hW] at hb0 hF0 ⊢
  rw [hbe] at hb0 ⊢
  clear hW hbe
  have hsz := leaf_size l hl
  have Hb0 := hide hb0
  clear hb0
  go_wp2_with (first | (refine wpList_load_row rfl 24 _ rfl b rfl 24 l.cells (0, 0) _ Hb0.out Tryd.underlying24 rfl hsz ?_) | fail)
  refine (Put_calls l hl W).mono ?_
  rintro e W1 ⟨v9, rfl, ho9, hf1⟩
  have hb1 := Hb0.out.frm hf1 (fun h => h)
  have hF1 := hF0.trans hf1 (fun _ _ h => h)
  have hrb1 := hrb.frm hF1
  clear hf1 Hb0
  have Hb1 := hide hb1
  have Hrb1 := hide hrb1
  have Ho9 := hide ho9
  clear hb1 hrb1 ho9 hrb
  go_upto_region 2 with (fail)
  have hF2 := (Frm.refl NoB W1).alloc (.cells #[] 5)
  have ho2 := BOwn.lit0 (w0 := W1) (Nat.le_refl W1.heap.size)
  go_cut [10] (fun v W' => ∃ own, BOwn W1 W' v own ∧ own.length ≤ 140 ∧ Frm NoB W1 W')
  case first =>
    by_cases hm : (bs.length : Int) ≤ 140
    · have hr := Hrb1.out.frm hF2
      have hlen : ([] : List UInt8).length + bs.length ≤ 140737488355328 := by simp; omega
      go_wp2_with (first | (at_builtin; refine wpList_bytes rfl (.tmp 18) (.tmp 23) rfl W1 hF2 (.slice (some ⟨W1.heap.size, 0, none⟩) 0 0) [] rfl ho2 _ (.slice Ab bs.length cb) bs rfl hr hlen ?_; intro v3 w3 ho3 hF3 _) | fail)
      go_meet
      exact ⟨_, ho3, by simp; omega, hF3⟩
    · have hr := (Hrb1.out.frm hF2).take 140 (by omega)
      have hlen : ([] : List UInt8).length + (bs.take 140).length ≤ 140737488355328 := by simp; omega
      have hcI : (140 : Int) ≤ (cb : Int) := by omega
      go_wp2_with (first | (at_builtin; refine wpList_bytes rfl (.tmp 18) (.tmp 23) rfl W1 hF2 (.slice (some ⟨W1.heap.size, 0, none⟩) 0 0) [] rfl ho2 _ (.slice Ab 140 cb) (bs.take 140) rfl hr hlen ?_; intro v3 w3 ho3 hF3 _) | fail)
      go_meet
      exact ⟨_, ho3, by simp; omega, hF3⟩
  case rest =>
  obtain ⟨own0, ho, hol, hFo⟩ := hcut
  clear hF2 ho2
  obtain ⟨A9, c9, hv9⟩ := Ho9.out.form
  subst hv9
  go_upto_if 27 with (fail)
  go_cut [9, 10] (fun u9 v W' => u9 = .slice A9 l.put.length c9 ∧ ∃ own, BOwn W1 W' v own ∧ own.length ≤ 140 ∧ Frm NoB W1 W')
  case first =>
    by_cases hR : l.Right
    · have hn : l.put.length = 128 := by rw [put_length l hl, if_pos hR]
      have ho9 := Ho9.out
      have hf2 : Frm NoB wc (wc.alloc (.cells #[] 5)) := (Frm.refl NoB wc).alloc _
      have hF2 := hFo.alloc (.cells #[] 5)
      have ho2 := BOwn.lit0 (w0 := W1) (w := wc) hFo.size
      have hr := (ho9.frm hF2).rd
      have hlen : ([] : List UInt8).length + l.put.length ≤ 140737488355328 := by rw [hn]; simp
      rw [hn] at hr ⊢
      have hq : (0 : Int) < 128 := by omega
      have Hn := hide hn
      clear hn ho9 ho
      go_upto_region 5 with (first | (at_builtin; refine wpList_bytes rfl (.tmp 28) (.tmp 29) rfl W1 hF2 (.slice (some ⟨wc.heap.size, 0, none⟩) 0 0) [] rfl ho2 _ (.slice A9 128 c9) l.put rfl hr hlen ?_; intro v3 w3 ho3 hF3 _) | fail)
      rw [List.nil_append] at ho3
      obtain ⟨g3, c3, rfl, hc3⟩ := Own.some_ ho3 (by rw [Hn.out]; omega)
      rw [Hn.out] at ho3 hc3 ⊢
      clear hr hlen hF2 ho2 hf2
      go_wp2_with fail
      refine (Within_calls at_ 127 (by omega) (by omega) w3).mono ?_
      rintro e w4 ⟨k, hk, rfl, rfl⟩
      have hk0 : (0 : Int) ≤ (k : Int) := by omega
      have hk128 : (k : Int) < 128 := by omega
      have hkl : k < l.put.length := by rw [Hn.out]; omega
      have d1 : w3.cell? ⟨g3, k, none⟩ = some (byt (l.put[k])) := by
        have := Own.cell (F := GeB W1) (e := 5) (n := l.put.length) (g := g3) (cap := c3) (m := 128) (xs := l.put.map byt) (w := w3) ho3 (i := k) hkl
        rw [this]
        simp [hkl]
      have d2 : w3.frozen? ⟨g3, k, none⟩ = false := by
        exact Own.frozen (show Own w3 (GeB W1) 5 1 (.slice (some ⟨g3, 0, none⟩) 128 c3) l.put.length (l.put.map byt) from ho3) k
      have d3 : BOwn W1 (w3.setCell ⟨g3, k, none⟩ (byt (l.put[k] ^^^ x))) (.slice (some ⟨g3, 0, none⟩) 128 c3) (l.put.set k (l.put[k] ^^^ x)) := by
        unfold BOwn at ho3 ⊢
        rw [List.length_set, List.map_set]
        exact Own.set_ ho3 rfl hkl _
      have d4 : Frm NoB W1 (w3.setCell ⟨g3, k, none⟩ (byt (l.put[k] ^^^ x))) := hF3.setCell (fun h => absurd (ho3.2 g3 rfl) (Nat.not_le_of_lt h)) _
      have hxor := xor_u8 l.put[k] x
      simp only [byt] at d1 d3 d4
      obtain ⟨y, hy⟩ : ∃ y, l.put[k] = y := ⟨_, rfl⟩
      rw [hy] at d1 d3 d4 hxor
      obtain ⟨z, hz⟩ : ∃ z, (y ^^^ x).toNat = z := ⟨_, rfl⟩
      rw [hz] at d3 d4 hxor
      have D3 := hide d3
      clear ho3 hy hz d3 hF3
      go_wp2
      go_meet
      exact ⟨by rw [Hn.out], _, D3.out, by rw [List.length_set, Hn.out]; omega, d4⟩
    · have hn : l.put.length = 0 := by rw [put_length l hl, if_neg hR]
      rw [hn]
      have hq : decide ((0 : Int) < ((0 : Nat) : Int)) = false := by simp
      have Hn := hide hn
      clear hn
      go_wp2
      go_meet
      exact ⟨by rw [Hn.out], own0, ho, hol, hFo⟩
  case rest =>
  clear ho hol hFo
  obtain ⟨rfl, own, ho, hol, hFo⟩ := hcut
  obtain ⟨A10, c10, hv10⟩ := ho.form
  subst hv10
  have R := Roomy_calls own (.slice A10 own.length c10) 7 wc ho.rd (by omega)
  rw [show (((7 : UInt8).toNat : Nat) : Int) = 7 from rfl] at R
  have HR := hide R
  have holI : (own.length : Int) ≤ 140 := by omega
  clear R
  go_wp2_with fail
  refine HR.out.mono ?_
  rintro e w2 ⟨gf, rfl, hof, hf2⟩
  have ho2 := ho.frm hf2
  have hF2 := hFo.trans hf2 (fun _ _ h => h)
  have hfull : BRd w2 (GeB wc) (.slice (some ⟨gf, 0, none⟩) (own.length + 80) (own.length + 80)) (own ++ List.replicate 80 7) := by
    have := hof.rd
    unfold BRd at this ⊢
    exact this
  have hpart : BRd w2 (GeB wc) (.slice (some ⟨gf, 0, none⟩) own.length (own.length + 80)) own := by
    have := hfull.take own.length (by simp)
    rw [List.take_left] at this
    exact this
  have HG := hide (Get_calls own _ w2 hpart)
  have Hfull := hide hfull
  have Ho2 := hide ho2
  clear hf2 hFo hfull hpart hof ho2 ho HR
  go_wp2_with fail
  refine HG.out.mono ?_
  rintro e w3 ⟨rfl, hf3⟩
  have hm := getL_ok own
  obtain ⟨m, hme⟩ : ∃ m, leafOf (getL own) = m := ⟨_, rfl⟩
  obtain ⟨is, hise⟩ : ∃ is, (getL own).isSome = is := ⟨_, rfl⟩
  rw [hme] at hm ⊢
  rw [hise]
  have Hme := hide hme
  have Hise := hide hise
  clear hme hise HG
  have hF3 := hF2.trans hf3 (fun _ _ h => h)
  have ho3 := Ho2.out.frm hf3
  have hfull3 := Hfull.out.frm hf3
  have hb0 := Blk.new w3 24 Tryd.zeroCells24
  have hszm : (Tryd.zeroCells24).size = m.cells.size := by rw [ALeaf.cells_size hm]; rfl
  have hlim := leaf_size m hm
  have Ho3 := hide ho3
  have Hfull3 := hide hfull3
  clear hf3 hF2 ho3 hfull3 Ho2 Hfull
  go_upto_region 8 with (first
    | (refine wpList_store_row rfl 24 _ _ rfl w3.heap.size m.cells rfl rfl 24 Tryd.zeroCells24 hb0 hlim hszm (cells_one _) ?_)
    | fail)
  obtain ⟨W4, hW4⟩ : ∃ W4, (w3.alloc (.cells Tryd.zeroCells24 24)).setRow w3.heap.size m.cells = W4 := ⟨_, rfl⟩
  obtain ⟨g4, hg4⟩ : ∃ g4, w3.heap.size = g4 := ⟨_, rfl⟩
  have hb4 : Blk W4 g4 24 m.cells := by rw [← hW4, ← hg4]; exact hb0.setRow_ _
  have hf4 : Frm NoB w3 W4 := by rw [← hW4]; exact ((Frm.refl NoB w3).alloc _).setRow (fun h => absurd h (Nat.lt_irrefl _)) _
  have hF4 := hF3.trans hf4 (fun _ _ h => h)
  have ho4 := Ho3.out.frm hf4
  have hfull4 := Hfull3.out.frm hf4
  rw [hW4, hg4]
  have Ho4 := hide ho4
  have Hfull4 := hide hfull4
  have Hb4 := hide hb4
  clear hW4 hg4 hb0 hf4 hF3 ho4 hfull4 Ho3 Hfull3 hb4
  have HG := hide (GetLeaf_calls own (.slice A10 own.length c10) W4 Ho4.out.rd)
  go_wp2_with fail
  refine HG.out.mono ?_
  rintro e w5 ⟨rfl, hf5⟩
  rw [Hme.out, Hise.out]
  have hF5 := hF4.trans hf5 (fun _ _ h => h)
  have ho5 := Ho4.out.frm hf5
  have hfull5 := Hfull4.out.frm hf5
  have hb5 := Hb4.out.frm hf5 (fun h => h)
  have hb0 := Blk.new w5 24 Tryd.zeroCells24
  have Ho5 := hide ho5
  have Hfull5 := hide hfull5
  have Hb5 := hide hb5
  clear hf5 hF4 ho5 hfull5 Ho4 Hfull4 hb5 Hb4 HG
  go_upto_region 9 with (first
    | (refine wpList_store_row rfl 24 _ _ rfl w5.heap.size m.cells rfl rfl 24 Tryd.zeroCells24 hb0 hlim hszm (cells_one _) ?_)
    | fail)
  obtain ⟨W6, hW6⟩ : ∃ W6, (w5.alloc (.cells Tryd.zeroCells24 24)).setRow w5.heap.size m.cells = W6 := ⟨_, rfl⟩
  obtain ⟨g6, hg6⟩ : ∃ g6, w5.heap.size = g6 := ⟨_, rfl⟩
  have hb6 : Blk W6 g6 24 m.cells := by rw [← hW6, ← hg6]; exact hb0.setRow_ _
  have hf6 : Frm NoB w5 W6 := by rw [← hW6]; exact ((Frm.refl NoB w5).alloc _).setRow (fun h => absurd h (Nat.lt_irrefl _)) _
  have hF6 := hF5.trans hf6 (fun _ _ h => h)
  have ho6 := Ho5.out.frm hf6
  have hfull6 := Hfull5.out.frm hf6
  have hb46 := Hb5.out.frm hf6 (fun h => h)
  have hb16 := Hb1.out.frm hF6 (fun h => h)
  have hp6 := Ho9.out.frm hF6
  rw [hW6, hg6]
  have Ho6 := hide ho6
  have Hfull6 := hide hfull6
  have Hb46 := hide hb46
  have Hb16 := hide hb16
  have Hb6 := hide hb6
  have Hp6 := hide hp6
  clear hW6 hg6 hb0 hf6 hF5 ho6 hfull6 Ho5 Hfull5 hb46 hb16 hb6 hp6 Hb5 hszm
  refine wp_region_held_drew (S := fun w' => Frm NoB W6 w') (by kernel_rfl) (Frm.refl NoB W6).drew (fun hS0 => ?_)
  refine wpAnyH_take (i := 0) (v := .agg l.cells) rfl (by kernel_rfl) (by kernel_rfl) (by kernel_rfl) (fun _ _ _ h => h) (yieldsIf_load_row (by rfl) 24 (.tmp 4) (by rfl) b (by rfl) 24 _ _ (fun w' h => Hb16.out.frm h (fun h => h)) Tryd.underlying24 rfl hsz) hS0 ?_
  simp only [List.getElem_toArray, List.getElem_cons_succ, List.getElem_cons_zero, Act.put, List.setIfInBounds_toArray, List.set_cons_zero, List.set_cons_succ]
  refine wpAnyH_take (i := 2) (v := .agg l.cells) rfl (by kernel_rfl) (by kernel_rfl) (by kernel_rfl) (fun _ _ _ h => h) (yieldsIf_load_row (by rfl) 24 (.tmp 4) (by rfl) b (by rfl) 24 _ _ (fun w' h => Hb16.out.frm h (fun h => h)) Tryd.underlying24 rfl hsz) hS0 ?_
  simp only [List.getElem_toArray, List.getElem_cons_succ, List.getElem_cons_zero, Act.put, List.setIfInBounds_toArray, List.set_cons_zero, List.set_cons_succ]
  refine wpAnyH_ready (rs := [1]) (by kernel_rfl) (by simp) (AllReadyH.cons rfl (fun K hK => ?_) AllReadyH.nil)
  go_simp
  refine (Right_calls l hl _).mono ?_
  rintro e x1 ⟨rfl, hx1⟩
  refine hK.out _ _ (hS0.trans hx1 (fun _ _ h => h)) (fun hS1 => ?_)
  clear hK K hS0
  refine wpAnyH_ready (rs := [3]) (by kernel_rfl) (by simp) (AllReadyH.cons rfl (fun K hK => ?_) AllReadyH.nil)
  go_simp
  refine (RightLeaf_calls l hl _).mono ?_
  rintro e x2 ⟨rfl, hx2⟩
  obtain ⟨d, hd⟩ : ∃ d, decide l.Right = d := ⟨_, rfl⟩
  rw [hd]
  clear hd
  refine hK.out _ _ (hS1.trans hx2 (fun _ _ h => h)) (fun hS2 => ?_)
  clear hK K hS1
  refine wpAnyH_take (i := 4) (v := ?v4) rfl (by kernel_rfl) (by kernel_rfl) (by kernel_rfl) (fun _ _ _ h => h) (Or.inl ⟨by rfl, ?h4⟩) hS2 ?_
  case h4 =>
    intro w hSw
    go_simp
    with_reducible rfl
  simp only [List.getElem_toArray, List.getElem_cons_succ, List.getElem_cons_zero, Act.put, List.setIfInBounds_toArray, List.set_cons_zero, List.set_cons_succ]
  refine wpAnyH_take (i := 5) (v := ?v5) rfl (by kernel_rfl) (by kernel_rfl) (by kernel_rfl) (fun _ _ _ h => h) (Or.inl ⟨by rfl, ?h5⟩) hS2 ?_
  case h5 =>
    intro w hSw
    go_simp
    with_reducible rfl
  simp only [List.getElem_toArray, List.getElem_cons_succ, List.getElem_cons_zero, Act.put, List.setIfInBounds_toArray, List.set_cons_zero, List.set_cons_succ]
  refine wpAnyH_take (i := 6) (v := ?v6) rfl (by kernel_rfl) (by kernel_rfl) (by kernel_rfl) (fun _ _ _ h => h) (Or.inl ⟨by rfl, ?h6⟩) hS2 ?_
  case h6 =>
    intro w hSw
    go_simp
    with_reducible rfl
  simp only [List.getElem_toArray, List.getElem_cons_succ, List.getElem_cons_zero, Act.put, List.setIfInBounds_toArray, List.set_cons_zero, List.set_cons_succ]
  refine wpAnyH_take (i := 7) (v := .agg l.cells) rfl (by kernel_rfl) (by kernel_rfl) (by kernel_rfl) (fun _ _ _ h => h) (yieldsIf_load_row (by rfl) 24 (.tmp 4) (by rfl) b (by rfl) 24 _ _ (fun w' h => Hb16.out.frm h (fun h => h)) Tryd.underlying24 rfl hsz) hS2 ?_
  simp only [List.getElem_toArray, List.getElem_cons_succ, List.getElem_cons_zero, Act.put, List.setIfInBounds_toArray, List.set_cons_zero, List.set_cons_succ]
  refine wpAnyH_ready (rs := [8]) (by kernel_rfl) (by simp) (AllReadyH.cons rfl (fun K hK => ?_) AllReadyH.nil)
  go_simp
  refine (PutLeaf_calls l hl _).mono ?_
  rintro e x3 ⟨v65, rfl, ho65, hx3⟩
  have hS2' := hS2.trans hx3 (fun _ _ h => h)
  have Ho65 := hide ho65
  clear ho65
  refine hK.out _ _ hS2' (fun hS3 => ?_)
  clear hK K hS2
  refine wpAnyH_ready (rs := [9]) (by kernel_rfl) (by simp) (AllReadyH.cons rfl (fun K hK => ?_) AllReadyH.nil)
  go_simp
  refine (Same_calls _ _ l.put l.put _ (Hp6.out.frm hS3).rd Ho65.out.rd (by rw [put_length l hl]; split <;> omega)).mono ?_
  rintro e x4 ⟨rfl, hx4⟩
  rw [decide_eq_true rfl]
  refine hK.out _ _ (hS3.trans hx4 (fun _ _ h => h)) (fun hS4 => ?_)
  clear hK K hS3
  refine wpAnyH_take (i := 10) (v := ?v10) rfl (by kernel_rfl) (by kernel_rfl) (by kernel_rfl) (fun _ _ _ h => h) (Or.inl ⟨by rfl, ?h10⟩) hS4 ?_
  case h10 =>
    intro w hSw
    go_simp
    with_reducible rfl
  simp only [List.getElem_toArray, List.getElem_cons_succ, List.getElem_cons_zero, Act.put, List.setIfInBounds_toArray, List.set_cons_zero, List.set_cons_succ]
  refine wpAnyH_take (i := 11) (v := ?v11) rfl (by kernel_rfl) (by kernel_rfl) (by kernel_rfl) (fun _ _ _ h => h) (Or.inl ⟨by rfl, ?h11⟩) hS4 ?_
  case h11 =>
    intro w hSw
    go_simp
    with_reducible rfl
  simp only [List.getElem_toArray, List.getElem_cons_succ, List.getElem_cons_zero, Act.put, List.setIfInBounds_toArray, List.set_cons_zero, List.set_cons_succ]
  refine wpAnyH_take (i := 12) (v := .agg m.cells) rfl (by kernel_rfl) (by kernel_rfl) (by kernel_rfl) (fun _ _ _ h => h) (yieldsIf_load_row (by rfl) 24 (.tmp 12) (by rfl) g4 (by rfl) 24 _ _ (fun w' h => Hb46.out.frm h (fun h => h)) Tryd.underlying24 rfl hlim) hS4 ?_
  simp only [List.getElem_toArray, List.getElem_cons_succ, List.getElem_cons_zero, Act.put, List.setIfInBounds_toArray, List.set_cons_zero, List.set_cons_succ]
  refine wpAnyH_take (i := 13) (v := .agg m.cells) rfl (by kernel_rfl) (by kernel_rfl) (by kernel_rfl) (fun _ _ _ h => h) (yieldsIf_load_row (by rfl) 24 (.tmp 14) (by rfl) g6 (by rfl) 24 _ _ (fun w' h => Hb6.out.frm h (fun h => h)) Tryd.underlying24 rfl hlim) hS4 ?_
  simp only [List.getElem_toArray, List.getElem_cons_succ, List.getElem_cons_zero, Act.put, List.setIfInBounds_toArray, List.set_cons_zero, List.set_cons_succ]
  refine wpAnyH_take (i := 14) (v := .bool (decide (m = m))) rfl (by kernel_rfl) (by kernel_rfl) (by kernel_rfl) (fun _ _ _ h => h) (Or.inl ⟨by rfl, ?h14⟩) hS4 ?_
  case h14 =>
    intro w hSw
    exact (exec_eql_leaf _ _ (.tmp 69) (.tmp 70) _ rfl m m hm hm rfl rfl w)
  simp only [List.getElem_toArray, List.getElem_cons_succ, List.getElem_cons_zero, Act.put, List.setIfInBounds_toArray, List.set_cons_zero, List.set_cons_succ]
  refine wpAnyH_take (i := 15) (v := ?v15) rfl (by kernel_rfl) (by kernel_rfl) (by kernel_rfl) (fun _ _ _ h => h) (Or.inl ⟨by rfl, ?h15⟩) hS4 ?_
  case h15 =>
    intro w hSw
    go_simp
    with_reducible rfl
  simp only [List.getElem_toArray, List.getElem_cons_succ, List.getElem_cons_zero, Act.put, List.setIfInBounds_toArray, List.set_cons_zero, List.set_cons_succ]
  refine wpAnyH_take (i := 16) (v := ?v16) rfl (by kernel_rfl) (by kernel_rfl) (by kernel_rfl) (fun _ _ _ h => h) (Or.inl ⟨by rfl, ?h16⟩) hS4 ?_
  case h16 =>
    intro w hSw
    go_simp
    with_reducible rfl
  simp only [List.getElem_toArray, List.getElem_cons_succ, List.getElem_cons_zero, Act.put, List.setIfInBounds_toArray, List.set_cons_zero, List.set_cons_succ]
  refine wpAnyH_take (i := 17) (v := ?v17) rfl (by kernel_rfl) (by kernel_rfl) (by kernel_rfl) (fun _ _ _ h => h) (Or.inl ⟨by rfl, ?h17⟩) hS4 ?_
  case h17 =>
    intro w hSw
    go_simp
    with_reducible rfl
  simp only [List.getElem_toArray, List.getElem_cons_succ, List.getElem_cons_zero, Act.put, List.setIfInBounds_toArray, List.set_cons_zero, List.set_cons_succ]
  refine wpAnyH_take (i := 18) (v := ?v18) rfl (by kernel_rfl) (by kernel_rfl) (by kernel_rfl) (fun _ _ _ h => h) (Or.inl ⟨by rfl, ?h18⟩) hS4 ?_
  case h18 =>
    intro w hSw
    go_simp
    with_reducible rfl
  simp only [List.getElem_toArray, List.getElem_cons_succ, List.getElem_cons_zero, Act.put, List.setIfInBounds_toArray, List.set_cons_zero, List.set_cons_succ]
  refine wpAnyH_take (i := 19) (v := ?v19) rfl (by kernel_rfl) (by kernel_rfl) (by kernel_rfl) (fun _ _ _ h => h) (Or.inl ⟨by rfl, ?h19⟩) hS4 ?_
  case h19 =>
    intro w hSw
    go_simp
    with_reducible rfl
  simp only [List.getElem_toArray, List.getElem_cons_succ, List.getElem_cons_zero, Act.put, List.setIfInBounds_toArray, List.set_cons_zero, List.set_cons_succ]
  refine wpAnyH_take (i := 20) (v := ?v20) rfl (by kernel_rfl) (by kernel_rfl) (by kernel_rfl) (fun _ _ _ h => h) (Or.inl ⟨by rfl, ?h20⟩) hS4 ?_
  case h20 =>
    intro w hSw
    go_simp
    with_reducible rfl
  simp only [List.getElem_toArray, List.getElem_cons_succ, List.getElem_cons_zero, Act.put, List.setIfInBounds_toArray, List.set_cons_zero, List.set_cons_succ]
  refine wpAnyH_take (i := 21) (v := ?v21) rfl (by kernel_rfl) (by kernel_rfl) (by kernel_rfl) (fun _ _ _ h => h) (Or.inl ⟨by rfl, ?h21⟩) hS4 ?_
  case h21 =>
    intro w hSw
    go_simp
    with_reducible rfl
  simp only [List.getElem_toArray, List.getElem_cons_succ, List.getElem_cons_zero, Act.put, List.setIfInBounds_toArray, List.set_cons_zero, List.set_cons_succ]
  refine wpAnyH_take (i := 22) (v := ?v22) rfl (by kernel_rfl) (by kernel_rfl) (by kernel_rfl) (fun _ _ _ h => h) (Or.inl ⟨by rfl, ?h22⟩) hS4 ?_
  case h22 =>
    intro w hSw
    go_simp
    with_reducible rfl
  simp only [List.getElem_toArray, List.getElem_cons_succ, List.getElem_cons_zero, Act.put, List.setIfInBounds_toArray, List.set_cons_zero, List.set_cons_succ]
  refine wpAnyH_take (i := 23) (v := ?v23) rfl (by kernel_rfl) (by kernel_rfl) (by kernel_rfl) (fun _ _ _ h => h) (Or.inl ⟨by rfl, ?h23⟩) hS4 ?_
  case h23 =>
    intro w hSw
    go_simp
    with_reducible rfl
  simp only [List.getElem_toArray, List.getElem_cons_succ, List.getElem_cons_zero, Act.put, List.setIfInBounds_toArray, List.set_cons_zero, List.set_cons_succ]
  refine wpAnyH_ready (rs := [24]) (by kernel_rfl) (by simp) (AllReadyH.cons rfl (fun K hK => ?_) AllReadyH.nil)
  go_simp
  have HI := Intact_calls own (.slice A10 own.length c10) 7 (some ⟨gf, 0, none⟩) (own.length + 80) x4 (Hfull6.out.frm hS4) (Ho6.out.frm hS4).rd (by omega)
  rw [show (((7 : UInt8).toNat : Nat) : Int) = 7 from rfl] at HI
  refine HI.mono ?_
  clear HI
  rintro e x5 ⟨rfl, hx5⟩
  refine hK.out _ _ (hS4.trans hx5 (fun _ _ h => h)) (fun hS5 => ?_)
  clear hK K hS4
  refine wpAnyH_take (i := 25) (v := ?v25) rfl (by kernel_rfl) (by kernel_rfl) (by kernel_rfl) (fun _ _ _ h => h) (Or.inl ⟨by rfl, ?h25⟩) hS5 ?_
  case h25 =>
    intro w hSw
    go_simp
    with_reducible rfl
  simp only [List.getElem_toArray, List.getElem_cons_succ, List.getElem_cons_zero, Act.put, List.setIfInBounds_toArray, List.set_cons_zero, List.set_cons_succ]
  refine wpAnyH_take (i := 26) (v := ?v26) rfl (by kernel_rfl) (by kernel_rfl) (by kernel_rfl) (fun _ _ _ h => h) (Or.inl ⟨by rfl, ?h26⟩) hS5 ?_
  case h26 =>
    intro w hSw
    go_simp
    with_reducible rfl
  simp only [List.getElem_toArray, List.getElem_cons_succ, List.getElem_cons_zero, Act.put, List.setIfInBounds_toArray, List.set_cons_zero, List.set_cons_succ]
  refine wpAnyH_ready (rs := [27]) (by kernel_rfl) (by simp) (AllReadyH.cons rfl (fun K hK => ?_) AllReadyH.nil)
  go_simp
  refine (LeafRuns_calls _).mono ?_
  rintro e x6 ⟨rfl, hx6⟩
  refine hK.out _ _ (hS5.trans hx6 (fun _ _ h => h)) (fun hS6 => ?_)
  clear hK K hS5
  refine wpAnyH_take (i := 28) (v := ?v28) rfl (by kernel_rfl) (by kernel_rfl) (by kernel_rfl) (fun _ _ _ h => h) (Or.inl ⟨by rfl, ?h28⟩) hS6 ?_
  case h28 =>
    intro w hSw
    go_simp
    with_reducible rfl
  simp only [List.getElem_toArray, List.getElem_cons_succ, List.getElem_cons_zero, Act.put, List.setIfInBounds_toArray, List.set_cons_zero, List.set_cons_succ]
  refine wpAnyH_ready (rs := [29]) (by kernel_rfl) (by simp) (AllReadyH.cons rfl (fun K hK => ?_) AllReadyH.nil)
  go_simp
  refine hK.out _ _ hS6 (fun _ => ?_)
  refine wpAnyH_done (by kernel_rfl) ?_ _
  clear hK K
  go_wp2
  go_ret
  exact ⟨rfl, (hF1.trans hF6 (fun _ _ h => h)).trans hS6 (fun _ _ h => h)⟩
end Go.Proofs.YtablmgnhpciljaaDoor
