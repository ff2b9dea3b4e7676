/- LeafRuns. -/
import Derived.Test.YtablmgnhpciljaaDoorLfn
namespace Go.Proofs.YtablmgnhpciljaaDoor
open Go.RowKit

/-- append, with all that it may turn: the row's own block. -/
theorem wp_bytes2 {w : World} {o : Oper} {a : Act} {K : Act → World → Prop} {Q : Exit → Act → World → Prop} (s x : Operand)
    (ho : o.op = .call { callee := .builtin .append, args := #[s, x], argTypes := #[25, 25] }) (w0 : World) (hb : w0.heap.size ≤ w.heap.size)
    (v : Value) (l : List UInt8) (hs : a.eval s = v) (hown : BOwn w0 w v l)
    (G : Nat → Prop) (u : Value) (m : List UInt8) (hx : a.eval x = u) (hr : BRd w G u m) (hlen : l.length + m.length ≤ 140737488355328)
    (h : ∀ v' w', BOwn w0 w' v' (l ++ m) → Frm (fun g => v.ownBlock = some g) w w' → K (a.put o.dst v') w') : Oper.wp Tryd.prog o a w K Q := by
  obtain ⟨i, hi, hz⟩ := Option.map_eq_some_iff.1 Tryd.infoByte
  injection hz with hz0 hz1
  injection hz1 with hz1 hz2
  refine wp_app s x 25 ho 5 i _ 1 1 Tryd.underlying25 hi hz0 hz1 hz2 rfl Nat.one_pos (fun g => v.ownBlock = some g) v l.length (l.map byt) hs (Own.at_ hown) G u m.length (m.map byt) hx hr (byt_one m) (by simp only [maxLen]; omega) (by omega) fun v' w' h1 h2 _ => h v' w' ?_ h2
  unfold BOwn
  rw [List.length_append, List.map_append]
  refine h1.mono fun g _ hg => ?_
  rcases hg with hg | hg
  · exact hown.2 g hg
  · exact Nat.le_trans hb hg.1

def runL0 : ALeaf := { kind := 1, file := 258, place := 1, next := 3, size := 2, load := List.replicate 116 0 }
def runL : ALeaf := { kind := 1, file := 258, place := 1, next := 3, size := 2, load := 97 :: 98 :: List.replicate 114 0 }
theorem runL0_ok : runL0.ok := ⟨by simp [runL0], by simp [runL0, i64], by simp [runL0, i64], by simp [runL0, i64], by simp [runL0, i64], by simp [runL0, i64]⟩
theorem runL_ok : runL.ok := ⟨by simp [runL], by simp [runL, i64], by simp [runL, i64], by simp [runL, i64], by simp [runL, i64], by simp [runL, i64]⟩
theorem runL_right : runL.Right := by decide
theorem runL_cells : (runL0.cells.setIfInBounds 5 (.int .u8 97)).setIfInBounds 6 (.int .u8 98) = runL.cells := by
  unfold ALeaf.cells runL0 runL
  rw [show List.replicate 116 (0 : UInt8) = 0 :: 0 :: List.replicate 114 0 from rfl]
  simp only [List.setIfInBounds_toArray, List.set_cons_succ, List.set_cons_zero, List.map_cons]
  rfl
theorem runL_two : runL.put.take 2 ++ (runL.put.take 124).drop 116 = [97, 98, 2, 1, 1, 0, 3, 0, 2, 1] := by
  have hp : runL.put = runL.bytes := if_pos runL_right
  have hb : runL.body.length = 124 := body_length runL_ok
  have e1 : runL.put.take 124 = runL.body := by rw [hp]; unfold ALeaf.bytes; rw [← hb, List.take_left]
  have e2 : runL.put.take 2 = runL.body.take 2 := by rw [← e1, List.take_take]; rfl
  rw [e1, e2]
  decide

theorem runL_tail : (runL.put.take 124).drop 116 = [2, 1, 1, 0, 3, 0, 2, 1] := by
  have h := congrArg (List.drop 2) runL_two
  have h2 : (runL.put.take 2).length = 2 := by rw [List.length_take, put_length runL runL_ok, if_pos runL_right]; rfl
  rw [List.drop_append_of_le_length (by omega), List.drop_of_length_le (by omega), List.nil_append] at h
  exact h
def runLits : List UInt8 := [97, 98, 2, 1, 1, 0, 3, 0, 2, 1]
set_option maxRecDepth 1000000 in
set_option maxHeartbeats 2000000 in
theorem LeafRuns_calls (w : World) : Calls Tryd.prog 18 #[] w fun e w' => e = .returned (.bool true) ∧ Frm NoB w w' := by
  have hb0 := Blk.new w 24 Tryd.zeroCells24
  have hsz0 : (Tryd.zeroCells24).size = runL0.cells.size := by rw [ALeaf.cells_size runL0_ok]; rfl
  have hli0 := leaf_size runL0 runL0_ok
  have hbz : ∀ w : World, (Instr.build 24 #[(0, .int .i64 1), (1, .int .i64 258), (2, .int .i64 1), (3, .int .i64 3), (4, .int .i64 2)]).run Tryd.prog w = .ok (.agg runL0.cells) w := fun w => run_build w 24 _ _ (by first | rfl | kernel_rfl)
  go_enter Tryd.func18, Tryd.ntmps18
  go_upto_region 1 with (fail)
  go_upto_region 2 with (first
    | (refine wpList_build rfl 24 _ rfl #[(0, .int .i64 1), (1, .int .i64 258), (2, .int .i64 1), (3, .int .i64 3), (4, .int .i64 2)] (by simp [Act.eval]) runL0.cells (hbz _) ?_)
    | (refine wpList_store_row rfl 24 _ _ rfl w.heap.size runL0.cells rfl rfl 24 Tryd.zeroCells24 hb0 hli0 hsz0 (cells_one _) ?_)
    | fail)
  obtain ⟨W, hW⟩ : ∃ W, (w.alloc (.cells Tryd.zeroCells24 24)).setRow w.heap.size runL0.cells = W := ⟨_, rfl⟩
  obtain ⟨g, hg⟩ : ∃ g, w.heap.size = g := ⟨_, rfl⟩
  have hb1 : Blk W g 24 runL0.cells := by rw [← hW, ← hg]; exact hb0.setRow_ _
  have hF1 : Frm NoB w W := by rw [← hW]; exact ((Frm.refl NoB w).alloc _).setRow (fun h => absurd h (Nat.lt_irrefl _)) _
  rw [hW, hg]
  have hge : w.heap.size ≤ g := Nat.le_of_eq hg
  clear hW hg hb0 hsz0 hli0 hbz
  have y5 : W.cell? ⟨g, 5, none⟩ = some (.int .u8 0) := hb1.cell 5
  have y6 : W.cell? ⟨g, 6, none⟩ = some (.int .u8 0) := hb1.cell 6
  have z5 := hb1.frozen 5
  have z6 := hb1.frozen 6
  go_upto_region 3 with (fail)
  obtain ⟨W2, hW2⟩ : ∃ W2, (W.setCell ⟨g, 5, none⟩ (.int .u8 97)).setCell ⟨g, 6, none⟩ (.int .u8 98) = W2 := ⟨_, rfl⟩
  have hb2 : Blk W2 g 24 runL.cells := by
    rw [← hW2, ← runL_cells]
    exact (hb1.put 5 _).put 6 _
  have hF2 : Frm NoB w W2 := by
    rw [← hW2]
    exact (hF1.setCell (fun h => absurd h (by show ¬ g < w.heap.size; omega)) _).setCell (fun h => absurd h (by show ¬ g < w.heap.size; omega)) _
  rw [hW2]
  clear hW2 y5 y6 z5 z6 hb1 hF1
  have hli := leaf_size runL runL_ok
  have hlen : runL.put.length = 128 := by rw [put_length runL runL_ok, if_pos runL_right]
  have Hb2 := hide hb2
  have Hlen := hide hlen
  clear hb2 hlen
  go_wp2_with (first | (refine wpList_load_row rfl 24 _ rfl g rfl 24 runL.cells (0, 0) _ Hb2.out Tryd.underlying24 rfl hli ?_) | fail)
  refine (Put_calls runL runL_ok W2).mono ?_
  rintro e W3 ⟨v3, rfl, ho3, hf3⟩
  have hb3 := Hb2.out.frm hf3 (fun h => h)
  have hF3 := hF2.trans hf3 (fun _ _ h => h)
  obtain ⟨bp, cp, rfl, hcp⟩ := Own.some_ ho3 (by rw [Hlen.out]; omega)
  rw [Hlen.out] at ho3 hcp ⊢
  have hrd3 : BRd W3 (GeB W2) (.slice (some ⟨bp, 0, none⟩) 128 cp) runL.put := ho3.rd
  have Hrd3 := hide hrd3
  have Hb3 := hide hb3
  have Hcp := hide hcp
  clear hb3 hrd3 ho3 Hb2 hf3 hcp
  go_wp2_with fail
  refine (Get_calls runL.put _ W3 Hrd3.out).mono ?_
  rintro e W4 ⟨rfl, hf4⟩
  rw [getL_put runL runL_ok runL_right]
  have hb4 := Hb3.out.frm hf4 (fun h => h)
  have hF4 := hF3.trans hf4 (fun _ _ h => h)
  have hrd4 := Hrd3.out.frm hf4
  simp only [leafOf, Option.getD_some, Option.isSome_some]
  have hb0 := Blk.new W4 24 Tryd.zeroCells24
  have hsz0 : (Tryd.zeroCells24).size = runL.cells.size := by rw [ALeaf.cells_size runL_ok]; rfl
  have Hb4 := hide hb4
  have Hrd4 := hide hrd4
  clear hb4 hrd4 Hb3 Hrd3 hf4
  go_upto_region 7 with (first
    | (refine wpList_store_row rfl 24 _ _ rfl W4.heap.size runL.cells rfl rfl 24 Tryd.zeroCells24 hb0 hli hsz0 (cells_one _) ?_)
    | fail)
  obtain ⟨W5, hW5⟩ : ∃ W5, (W4.alloc (.cells Tryd.zeroCells24 24)).setRow W4.heap.size runL.cells = W5 := ⟨_, rfl⟩
  obtain ⟨g3, hg3⟩ : ∃ g3, W4.heap.size = g3 := ⟨_, rfl⟩
  have hb5 : Blk W5 g3 24 runL.cells := by rw [← hW5, ← hg3]; exact hb0.setRow_ _
  have hf5 : Frm NoB W4 W5 := by rw [← hW5]; exact ((Frm.refl NoB W4).alloc _).setRow (fun h => absurd h (Nat.lt_irrefl _)) _
  have hb6 := Hb4.out.frm hf5 (fun h => h)
  have hrd5 := Hrd4.out.frm hf5
  have hF5 := hF4.trans hf5 (fun _ _ h => h)
  rw [hW5, hg3]
  clear hW5 hg3 hb0 hsz0 Hb4 Hrd4 hf5
  have hp0 : ∀ W', Frm NoB W5 W' → ∀ k (h : k < 128), W'.cell? ⟨bp, k, none⟩ = some (byt (runL.put[k]'(by rw [Hlen.out]; exact h))) := by
    intro W' hf k hk
    obtain ⟨b2, o2, c2, e2, _, _, _, d2⟩ := Rd.byteAt (hrd5.frm hf) (k := k) (by rw [Hlen.out]; exact hk)
    injection e2 with hA2 _ hc2
    injection hA2 with hA2
    injection hA2 with hA2 hA3
    subst hA2 hA3
    rw [Nat.zero_add] at d2
    exact d2
  have hq0 : runL.put[0]'(by rw [Hlen.out]; omega) = 97 := by
    have := congrArg (fun l => l[0]?) runL_two
    simpa [Hlen.out] using this
  have hq1 : runL.put[1]'(by rw [Hlen.out]; omega) = 98 := by
    have := congrArg (fun l => l[1]?) runL_two
    simpa [Hlen.out] using this
  have two : ∀ W', Frm NoB W5 W' → W'.cell? ⟨bp, 0, none⟩ = some (.int .u8 97) ∧ W'.cell? ⟨bp, 1, none⟩ = some (.int .u8 98) := by
    intro W' hf
    have h0 := hp0 W' hf 0 (by omega)
    have h1 := hp0 W' hf 1 (by omega)
    rw [hq0] at h0
    rw [hq1] at h1
    exact ⟨h0, h1⟩
  have Hb5 := hide hb5
  have Hb6 := hide hb6
  have Hrd5 := hide hrd5
  have Two := hide two
  have hcI : (124 : Int) ≤ (cp : Int) := by have := Hcp.out; omega
  have hc116 : ¬ cp = 116 := by have := Hcp.out; omega
  clear hb5 hb6 hrd5 two hp0 hq0 hq1 hF4 hF3 hF2
  refine wp_region_held_drew (S := fun w' => Frm NoB W5 w' ∧ w'.cell? ⟨bp, 0, none⟩ = some (.int .u8 97) ∧ w'.cell? ⟨bp, 1, none⟩ = some (.int .u8 98)) (by kernel_rfl) ⟨(Frm.refl NoB W5).drew, Two.out _ (Frm.refl NoB W5).drew⟩ (fun hS0 => ?_)
  refine wpAnyH_take (i := 0) (v := ?v0) rfl (by kernel_rfl) (by kernel_rfl) (by kernel_rfl) (fun _ _ _ h => h) (Or.inl ⟨by rfl, ?h0⟩) hS0 ?_
  case h0 =>
    intro w hSw
    go_simp
    with_reducible rfl
  simp only [List.getElem_toArray, List.getElem_cons_succ, List.getElem_cons_zero, Act.put, List.setIfInBounds_toArray, List.set_cons_zero, List.set_cons_succ]
  refine wpAnyH_take (i := 1) (v := ?v1) rfl (by kernel_rfl) (by kernel_rfl) (by kernel_rfl) (fun _ _ _ h => h) (Or.inl ⟨by rfl, ?h1⟩) hS0 ?_
  case h1 =>
    intro w hSw
    go_simp
    with_reducible rfl
  simp only [List.getElem_toArray, List.getElem_cons_succ, List.getElem_cons_zero, Act.put, List.setIfInBounds_toArray, List.set_cons_zero, List.set_cons_succ]
  refine wpAnyH_take (i := 2) (v := ?v2) rfl (by kernel_rfl) (by kernel_rfl) (by kernel_rfl) (fun _ _ _ h => h) (Or.inl ⟨by rfl, ?h2⟩) hS0 ?_
  case h2 =>
    intro w hSw
    have h0 := hSw.2.1
    clear hSw
    go_simp
    with_reducible rfl
  simp only [List.getElem_toArray, List.getElem_cons_succ, List.getElem_cons_zero, Act.put, List.setIfInBounds_toArray, List.set_cons_zero, List.set_cons_succ]
  refine wpAnyH_take (i := 3) (v := ?v3) rfl (by kernel_rfl) (by kernel_rfl) (by kernel_rfl) (fun _ _ _ h => h) (Or.inl ⟨by rfl, ?h3⟩) hS0 ?_
  case h3 =>
    intro w hSw
    go_simp
    with_reducible rfl
  simp only [List.getElem_toArray, List.getElem_cons_succ, List.getElem_cons_zero, Act.put, List.setIfInBounds_toArray, List.set_cons_zero, List.set_cons_succ]
  refine wpAnyH_take (i := 4) (v := ?v4) rfl (by kernel_rfl) (by kernel_rfl) (by kernel_rfl) (fun _ _ _ h => h) (Or.inl ⟨by rfl, ?h4⟩) hS0 ?_
  case h4 =>
    intro w hSw
    go_simp
    with_reducible rfl
  simp only [List.getElem_toArray, List.getElem_cons_succ, List.getElem_cons_zero, Act.put, List.setIfInBounds_toArray, List.set_cons_zero, List.set_cons_succ]
  refine wpAnyH_take (i := 5) (v := ?v5) rfl (by kernel_rfl) (by kernel_rfl) (by kernel_rfl) (fun _ _ _ h => h) (Or.inl ⟨by rfl, ?h5⟩) hS0 ?_
  case h5 =>
    intro w hSw
    have h0 := hSw.2.2
    clear hSw
    go_simp
    with_reducible rfl
  simp only [List.getElem_toArray, List.getElem_cons_succ, List.getElem_cons_zero, Act.put, List.setIfInBounds_toArray, List.set_cons_zero, List.set_cons_succ]
  refine wpAnyH_take (i := 7) (v := ?v7) rfl (by kernel_rfl) (by kernel_rfl) (by kernel_rfl) (fun _ _ _ h => h) (Or.inl ⟨by rfl, ?h7⟩) hS0 ?_
  case h7 =>
    intro w hSw
    go_simp
    with_reducible rfl
  simp only [List.getElem_toArray, List.getElem_cons_succ, List.getElem_cons_zero, Act.put, List.setIfInBounds_toArray, List.set_cons_zero, List.set_cons_succ]
  refine wpAnyH_take (i := 8) (v := ?v8) rfl (by kernel_rfl) (by kernel_rfl) (by kernel_rfl) (fun _ _ _ h => h) (Or.inl ⟨by rfl, ?h8⟩) hS0 ?_
  case h8 =>
    intro w hSw
    go_simp
    with_reducible rfl
  simp only [List.getElem_toArray, List.getElem_cons_succ, List.getElem_cons_zero, Act.put, List.setIfInBounds_toArray, List.set_cons_zero, List.set_cons_succ]
  have HP : Hid ((runL.put.take 124).drop 116 = [2, 1, 1, 0, 3, 0, 2, 1]) := hide runL_tail
  have h8 : ∀ W', Frm NoB W5 W' → ∀ c', 8 ≤ c' → BRd W' (GeB W2) (.slice (some ⟨bp, 116, none⟩) 8 c') [2, 1, 1, 0, 3, 0, 2, 1] := by
    intro W' hf c' hc'
    have := BRd.piece (Hrd5.out.frm hf) 116 124 (by omega) (by rw [Hlen.out]; omega) c' 8 rfl hc'
    rw [HP.out, Nat.zero_add] at this
    exact this
  have H8 := hide h8
  obtain ⟨c8, hc8⟩ : ∃ c8, cp - 116 = c8 := ⟨_, rfl⟩
  have hc8' : 8 ≤ c8 := by have := Hcp.out; omega
  rw [hc8]
  clear h8 hc8 hcI hc116
  refine wpAnyH_name (fun a0 ha0 => ?_)
  refine wpAnyH_phase (fuel := 9) [6, 9, 10, 11] 11 (fun D a w => Frm NoB W5 w ∧ ∃ t26 t29 t30 t31 : Value, a = ((((a0.put (some 26) t26).put (some 29) t29).put (some 30) t30).put (some 31) t31) ∧ ∃ g6 g10 : Nat,
    (D 6 = true → t26 = .slice (some ⟨g6, 0, none⟩) 2 2 ∧ W5.heap.size ≤ g6 ∧ g6 < w.heap.size ∧ (D 9 = false → Blk w g6 5 #[.int .u8 97, .int .u8 98])) ∧
    (D 9 = true → BOwn W5 w t29 runLits) ∧
    (D 10 = true → t30 = .slice (some ⟨g10, 0, none⟩) 10 10 ∧ W5.heap.size ≤ g10 ∧ Blk w g10 5 (runLits.map byt).toArray) ∧
    (D 6 = true → D 10 = true → g6 ≠ g10) ∧ (D 9 = true → D 6 = true) ∧ (D 11 = true → t31 = .bool true)) (by kernel_rfl) (fun D a w h => ⟨h.1, Two.out w h.1⟩) ?_ ?_
    (StepAll.cons rfl (fun D a w hDi hdep hI K hK => ?_) (StepAll.cons rfl (fun D a w hDi hdep hI K hK => ?_) (StepAll.cons rfl (fun D a w hDi hdep hI K hK => ?_) (StepAll.cons rfl (fun D a w hDi hdep hI K hK => ?_) StepAll.nil))))
  · refine ⟨(Frm.refl NoB W5).drew, a0.tmps.getD 26 undef, a0.tmps.getD 29 undef, a0.tmps.getD 30 undef, a0.tmps.getD 31 undef, ?_, 0, 0, ?_, ?_, ?_, ?_, ?_, ?_⟩
    · simp only [put_self]
    all_goals (intro h; exact absurd h (by rw [show doneOf _ _ = false from by kernel_rfl]; simp))
  · intro D a w hall hI hSw
    obtain ⟨hFw, t26, t29, t30, t31, hae, g6, g10, -, -, -, -, -, e11⟩ := hI
    obtain rfl := e11 (hall 11 (by simp))
    subst hae
    subst ha0
    simp only [List.getElem_toArray, List.getElem_cons_succ, List.getElem_cons_zero, Act.put, List.setIfInBounds_toArray, List.set_cons_zero, List.set_cons_succ]
    have hB5 := Hb5.out.frm hFw (fun h => h)
    have hB6 := Hb6.out.frm hFw (fun h => h)
    have hli' := leaf_size runL runL_ok
    have hS1 : Frm NoB W5 w ∧ w.cell? ⟨bp, 0, none⟩ = some (.int .u8 97) ∧ w.cell? ⟨bp, 1, none⟩ = some (.int .u8 98) := hSw
    clear hSw hS0
    refine wpAnyH_take (i := 12) (v := ?v12) rfl (by kernel_rfl) (by kernel_rfl) (by kernel_rfl) (fun _ _ _ h => h) (Or.inl ⟨by rfl, ?h12⟩) hS1 ?_
    case h12 =>
      intro w hSw
      go_simp
      with_reducible rfl
    simp only [List.getElem_toArray, List.getElem_cons_succ, List.getElem_cons_zero, Act.put, List.setIfInBounds_toArray, List.set_cons_zero, List.set_cons_succ]
    refine wpAnyH_take (i := 13) (v := ?v13) rfl (by kernel_rfl) (by kernel_rfl) (by kernel_rfl) (fun _ _ _ h => h) (Or.inl ⟨by rfl, ?h13⟩) hS1 ?_
    case h13 =>
      intro w hSw
      go_simp
      with_reducible rfl
    simp only [List.getElem_toArray, List.getElem_cons_succ, List.getElem_cons_zero, Act.put, List.setIfInBounds_toArray, List.set_cons_zero, List.set_cons_succ]
    refine wpAnyH_take (i := 14) (v := ?v14) rfl (by kernel_rfl) (by kernel_rfl) (by kernel_rfl) (fun _ _ _ h => h) (Or.inl ⟨by rfl, ?h14⟩) hS1 ?_
    case h14 =>
      intro w hSw
      go_simp
      with_reducible rfl
    simp only [List.getElem_toArray, List.getElem_cons_succ, List.getElem_cons_zero, Act.put, List.setIfInBounds_toArray, List.set_cons_zero, List.set_cons_succ]
    refine wpAnyH_take (i := 15) (v := ?v15) rfl (by kernel_rfl) (by kernel_rfl) (by kernel_rfl) (fun _ _ _ h => h) (Or.inl ⟨by rfl, ?h15⟩) hS1 ?_
    case h15 =>
      intro w hSw
      go_simp
      with_reducible rfl
    simp only [List.getElem_toArray, List.getElem_cons_succ, List.getElem_cons_zero, Act.put, List.setIfInBounds_toArray, List.set_cons_zero, List.set_cons_succ]
    refine wpAnyH_take (i := 16) (v := .agg runL.cells) rfl (by kernel_rfl) (by kernel_rfl) (by kernel_rfl) (fun _ _ _ h => h) (yieldsIf_load_row (by rfl) 24 (.tmp 3) (by rfl) g3 (by rfl) 24 _ _ (fun w' h => Hb5.out.frm h.1 (fun h => h)) Tryd.underlying24 rfl hli') hS1 ?_
    simp only [List.getElem_toArray, List.getElem_cons_succ, List.getElem_cons_zero, Act.put, List.setIfInBounds_toArray, List.set_cons_zero, List.set_cons_succ]
    refine wpAnyH_take (i := 17) (v := .agg runL.cells) rfl (by kernel_rfl) (by kernel_rfl) (by kernel_rfl) (fun _ _ _ h => h) (yieldsIf_load_row (by rfl) 24 (.tmp 1) (by rfl) g (by rfl) 24 _ _ (fun w' h => Hb6.out.frm h.1 (fun h => h)) Tryd.underlying24 rfl hli') hS1 ?_
    simp only [List.getElem_toArray, List.getElem_cons_succ, List.getElem_cons_zero, Act.put, List.setIfInBounds_toArray, List.set_cons_zero, List.set_cons_succ]
    refine wpAnyH_take (i := 18) (v := .bool (decide (runL = runL))) rfl (by kernel_rfl) (by kernel_rfl) (by kernel_rfl) (fun _ _ _ h => h) (Or.inl ⟨by rfl, ?h18⟩) hS1 ?_
    case h18 =>
      intro w hSw
      exact (exec_eql_leaf _ _ (.tmp 36) (.tmp 37) _ rfl runL runL runL_ok runL_ok rfl rfl w)
    simp only [List.getElem_toArray, List.getElem_cons_succ, List.getElem_cons_zero, Act.put, List.setIfInBounds_toArray, List.set_cons_zero, List.set_cons_succ]
    refine wpAnyH_take (i := 19) (v := ?v19) rfl (by kernel_rfl) (by kernel_rfl) (by kernel_rfl) (fun _ _ _ h => h) (Or.inl ⟨by rfl, ?h19⟩) hS1 ?_
    case h19 =>
      intro w hSw
      go_simp
      with_reducible rfl
    simp only [List.getElem_toArray, List.getElem_cons_succ, List.getElem_cons_zero, Act.put, List.setIfInBounds_toArray, List.set_cons_zero, List.set_cons_succ]
    refine wpAnyH_ready (rs := [20]) (by kernel_rfl) (by simp) (AllReadyH.cons rfl (fun K hK => ?_) AllReadyH.nil)
    go_simp
    refine hK.out _ _ hS1 (fun _ => ?_)
    refine wpAnyH_done (by kernel_rfl) ?_ _
    clear hK K
    go_wp2
    go_ret
    exact ⟨rfl, hF5.trans hFw (fun _ _ h => h)⟩
  · obtain ⟨hFw, t26, t29, t30, t31, hae, g6, g10, e6, e9, e10, e610, e96, e11⟩ := hI
    subst hae
    subst ha0
    simp only [List.getElem_toArray, List.getElem_cons_succ, List.getElem_cons_zero, Act.put, List.setIfInBounds_toArray, List.set_cons_zero, List.set_cons_succ]
    clear hdep
    go_simp
    have h9 : D 9 = false := by
      cases h : D 9 with
      | false => rfl
      | true => rw [e96 h] at hDi; cases hDi
    refine hK.out _ _ ⟨hFw.alloc _, .slice (some ⟨w.heap.size, 0, none⟩) 2 2, t29, t30, t31, ?_, w.heap.size, g10, fun _ => ⟨rfl, hFw.size, by simp, fun _ => Blk.new _ _ _⟩, ?_, ?_, ?_, fun _ => rfl, e11⟩
    · simp only [Act.put, List.setIfInBounds_toArray, List.set_cons_zero, List.set_cons_succ]
    · intro h
      rw [show also D 6 9 = D 9 from rfl, h9] at h
      cases h
    · intro h
      obtain ⟨h1, h2, h3⟩ := e10 h
      exact ⟨h1, h2, h3.alloc _⟩
    · intro _ h
      obtain ⟨_, _, h3⟩ := e10 h
      exact Nat.ne_of_gt h3.lt
  · obtain ⟨hFw, t26, t29, t30, t31, hae, g6, g10, e6, e9, e10, e610, e96, e11⟩ := hI
    subst hae
    subst ha0
    simp only [List.getElem_toArray, List.getElem_cons_succ, List.getElem_cons_zero, Act.put, List.setIfInBounds_toArray, List.set_cons_zero, List.set_cons_succ]
    have d6 := dep_of hdep 6 (by kernel_rfl)
    obtain ⟨rfl, hg6, hg6l, hb6'⟩ := e6 d6
    have hb6 := hb6' hDi
    have hown : BOwn W5 w (.slice (some ⟨g6, 0, none⟩) 2 2) [97, 98] := own_row (l := [97, 98]) hb6 hg6 (by simp)
    rw [if_pos (by rfl)]
    refine wp_bytes2 (.tmp 26) (.tmp 28) (by rfl) W5 hFw.size (.slice (some ⟨g6, 0, none⟩) 2 2) [97, 98] (by rfl) hown _ (.slice (some ⟨bp, 116, none⟩) 8 c8) [2, 1, 1, 0, 3, 0, 2, 1] (by rfl) (H8.out w hFw c8 hc8') (by simp) ?_
    intro v' w' ho' hf'
    have hF' : Frm NoB W5 w' := hFw.trans hf' (fun i hi he => by simp [Value.ownBlock] at he; omega)
    refine hK.out _ _ ⟨hF', _, v', t30, t31, ?_, g6, g10, fun _ => ⟨rfl, hg6, Nat.lt_of_lt_of_le hg6l hf'.size, fun h => absurd h (by simp [also])⟩, fun _ => ho', ?_, e610, fun _ => d6, e11⟩
    · simp only [Act.put, List.setIfInBounds_toArray, List.set_cons_zero, List.set_cons_succ]
    · intro h
      obtain ⟨h1, h2, h3⟩ := e10 h
      exact ⟨h1, h2, h3.frm hf' (fun he => by simp [Value.ownBlock] at he; exact e610 d6 h he)⟩
  · obtain ⟨hFw, t26, t29, t30, t31, hae, g6, g10, e6, e9, e10, e610, e96, e11⟩ := hI
    subst hae
    subst ha0
    simp only [List.getElem_toArray, List.getElem_cons_succ, List.getElem_cons_zero, Act.put, List.setIfInBounds_toArray, List.set_cons_zero, List.set_cons_succ]
    clear hdep
    go_simp
    refine hK.out _ _ ⟨hFw.alloc _, t26, t29, .slice (some ⟨w.heap.size, 0, none⟩) 10 10, t31, ?_, g6, w.heap.size, ?_, ?_, fun _ => ⟨rfl, hFw.size, Blk.new _ _ _⟩, ?_, e96, e11⟩
    · simp only [Act.put, List.setIfInBounds_toArray, List.set_cons_zero, List.set_cons_succ]
    · intro h
      obtain ⟨h1, h2, h3, h4⟩ := e6 h
      exact ⟨h1, h2, by simp; omega, fun h9 => (h4 h9).alloc _⟩
    · intro h
      exact (e9 h).frm ((Frm.refl NoB w).alloc _)
    · intro h _
      exact Nat.ne_of_lt (e6 h).2.2.1
  · obtain ⟨hFw, t26, t29, t30, t31, hae, g6, g10, e6, e9, e10, e610, e96, e11⟩ := hI
    subst hae
    subst ha0
    simp only [List.getElem_toArray, List.getElem_cons_succ, List.getElem_cons_zero, Act.put, List.setIfInBounds_toArray, List.set_cons_zero, List.set_cons_succ]
    have d9 := dep_of hdep 9 (by kernel_rfl)
    have d10 := dep_of hdep 10 (by kernel_rfl)
    have d6 := e96 d9
    obtain ⟨rfl, hg10, hb10⟩ := e10 d10
    obtain ⟨rfl, hg6, hg6l, -⟩ := e6 d6
    have ho9 := e9 d9
    have ho10 : BOwn W5 w (.slice (some ⟨g10, 0, none⟩) 10 10) runLits := own_row (l := runLits) hb10 hg10 (by decide)
    clear hdep
    go_simp
    refine (Same_calls t29 (.slice (some ⟨g10, 0, none⟩) 10 10) runLits runLits w ho9.rd ho10.rd (by decide)).mono ?_
    rintro e w' ⟨rfl, hf'⟩
    rw [decide_eq_true rfl]
    refine hK.out _ _ ⟨hFw.trans hf' (fun _ _ h => h), .slice (some ⟨g6, 0, none⟩) 2 2, t29, .slice (some ⟨g10, 0, none⟩) 10 10, .bool true, ?_, g6, g10, fun _ => ⟨rfl, hg6, Nat.lt_of_lt_of_le hg6l hf'.size, fun h9 => ?_⟩, ?_, fun _ => ⟨rfl, hg10, hb10.frm hf' (fun h => h)⟩, e610, e96, fun _ => rfl⟩
    · simp only [Act.put, List.setIfInBounds_toArray, List.set_cons_zero, List.set_cons_succ]
    · rw [show also D 11 9 = D 9 from rfl, d9] at h9
      cases h9
    · intro h
      exact (e9 h).frm hf'
end Go.Proofs.YtablmgnhpciljaaDoor
