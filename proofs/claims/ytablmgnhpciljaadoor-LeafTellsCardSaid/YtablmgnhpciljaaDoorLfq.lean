/- LeafTells: the row. -/
import Derived.Test.YtablmgnhpciljaaDoorRows
import Derived.Test.YtablmgnhpciljaaDoorLfp
import Derived.Test.YtablmgnhpciljaaDoorOpen
import Derived.Lay
import Derived.LaidOnce
namespace Go.Proofs.YtablmgnhpciljaaDoor
open Go.ChangeShapes Go.WideShapes Go.ChangeAt Go.RowKit Go.Deep

theorem cells_int : Tryd.prog.cellsOf 3 = 1 := by kernel_rfl
theorem cells_u8 : Tryd.prog.cellsOf 5 = 1 := by kernel_rfl
theorem cells_arr : Tryd.prog.cellsOf 22 = 116 := by kernel_rfl
theorem cells_leaf : Tryd.prog.cellsOf 24 = 121 := by kernel_rfl
theorem list6 {α : Type} {l : List α} (h : l.length = 6) : ∃ c0 c1 c2 c3 c4 c5, l = [c0, c1, c2, c3, c4, c5] := by
  match l, h with
  | [c0, c1, c2, c3, c4, c5], _ => exact ⟨c0, c1, c2, c3, c4, c5, rfl⟩
section
variable {H : Type} {enc : TypeId × Value → H} {w : World} {base : Nat} {spare : Nat → Bool} {held : Bool}
/-- An array of bytes that came in. -/
theorem open_arr {fuel : Nat} {cs : List Value} {x : DataW H × List MemPlace} (h : DataW.trod enc Tryd.prog w base spare held fuel 22 cs = some x) : ∃ l : List UInt8, l.length = 116 ∧ cs = l.map byt := by
  obtain ⟨xs, m, _, _, hcl, hxl, hall⟩ := DataW.trod_array Tryd.underlying22 h
  rw [cells_arr] at hcl
  have one : ∀ i (hi : i < 116), ∃ u : UInt8, cs[i]'(by omega) = byt u := by
    intro i hi
    have h1 := hall i hi
    rw [cells_u8, Nat.mul_one, List.drop_eq_getElem_cons (by omega)] at h1
    have hx : xs[i]? = some (xs[i]'(by omega)) := List.getElem?_eq_getElem (by omega)
    rw [hx] at h1
    obtain ⟨n, e0, _, wn⟩ := DataW.trod_int Tryd.underlying5 h1
    have hb := wf_u8 wn
    refine ⟨UInt8.ofNat n.toNat, ?_⟩
    simp only [List.take_succ_cons, List.take_zero, List.cons.injEq, and_true] at e0
    rw [e0]
    simp only [byt]
    congr 1
    rw [UInt8.toNat_ofNat']
    omega
  have key : ∀ L : List Value, (∀ v ∈ L, ∃ u : UInt8, v = byt u) → ∃ l : List UInt8, L = l.map byt := by
    intro L
    induction L with
    | nil => intro _; exact ⟨[], rfl⟩
    | cons v L ih =>
      intro hL
      obtain ⟨u, hu⟩ := hL v (by simp)
      obtain ⟨l, hl⟩ := ih (fun v hv => hL v (by simp [hv]))
      exact ⟨u :: l, by rw [hu, hl]; rfl⟩
  obtain ⟨l, hl⟩ := key cs (fun v hv => by
    obtain ⟨i, hi, rfl⟩ := List.mem_iff_getElem.1 hv
    exact one i (by omega))
  exact ⟨l, by rw [← hcl, hl, List.length_map], hl⟩
/-- A leaf that came in, cell for cell. -/
theorem open_leaf {fuel : Nat} {cs : List Value} {x : DataW H × List MemPlace} (h : DataW.trod enc Tryd.prog w base spare held fuel 24 cs = some x) : ∃ l : ALeaf, l.ok ∧ cs = l.cells.toList := by
  obtain ⟨xs, n, _, _, hlen, hxl, hf⟩ := DataW.trod_struct Tryd.underlying24 h
  rw [cells_leaf] at hlen
  obtain ⟨x0, x1, x2, x3, x4, x5, rfl⟩ := list6 hxl
  have f0 : DataW.trod enc Tryd.prog w base spare held n 3 ((cs.drop 0).take 1) = some x0 := by have := hf 0 _ rfl; rw [show (_ : Field).type = 3 from rfl, cells_int] at this; exact this
  have f1 : DataW.trod enc Tryd.prog w base spare held n 3 ((cs.drop 1).take 1) = some x1 := by have := hf 1 _ rfl; rw [show (_ : Field).type = 3 from rfl, cells_int] at this; exact this
  have f2 : DataW.trod enc Tryd.prog w base spare held n 3 ((cs.drop 2).take 1) = some x2 := by have := hf 2 _ rfl; rw [show (_ : Field).type = 3 from rfl, cells_int] at this; exact this
  have f3 : DataW.trod enc Tryd.prog w base spare held n 3 ((cs.drop 3).take 1) = some x3 := by have := hf 3 _ rfl; rw [show (_ : Field).type = 3 from rfl, cells_int] at this; exact this
  have f4 : DataW.trod enc Tryd.prog w base spare held n 3 ((cs.drop 4).take 1) = some x4 := by have := hf 4 _ rfl; rw [show (_ : Field).type = 3 from rfl, cells_int] at this; exact this
  have f5 : DataW.trod enc Tryd.prog w base spare held n 22 ((cs.drop 5).take 116) = some x5 := by have := hf 5 _ rfl; rw [show (_ : Field).type = 22 from rfl, cells_arr] at this; exact this
  obtain ⟨k0, e0, _, w0⟩ := DataW.trod_int Tryd.underlying3 f0
  obtain ⟨k1, e1, _, w1⟩ := DataW.trod_int Tryd.underlying3 f1
  obtain ⟨k2, e2, _, w2⟩ := DataW.trod_int Tryd.underlying3 f2
  obtain ⟨k3, e3, _, w3⟩ := DataW.trod_int Tryd.underlying3 f3
  obtain ⟨k4, e4, _, w4⟩ := DataW.trod_int Tryd.underlying3 f4
  obtain ⟨l, hl, e5⟩ := open_arr f5
  refine ⟨⟨k0, k1, k2, k3, k4, l⟩, ⟨hl, wf_i64 w0, wf_i64 w1, wf_i64 w2, wf_i64 w3, wf_i64 w4⟩, ?_⟩
  have e : cs = (cs.drop 0).take 1 ++ ((cs.drop 1).take 1 ++ ((cs.drop 2).take 1 ++ ((cs.drop 3).take 1 ++ ((cs.drop 4).take 1 ++ (cs.drop 5).take 116)))) := by
    rw [List.take_of_length_le (l := cs.drop 5) (by simp; omega)]
    have st : ∀ k, (cs.drop k).take 1 ++ cs.drop (k + 1) = cs.drop k := fun k => by
      have := List.take_append_drop 1 (cs.drop k)
      rwa [List.drop_drop] at this
    rw [st 4, st 3, st 2, st 1, st 0]
    rfl
  rw [e, e0, e1, e2, e3, e4, e5]
  rfl
end
theorem Tryd.own : ownKnob Tryd.prog.godebug = none := by kernel_rfl
theorem Tryd.laidOut : laidOutB Tryd.prog = true := by kernel_rfl

set_option maxRecDepth 100000 in
theorem LeafTells_lifted (os : Os) (started : os.Started) (H : Type) (enc : TypeId × Value → H) :
    ReturnsInHanded {} Tryd.checked os 3 .any (fun w args => (Rows.leafTellsSpec.pre enc Tryd.prog Tryd.f3 [] false w args ∧ laidMetH Tryd.prog Rows.leafTellsRow.laid w) ∧ sizedMet enc Tryd.prog Tryd.f3 (OpenSpec.ofChange Rows.leafTellsSpec) false w args)
      (Rows.leafTellsSpec.post enc Tryd.prog Tryd.f3 false true false false) := by
  refine returnsInHanded_of_change_and (C := Tryd.checked) (X := fun w _ => laidMetH Tryd.prog Rows.leafTellsRow.laid w) (fun _ _ _ hh h => h.of_heap hh) Tryd.own started (by kernel_rfl) Tryd.func3
    (ChangeSpec.witness_shaped (enc := enc) (C := Tryd.checked) (os := os) (X := fun w _ => laidMetH Tryd.prog Rows.leafTellsRow.laid w) false (World.laidAll Tryd.prog os Rows.leafTellsRow.laid) #[.agg ALeaf.zero.cells, .slice none 0 0, .int .i64 0, .int .u8 0] 200 (World.laidAll_os _ _ _)
      (World.shaped_of_ZipB (by kernel_rfl) (by kernel_rfl)) (by kernel_rfl) (by kernel_rfl) (by kernel_rfl)
      (by rw [MakeChecks.laidMetH_plain _ _ _ (by kernel_rfl)]; exact laidMet_laidAll _ (by kernel_rfl) (by kernel_rfl))) ?_
  intro W base args ds gs before hval0 hW _ _ hL _
  have hval : ∀ (j : Nat) t v, Tryd.f3.params[j]? = some t → args[j]? = some v → Value.okWide Tryd.prog W .any base t v := hval0
  have hW' := hW
  obtain ⟨p, q, hA0, hV, rfl, hfz, hnd⟩ := hW
  have hA : DataW.TrodAll enc Tryd.prog W 0 (fun _ => true) true Tryd.f3.params.toList args.toList ds p := hA0
  rw [Tryd.params3] at hA hval
  obtain ⟨v0, v1, v2, v3, d0, d1, d2, d3, p0, p1, p2, p3, rfl, rfl, rfl, h0, h1, h2, h3⟩ := trodAll_four hA
  obtain ⟨rfl, rfl⟩ := trodVars_none hV
  have k0 := h0
  have k1 := h1
  obtain ⟨cs, rfl, _⟩ := okWide_struct Tryd.underlying24 (hval 0 24 v0 rfl rfl)
  obtain ⟨l, hl, rfl⟩ : ∃ l : ALeaf, l.ok ∧ cs = l.cells := by
    obtain ⟨fuel, hf⟩ := h0
    obtain ⟨l, hl, he⟩ := open_leaf hf
    exact ⟨l, hl, Array.toList_inj.1 he⟩
  obtain ⟨A1, m1, c1, rfl⟩ := okWide_slice Tryd.underlying25 (hval 1 25 v1 rfl rfl)
  obtain ⟨bs, hbs⟩ : ∃ bs : List UInt8, BRd W (fun b => b < W.heap.size) (.slice A1 m1 c1) bs := by
    obtain ⟨fuel, hf⟩ := h1
    exact open_bytes_len Tryd.underlying25 Tryd.underlying5 cells_u8 (by simpa [Value.cells] using hf)
  obtain ⟨n, rfl, rfl, rfl, wn⟩ := open_int Tryd.underlying3 (hval 2 3 v2 rfl rfl) h2
  obtain ⟨x, rfl, rfl, rfl, wx⟩ := open_int Tryd.underlying5 (hval 3 5 v3 rfl rfl) h3
  have lt0 : ∀ x ∈ p0, x.block < W.heap.size := by obtain ⟨m, hm⟩ := k0; exact DataW.trod_lt m _ _ _ hm
  have lt1 : ∀ x ∈ p1, x.block < W.heap.size := by obtain ⟨m, hm⟩ := k1; exact DataW.trod_lt m _ _ _ hm
  have hx := wf_u8 wx
  have hx8 : x = ((UInt8.ofNat x.toNat).toNat : Int) := by rw [UInt8.toNat_ofNat']; omega
  clear hA0 hval0
  simp only [List.append_nil] at hW'
  have hcall := LeafTells_calls l hl bs (.slice A1 m1 c1) n (UInt8.ofNat x.toNat) W hbs
  rw [← hx8] at hcall
  refine hcall.mono fun e W' ⟨he, hf⟩ => ?_
  subst he
  have hb : Below W.heap.size W W' := hf.below (Nat.le_refl _) (fun _ _ h => h)
  refine ⟨_, rfl, _, _, _, [], _, [], hW', trodAll_mk1 (shut_bool Tryd.underlying4 true), (trodAll_cons_mk (Below.trod Tryd.laidOut (by kernel_rfl) (of_decide_eq_true (by kernel_rfl)) k0 hb lt0) (trodAll_cons_mk (Below.trod Tryd.laidOut (by kernel_rfl) (of_decide_eq_true (by kernel_rfl)) k1 hb lt1) (trodAll_cons_mk (shut_int Tryd.underlying3 wn) (trodAll_cons_mk (shut_int Tryd.underlying5 wx) trodAll_mk0)))), rfl, ?_, fun h => by cases h⟩
  exact hb.frame _
theorem LeafTells_row : Rows.LeafTellsSaid :=
  OpenClaim.holds_of_wide 3 Tryd.f3 rfl rfl rfl rfl rfl rfl rfl ⟨rfl, rfl, rfl, rfl, rfl⟩ rfl rfl rfl rfl rfl (by kernel_rfl) Tryd.func3 (by kernel_rfl)
    (of_decide_eq_true (by kernel_rfl)) (by unfold Func.isWrapper; first | (rw [if_pos (by decide +kernel)]; kernel_rfl) | (rw [if_neg (by decide +kernel)]; exact ⟨rfl, rfl⟩))
    (fun os started H enc _ => LeafTells_lifted os started H enc)
end Go.Proofs.YtablmgnhpciljaaDoor
