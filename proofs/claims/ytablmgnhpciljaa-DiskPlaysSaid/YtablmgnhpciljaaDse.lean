/- DiskPlays answers true for every size and every list of calls, and its arguments read as they did: without any condition. -/
import Derived.Test.YtablmgnhpciljaaRows
import Derived.Test.YtablmgnhpciljaaDsd
import Derived.ProofKit
import Derived.Deep.Slices
import Derived.Deep.Fields
import Derived.Below
import Derived.ChangeOld
import Derived.OpenShut
namespace Go.Proofs.Ytablmgnhpciljaa
open Go.ChangeShapes Go.WideShapes Go.ChangeAt Go.RowKit Go.Deep

theorem wf_u8 {n : Int} (h : (Lit.int .u8 n).wf = true) : 0 ≤ n ∧ n < 256 := by
  have h2 : IntKind.u8.min ≤ n ∧ n ≤ IntKind.u8.max := by simpa [Lit.wf] using h
  have e1 : IntKind.u8.min = 0 := by decide
  have e2 : IntKind.u8.max = 255 := by decide
  omega
theorem wf_u32 {n : Int} (h : (Lit.int .u32 n).wf = true) : 0 ≤ n ∧ n < 4294967296 := by
  have h2 : IntKind.u32.min ≤ n ∧ n ≤ IntKind.u32.max := by simpa [Lit.wf] using h
  have e1 : IntKind.u32.min = 0 := by decide
  have e2 : IntKind.u32.max = 4294967295 := by decide
  omega
theorem wf_i64 {n : Int} (h : (Lit.int .i64 n).wf = true) : -9223372036854775808 ≤ n ∧ n ≤ 9223372036854775807 := by
  have h2 : IntKind.i64.min ≤ n ∧ n ≤ 9223372036854775807 := by simpa [Lit.wf] using h
  have e1 : IntKind.i64.min = -9223372036854775808 := by decide
  omega
section
variable {H : Type} {enc : TypeId × Value → H} {P : Program} {w : World} {base : Nat} {spare : Nat → Bool} {held : Bool}
theorem cell_lt {a : Addr} {v : Value} (h : w.cell? a = some v) : a.block < w.heap.size := by
  unfold World.cell? at h
  cases ho : w.heap[a.block]? with
  | none => rw [ho] at h; cases h
  | some o => exact lt_of_heap ho
theorem at_of_cell {a : Addr} {v : Value} (h : w.cell? a = some v) : a = ⟨a.block, a.off, none⟩ := by
  obtain ⟨b, o, s⟩ := a
  have := World.cell?_spot h
  dsimp only at this
  subst this
  rfl
theorem add_at (b off n : Nat) : Addr.add ⟨b, off, none⟩ n = ⟨b, off + n, none⟩ := by
  unfold Addr.add
  split
  · subst_vars; rfl
  · rfl
/-- A slice of bytes that came in reads as a list. -/
theorem open_bytes {t e : TypeId} {fuel : Nat} {cs : List Value} {x : DataW H × List MemPlace} (ht : P.underlying t = some (.slice e)) (he : P.underlying e = some (.int .u8)) (hc : P.cellsOf e = 1)
    (h : DataW.trod enc P w base spare held fuel t cs = some x) : ∃ (v : Value) (l : List UInt8), cs = [v] ∧ Rd w (fun b => b < w.heap.size) 1 v l.length (l.map byt) := by
  rcases open_ints ht he hc h with ⟨rfl, _⟩ | ⟨a, len, cap, zs, rfl, _, hl, _, hz, _, hcell, hwf⟩
  · exact ⟨_, [], rfl, rfl, none, 0, rfl, Nat.le_refl _, fun h => absurd h (by simp)⟩
  · have hzl : len ≤ zs.length := by rw [hz]; split <;> omega
    have hll : ((zs.take len).map fun z => UInt8.ofNat z.toNat).length = len := by simp; omega
    refine ⟨_, (zs.take len).map fun z => UInt8.ofNat z.toNat, rfl, by simp, some a, cap, by rw [hll], by rw [hll]; exact hl, fun hp => ?_⟩
    rw [hll] at hp
    have h0 := hcell 0 (by omega)
    have ha : a = ⟨a.block, a.off, none⟩ := at_of_cell (by simpa [Addr.add] using h0)
    have hlt : a.block < w.heap.size := cell_lt (a := a) (by simpa [Addr.add] using h0)
    refine ⟨a.block, a.off, congrArg some ha, hlt, hlt, fun j u hu => ?_⟩
    have hj : j < len := by
      have := (List.getElem?_eq_some_iff.1 hu).1
      simpa [hzl] using this
    have hj' : j < zs.length := by omega
    have h1 := hcell j hj'
    rw [ha, add_at] at h1
    have hw := hwf zs[j] (List.getElem_mem hj')
    have hb := wf_u8 hw
    rw [h1]
    simp only [List.getElem?_map, List.getElem?_take, if_pos hj, List.getElem?_eq_getElem hj', Option.map_some, Option.some.injEq] at hu
    rw [← hu, List.getD_eq_getElem?_getD, List.getElem?_eq_getElem hj']
    simp only [byt, Option.getD_some]
    congr 2
    rw [UInt8.toNat_ofNat']
    omega
end
theorem list8 {α : Type} {l : List α} (h : l.length = 8) : ∃ c0 c1 c2 c3 c4 c5 c6 c7, l = [c0, c1, c2, c3, c4, c5, c6, c7] := by
  match l, h with
  | [c0, c1, c2, c3, c4, c5, c6, c7], _ => exact ⟨c0, c1, c2, c3, c4, c5, c6, c7, rfl⟩

theorem cells_int : Try.prog.cellsOf 3 = 1 := by kernel_rfl
theorem cells_u8 : Try.prog.cellsOf 5 = 1 := by kernel_rfl
theorem cells_u32 : Try.prog.cellsOf 27 = 1 := by kernel_rfl
theorem cells_bytes : Try.prog.cellsOf 28 = 1 := by kernel_rfl
theorem cells_bool : Try.prog.cellsOf 4 = 1 := by kernel_rfl
theorem cells_ask : Try.prog.cellsOf 30 = 8 := by kernel_rfl

section
variable {H : Type} {enc : TypeId × Value → H} {w : World} {base : Nat} {spare : Nat → Bool} {held : Bool}
/-- One call of the list, cell for cell. -/
theorem open_ask {fuel : Nat} {cs : List Value} {x : DataW H × List MemPlace} (h : DataW.trod enc Try.prog w base spare held fuel 30 cs = some x) : ∃ q : AskV, q.ok w ∧ cs = q.cells.toList := by
  obtain ⟨xs, n, _, _, hlen, hxl, hf⟩ := DataW.trod_struct Try.underlying30 h
  rw [cells_ask] at hlen
  obtain ⟨c0, c1, c2, c3, c4, c5, c6, c7, rfl⟩ := list8 hlen
  obtain ⟨x0, x1, x2, x3, x4, x5, x6, x7, rfl⟩ := list8 hxl
  have f0 : DataW.trod enc Try.prog w base spare held n 3 [c0] = some x0 := by have := hf 0 _ rfl; rw [show (_ : Field).type = 3 from rfl, cells_int] at this; exact this
  have f1 : DataW.trod enc Try.prog w base spare held n 3 [c1] = some x1 := by have := hf 1 _ rfl; rw [show (_ : Field).type = 3 from rfl, cells_int] at this; exact this
  have f2 : DataW.trod enc Try.prog w base spare held n 3 [c2] = some x2 := by have := hf 2 _ rfl; rw [show (_ : Field).type = 3 from rfl, cells_int] at this; exact this
  have f3 : DataW.trod enc Try.prog w base spare held n 3 [c3] = some x3 := by have := hf 3 _ rfl; rw [show (_ : Field).type = 3 from rfl, cells_int] at this; exact this
  have f4 : DataW.trod enc Try.prog w base spare held n 5 [c4] = some x4 := by have := hf 4 _ rfl; rw [show (_ : Field).type = 5 from rfl, cells_u8] at this; exact this
  have f5 : DataW.trod enc Try.prog w base spare held n 27 [c5] = some x5 := by have := hf 5 _ rfl; rw [show (_ : Field).type = 27 from rfl, cells_u32] at this; exact this
  have f6 : DataW.trod enc Try.prog w base spare held n 28 [c6] = some x6 := by have := hf 6 _ rfl; rw [show (_ : Field).type = 28 from rfl, cells_bytes] at this; exact this
  have f7 : DataW.trod enc Try.prog w base spare held n 4 [c7] = some x7 := by have := hf 7 _ rfl; rw [show (_ : Field).type = 4 from rfl, cells_bool] at this; exact this
  clear hf h hlen hxl
  obtain ⟨kind, e0, _, w0⟩ := DataW.trod_int Try.underlying3 f0
  obtain ⟨i, e1, _, _⟩ := DataW.trod_int Try.underlying3 f1
  obtain ⟨at_, e2, _, _⟩ := DataW.trod_int Try.underlying3 f2
  obtain ⟨nn, e3, _, w3⟩ := DataW.trod_int Try.underlying3 f3
  obtain ⟨xx, e4, _, w4⟩ := DataW.trod_int Try.underlying5 f4
  obtain ⟨by_, e5, _, w5⟩ := DataW.trod_int Try.underlying27 f5
  obtain ⟨hv, how, e6, hr⟩ := open_bytes Try.underlying28 Try.underlying5 cells_u8 f6
  obtain ⟨short, e7, _⟩ := DataW.trod_bool Try.underlying4 f7
  have b0 := wf_i64 w0
  have b3 := wf_i64 w3
  have b4 := wf_u8 w4
  have b5 := wf_u32 w5
  refine ⟨⟨kind, i, at_, nn, UInt8.ofNat xx.toNat, UInt32.ofNat by_.toNat, how, hv, short⟩, ⟨by dsimp only; omega, by dsimp only; omega, hr⟩, ?_⟩
  have t4 : ((UInt8.ofNat xx.toNat).toNat : Int) = xx := by rw [UInt8.toNat_ofNat']; omega
  have t5 : ((UInt32.ofNat by_.toNat).toNat : Int) = by_ := by rw [UInt32.toNat_ofNat']; omega
  simp only [AskV.cells, t4, t5]
  simp only [List.cons.injEq, and_true] at e0 e1 e2 e3 e4 e5 e6 e7
  rw [e0, e1, e2, e3, e4, e5, e6, e7]

/-- The list of calls, as the walk wants it. -/
theorem open_asks {fuel : Nat} {v : Value} {x : DataW H × List MemPlace} (h : DataW.trod enc Try.prog w base spare held fuel 22 [v] = some x) : ∃ A m c, v = .slice A m c ∧ Asks w A m := by
  rcases open_slice Try.underlying22 h with ⟨hcs, _⟩ | ⟨a, len, cap, m, n, D, Pl, hcs, _, hl, _, hmm, _, hall⟩
  · simp only [List.cons.injEq, and_true] at hcs
    exact ⟨_, _, _, hcs, fun hp => absurd hp (by simp)⟩
  · simp only [List.cons.injEq, and_true] at hcs
    refine ⟨_, _, _, hcs, fun hp => ?_⟩
    have hml : len ≤ m := by rw [hmm]; split <;> omega
    have hone : ∀ k, k < len → ∃ q : AskV, q.ok w ∧ ∀ j v, q.cells[j]? = some v → w.cell? (a.add (k * 8 + j)) = some v := by
      intro k hk
      obtain ⟨cs', hc, ht⟩ := hall k (by omega)
      rw [cells_ask] at hc
      obtain ⟨q, hq, rfl⟩ := open_ask ht
      obtain ⟨_, _, hat⟩ := World.cells?_some hc
      refine ⟨q, hq, fun j v hj => ?_⟩
      have hj8 : j < 8 := by have := (Array.getElem?_eq_some_iff.1 hj).1; simpa [AskV.cells] using this
      have := hat j hj8
      rw [Go.Deep.add_add] at this
      rw [this, ← hj]
      simp
    obtain ⟨q0, _, hq0⟩ := hone 0 hp
    have h0 := hq0 0 _ rfl
    have ha : a = ⟨a.block, a.off, none⟩ := at_of_cell (by simpa [Addr.add] using h0)
    refine ⟨a.block, a.off, congrArg some ha, cell_lt (a := a) (by simpa [Addr.add] using h0), fun k hk => ?_⟩
    obtain ⟨q, hq, hc⟩ := hone k hk
    refine ⟨q, hq, fun j v hj => ?_⟩
    have := hc j v hj
    rw [ha, add_at] at this
    rw [← this, Nat.add_assoc]
end

theorem Try.own : ownKnob Try.prog.godebug = none := by kernel_rfl
theorem Try.laidOut : laidOutB Try.prog = true := by kernel_rfl

/-- DiskPlays, whatever comes. -/
theorem DiskPlays_any (w : World) (n : Int) (m c : Nat) (A : Option Addr) (hA : Asks w A m) :
    Calls Try.prog 3 #[.int .i64 n, .slice A m c] w fun e w' => e = .returned (.bool true) ∧ Frm NoB w w' := by
  by_cases h : n < 1 ∨ 512 < n
  · exact DiskPlays_nil w n m c A h
  · obtain ⟨n, rfl⟩ := Int.eq_ofNat_of_zero_le (show 0 ≤ n by omega)
    exact DiskPlays_calls w n m c A (by omega) (by omega) hA

set_option maxRecDepth 100000 in
theorem DiskPlays_lifted (os : Os) (started : os.Started) (H : Type) (enc : TypeId × Value → H) :
    ReturnsInHanded {} Try.checked os 3 .any (Rows.diskPlaysSpec.pre6 enc Try.prog Try.f3 Rows.diskPlaysRow.domain false) (Rows.diskPlaysSpec.post enc Try.prog Try.f3 false true false false) := by
  refine returnsInHanded_of_change (C := Try.checked) Try.own started (by kernel_rfl) Try.func3
    (ChangeSpec.witness6 (enc := enc) (C := Try.checked) false ⟨#[], #[.int .i64 0, .slice none 0 0], []⟩ 8 (by kernel_rfl) (by kernel_rfl) (by kernel_rfl) (by kernel_rfl)) ?_
  intro W base args ds gs before hval0 hW hcnd _
  have hval : ∀ (j : Nat) t v, Try.f3.params[j]? = some t → args[j]? = some v → Value.okWide Try.prog W .any base t v := hval0
  have hW' := hW
  obtain ⟨p, q, hA0, hV, rfl, hfz, hnd⟩ := hW
  have hA : DataW.TrodAll enc Try.prog W 0 (fun _ => true) true Try.f3.params.toList args.toList ds p := hA0
  rw [Try.params3] at hA hval
  obtain ⟨v0, v1, d0, d1, p0, p1, rfl, rfl, rfl, h0, h1⟩ := trodAll_two hA
  obtain ⟨rfl, rfl⟩ := trodVars_none hV
  have k0 := h0
  have k1 := h1
  obtain ⟨n, rfl, rfl, rfl, wn⟩ := open_int Try.underlying3 (hval 0 3 v0 rfl rfl) h0
  obtain ⟨A1, m1, c1, rfl⟩ := okWide_slice Try.underlying22 (hval 1 22 v1 rfl rfl)
  have lt1 : ∀ x ∈ p1, x.block < W.heap.size := by obtain ⟨m, hm⟩ := k1; exact DataW.trod_lt m _ _ _ hm
  obtain ⟨A, m, c, hv, hasks⟩ : ∃ A m c, Value.slice A1 m1 c1 = .slice A m c ∧ Asks W A m := by
    obtain ⟨fuel, hf⟩ := h1
    exact open_asks (by simpa [Value.cells] using hf)
  clear hA0 hval0
  simp only [List.append_nil] at hW'
  rw [hv] at k1 hW' ⊢
  refine (DiskPlays_any W n m c A hasks).mono fun e W' ⟨he, hf⟩ => ?_
  subst he
  have hb : Below W.heap.size W W' := hf.below (Nat.le_refl _) (fun _ _ h => h)
  exact ⟨_, rfl, _, _, _, [], _, [], hW', trodAll_mk1 (shut_bool Try.underlying4 true), (trodAll_cons_mk (shut_int Try.underlying3 wn) (trodAll_cons_mk (Below.trod Try.laidOut (by kernel_rfl) (of_decide_eq_true (by kernel_rfl)) k1 hb lt1) trodAll_mk0)), rfl, hb.frame _, fun h => by cases h⟩

theorem DiskPlays_holds : Rows.DiskPlaysSaid :=
  OpenClaim.holds_of_wide 3 Try.f3 rfl rfl rfl rfl rfl rfl rfl ⟨rfl, rfl, rfl, rfl, rfl⟩ rfl rfl rfl rfl rfl (by kernel_rfl) Try.func3 (by kernel_rfl)
    (of_decide_eq_true (by kernel_rfl)) (by unfold Func.isWrapper; rw [if_neg (by decide +kernel)]; exact ⟨rfl, rfl⟩)
    (fun os started H enc _ => DiskPlays_lifted os started H enc)
end Go.Proofs.Ytablmgnhpciljaa
