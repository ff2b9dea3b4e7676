/- leaf.Get: the leaf of a block. -/
import Derived.Test.YtablmgnhpciljaaDoorLfj
import Derived.Test.YtablmgnhpciljaaDoorReg
namespace Go.Proofs.YtablmgnhpciljaaDoor
open Go.RowKit

theorem bits_or_comm (a b : Int) : bits .or .i64 a b = bits .or .i64 b a := by
  show IntKind.i64.wrap ((BitVec.ofInt 64 a ||| BitVec.ofInt 64 b).toNat : Int) = IntKind.i64.wrap ((BitVec.ofInt 64 b ||| BitVec.ofInt 64 a).toNat : Int)
  rw [BitVec.or_comm]
theorem wrap_id (x : Int) (h0 : -9223372036854775808 ≤ x) (h1 : x ≤ 9223372036854775807) : wrap64 x = x := by
  unfold wrap64
  omega
theorem or_two (x y : Nat) (h1 : x < 256) (h2 : y < 256) : bits .or .i64 (wrap64 (x : Int)) (wrap64 (wrap64 (y : Int) * 256)) = ((x + 256 * y : Nat) : Int) := by
  rw [wrap_id x (by omega) (by omega), wrap_id y (by omega) (by omega), wrap_id ((y : Int) * 256) (by omega) (by omega), bits_or_comm]
  exact or_i64 y x (by omega) h1

set_option maxRecDepth 100000 in
theorem two0_calls (bs : List UInt8) (A : Option Addr) (c bx : Nat) (w : World) {F : Nat → Prop} (hr : BRd w F (.slice A 128 c) bs) (hl : bs.length = 128) (hbx : w.cell? ⟨bx, 0, none⟩ = some (.slice A 128 c)) :
    Calls Tryd.prog 33 #[.int .i64 0, .pointer (some ⟨bx, 0, none⟩)] w fun e w' => e = .returned (.int .i64 (two8 bs 116)) ∧ Frm NoB w w' := by
  obtain ⟨b1, o1, c1, e1, _, _, _, d1⟩ := Rd.byteAt hr (k := 116) (by omega)
  obtain ⟨b2, o2, c2, e2, _, _, _, d2⟩ := Rd.byteAt hr (k := 117) (by omega)
  injection e1 with hA1 _ hc1
  injection e2 with hA2 _ hc2
  subst hA1 hc1
  injection hA2 with hA2
  injection hA2 with hA2 hA3
  subst hA2 hA3 hc2
  rw [← at8_eq bs 116 (by omega)] at d1
  rw [← at8_eq bs 117 (by omega)] at d2
  have h1 := at8_lt bs 116
  have h2 := at8_lt bs 117
  have htwo : two8 bs 116 = at8 bs 116 + 256 * at8 bs 117 := rfl
  obtain ⟨x, hx⟩ : ∃ x, at8 bs 116 = x := ⟨_, rfl⟩
  obtain ⟨y, hy⟩ : ∃ y, at8 bs 117 = y := ⟨_, rfl⟩
  rw [hx] at d1 h1 htwo
  rw [hy] at d2 h2 htwo
  rw [htwo]
  have Hor := hide (or_two x y h1 h2)
  clear hr hx hy htwo hl h1 h2
  go_enter Tryd.func33, Tryd.ntmps33
  go_upto_region 1 with (fail)
  go_wp2_with (go_region)
  go_ret
  exact ⟨congrArg (fun z : Int => Ending.returned (.int .i64 z)) Hor.out, (Frm.refl NoB w).drew⟩

set_option maxRecDepth 100000 in
theorem two2_calls (bs : List UInt8) (A : Option Addr) (c bx : Nat) (w : World) {F : Nat → Prop} (hr : BRd w F (.slice A 128 c) bs) (hl : bs.length = 128) (hbx : w.cell? ⟨bx, 0, none⟩ = some (.slice A 128 c)) :
    Calls Tryd.prog 33 #[.int .i64 2, .pointer (some ⟨bx, 0, none⟩)] w fun e w' => e = .returned (.int .i64 (two8 bs 118)) ∧ Frm NoB w w' := by
  obtain ⟨b1, o1, c1, e1, _, _, _, d1⟩ := Rd.byteAt hr (k := 118) (by omega)
  obtain ⟨b2, o2, c2, e2, _, _, _, d2⟩ := Rd.byteAt hr (k := 119) (by omega)
  injection e1 with hA1 _ hc1
  injection e2 with hA2 _ hc2
  subst hA1 hc1
  injection hA2 with hA2
  injection hA2 with hA2 hA3
  subst hA2 hA3 hc2
  rw [← at8_eq bs 118 (by omega)] at d1
  rw [← at8_eq bs 119 (by omega)] at d2
  have h1 := at8_lt bs 118
  have h2 := at8_lt bs 119
  have htwo : two8 bs 118 = at8 bs 118 + 256 * at8 bs 119 := rfl
  obtain ⟨x, hx⟩ : ∃ x, at8 bs 118 = x := ⟨_, rfl⟩
  obtain ⟨y, hy⟩ : ∃ y, at8 bs 119 = y := ⟨_, rfl⟩
  rw [hx] at d1 h1 htwo
  rw [hy] at d2 h2 htwo
  rw [htwo]
  have Hor := hide (or_two x y h1 h2)
  clear hr hx hy htwo hl h1 h2
  go_enter Tryd.func33, Tryd.ntmps33
  go_upto_region 1 with (fail)
  go_wp2_with (go_region)
  go_ret
  exact ⟨congrArg (fun z : Int => Ending.returned (.int .i64 z)) Hor.out, (Frm.refl NoB w).drew⟩

set_option maxRecDepth 100000 in
theorem two4_calls (bs : List UInt8) (A : Option Addr) (c bx : Nat) (w : World) {F : Nat → Prop} (hr : BRd w F (.slice A 128 c) bs) (hl : bs.length = 128) (hbx : w.cell? ⟨bx, 0, none⟩ = some (.slice A 128 c)) :
    Calls Tryd.prog 33 #[.int .i64 4, .pointer (some ⟨bx, 0, none⟩)] w fun e w' => e = .returned (.int .i64 (two8 bs 120)) ∧ Frm NoB w w' := by
  obtain ⟨b1, o1, c1, e1, _, _, _, d1⟩ := Rd.byteAt hr (k := 120) (by omega)
  obtain ⟨b2, o2, c2, e2, _, _, _, d2⟩ := Rd.byteAt hr (k := 121) (by omega)
  injection e1 with hA1 _ hc1
  injection e2 with hA2 _ hc2
  subst hA1 hc1
  injection hA2 with hA2
  injection hA2 with hA2 hA3
  subst hA2 hA3 hc2
  rw [← at8_eq bs 120 (by omega)] at d1
  rw [← at8_eq bs 121 (by omega)] at d2
  have h1 := at8_lt bs 120
  have h2 := at8_lt bs 121
  have htwo : two8 bs 120 = at8 bs 120 + 256 * at8 bs 121 := rfl
  obtain ⟨x, hx⟩ : ∃ x, at8 bs 120 = x := ⟨_, rfl⟩
  obtain ⟨y, hy⟩ : ∃ y, at8 bs 121 = y := ⟨_, rfl⟩
  rw [hx] at d1 h1 htwo
  rw [hy] at d2 h2 htwo
  rw [htwo]
  have Hor := hide (or_two x y h1 h2)
  clear hr hx hy htwo hl h1 h2
  go_enter Tryd.func33, Tryd.ntmps33
  go_upto_region 1 with (fail)
  go_wp2_with (go_region)
  go_ret
  exact ⟨congrArg (fun z : Int => Ending.returned (.int .i64 z)) Hor.out, (Frm.refl NoB w).drew⟩

theorem step_store_row {P : Program} {ops : Array Oper} {w : World} {o : Oper} {a : Act} {K : Act → World → Prop} {Q : Exit → Act → World → Prop} {E : Prop} (hgd : o.guard = none) (ty : TypeId) (x y : Operand) (ho : o.op = .store ty x y)
    (g : Nat) (cells : Array Value) (hx : a.eval x = .pointer (some ⟨g, 0, none⟩)) (hy : a.eval y = .agg cells)
    (t : TypeId) (old : Array Value) (hg : w.heap[g]? = some (.cells old t (0, 0))) (hi : (P.info? ty).map (·.size) = some cells.size)
    (hold : old.size = cells.size) (h1 : cells.all (·.oneCell') = true)
    (h : K (a.put o.dst undef) (w.setRow g cells)) : if Region.wanted o (yielded ops a.tmps) = true then Oper.wp P o a w K Q else E := by
  have hw : Region.wanted o (yielded ops a.tmps) = true := by simp [Region.wanted, hgd]
  rw [if_pos hw]
  exact wp_store_row ty x y ho g cells hx hy t old hg hi hold h1 h
theorem step_build {P : Program} {ops : Array Oper} {w : World} {o : Oper} {a : Act} {K : Act → World → Prop} {Q : Exit → Act → World → Prop} {E : Prop} (hgd : o.guard = none) (t : TypeId) (parts : Array (Nat × Operand)) (ho : o.op = .build t parts)
    (vs : Array (Nat × Value)) (hv : (parts.map fun (i, x) => (i, a.eval x)) = vs) (cells : Array Value) (hb : (Instr.build t vs).run P w = .ok (.agg cells) w)
    (h : K (a.put o.dst (.agg cells)) w) : if Region.wanted o (yielded ops a.tmps) = true then Oper.wp P o a w K Q else E := by
  have hw : Region.wanted o (yielded ops a.tmps) = true := by simp [Region.wanted, hgd]
  rw [if_pos hw]
  unfold Oper.wp execOp
  subst hv
  simp only [ho, Sem.run_bind, hb, Result.andThen_ok]
  exact h
/-- A block's numbers, its bytes not yet copied. -/
def bare (b : List UInt8) : ALeaf := { decode b with load := List.replicate 116 0 }
theorem cells_one (l : ALeaf) : l.cells.all (·.oneCell') = true := by
  simp only [ALeaf.cells, List.all_toArray, List.all_cons, List.all_map, Value.oneCell', Bool.true_and, List.all_eq_true]
  intro x _
  rfl

theorem zeroCells_leaf : Tryd.zeroCells24 = ALeaf.zero.cells := by
  apply Array.toList_inj.1
  rfl
theorem Blk.setRow_ {w : World} {g t : Nat} {old : Array Value} (h : Blk w g t old) (cs : Array Value) : Blk (w.setRow g cs) g t cs := setRow_heap w g old cs t (0, 0) h
theorem Frm.setRow {S : Nat → Prop} {a w : World} (h : Frm S a w) {g : Nat} (hg : g < a.heap.size → S g) (cs : Array Value) : Frm S a (w.setRow g cs) :=
  ⟨h.os, h.tape, h.output, by simpa using h.size, fun i hi hn => (setRow_other w g i cs (by rintro rfl; exact hn (hg hi))).trans (h.block i hi hn)⟩
theorem leaf_cells_eq (l : ALeaf) (hl : l.ok) (w : World) (g : Nat) (h : Blk w g 24 l.cells) : (loadVar 24 ⟨g, 0, none⟩).run Tryd.prog w = .ok (.agg l.cells) w :=
  run_loadVar_row w g 24 24 l.cells (0, 0) _ h Tryd.underlying24 rfl (by rw [ALeaf.cells_size hl]; kernel_rfl)
/-- What the copy into the bytes makes of the numbers. -/
theorem bare_splice {bs : List UInt8} (hl : bs.length = 128) : splice (bare bs).cells.toList 5 ((bs.take 116).map byt) = (decode bs).cells.toList := by
  have h1 : (bs.take 116).length = 116 := by simp [hl]
  simp only [splice, bare, ALeaf.cells, decode, List.take_succ_cons, List.take_zero, List.length_map, h1]
  rw [List.drop_of_length_le (by simp)]
  simp

theorem results_row_tmp {P : Program} {fn : Func} {p t : Tmp} {ty : TypeId} (h : fn.results = #[.cell p ty, .tmp t]) (tmps : Array Value) (w : World) (g : Nat) (cs : Array Value)
    (hp : tmps.getD p undef = .pointer (some ⟨g, 0, none⟩)) (hl : (loadVar ty ⟨g, 0, none⟩).run P w = .ok (.agg cs) w) : (results fn tmps).run P w = .ok (.tuple #[.agg cs, tmps.getD t undef]) w := by
  have hp' : tmps[p]?.getD undef = .pointer (some ⟨g, 0, none⟩) := by simpa using hp
  simp [results, h, hp', asAddr, hl]
/-- In a region that draws: the load of a whole row may be taken first. -/
theorem yieldsIf_load_row {P : Program} {ops : Array Oper} {S : World → Prop} {o : Oper} {a : Act} (hw : Region.wanted o (yielded ops a.tmps) = true) (ty : TypeId) (x : Operand) (ho : o.op = .load ty x)
    (g : Nat) (hx : a.eval x = .pointer (some ⟨g, 0, none⟩)) (t : TypeId) (cs : Array Value) (d : TypeDesc) (hS : ∀ w, S w → Blk w g t cs)
    (hu : P.underlying ty = some d) (hd : (match d with | .struct _ | .array _ _ => true | _ => false) = true) (hi : (P.info? ty).map (·.size) = some cs.size) : YieldsIf P ops S o (.agg cs) a := by
  refine .inl ⟨hw, fun w hSw => ?_⟩
  have hl := run_loadVar_row (P := P) w g t ty cs (0, 0) d (hS w hSw) hu hd hi
  unfold execOp
  simp only [ho, hx, Instr.loadAt, Instr.sureAddr, Sem.run_bind, Sem.run_pure, Result.andThen_ok, hl]
set_option maxRecDepth 1000000 in
set_option maxHeartbeats 2000000 in
theorem Get_128 (bs : List UInt8) (v : Value) (w : World) {F : Nat → Prop} (hr : BRd w F v bs) (hl : bs.length = 128) :
    Calls Tryd.prog 11 #[v] w fun e w' => e = .returned (.tuple #[.agg (leafOf (getL bs)).cells, .bool (getL bs).isSome]) ∧ Frm NoB w w' := by
  obtain ⟨A, c, rfl, hc⟩ := hr.form
  rw [hl] at hc
  rw [show (.slice A bs.length c : Value) = .slice A 128 c from by rw [hl]] at hr ⊢
  go_enter Tryd.func11, Tryd.ntmps11
  go_upto_region 4 with (fail)
  obtain ⟨b0, hb0⟩ : ∃ b0, w.heap.size = b0 := ⟨_, rfl⟩
  obtain ⟨W, hW⟩ : ∃ W, (w.alloc (.cells #[.slice A 128 c] 25)).alloc (.cells Tryd.zeroCells24 24) = W := ⟨_, rfl⟩
  have hF : Frm NoB w W := hW ▸ ((Frm.refl NoB w).alloc _).alloc _
  have hB0 : Blk W b0 25 #[.slice A 128 c] := by rw [← hW, ← hb0]; exact (Blk.new w _ _).alloc _
  have hB1 : Blk W (b0 + 1) 24 Tryd.zeroCells24 := by
    have := Blk.new (w.alloc (.cells #[.slice A 128 c] 25)) 24 Tryd.zeroCells24
    rw [hW] at this
    rw [← hb0]
    simpa using this
  rw [hW, hb0]
  clear hW
  have hrW := hr.frm hF
  obtain ⟨b1, o1, c1, e1, _, _, hlt1, hx1⟩ := Rd.byteAt hrW (k := 0) (by omega)
  clear hx1
  injection e1 with hA1 hn1 hc1
  clear hn1
  subst hA1 hc1
  have dat : ∀ (w' : World), Frm NoB W w' → ∀ k, k < 128 → w'.cell? ⟨b1, o1 + k, none⟩ = some (.int .u8 (at8 bs k : Int)) := by
    intro w' hf k hk
    obtain ⟨b2, o2, c2, e2, _, _, _, d2⟩ := Rd.byteAt (hrW.frm hf) (k := k) (by omega)
    injection e2 with hA2 _ hc2
    injection hA2 with hA2
    injection hA2 with hA2 hA3
    subst hA2 hA3
    rw [d2, at8_eq bs k (by omega)]
  have ycells : Hid (∀ w', Frm NoB W w' → w'.cell? ⟨b0, 0, none⟩ = some (.slice (some ⟨b1, o1, none⟩) 128 c) ∧ w'.cell? ⟨b1, o1 + 122, none⟩ = some (.int .u8 (at8 bs 122 : Int)) ∧ w'.cell? ⟨b1, o1 + 123, none⟩ = some (.int .u8 (at8 bs 123 : Int))) := hide (fun w' hf => ⟨(hB0.frm hf (fun h => h)).cell 0, dat w' hf 122 (by omega), dat w' hf 123 (by omega)⟩)
  have HrW := hide hrW
  have Hdat := hide dat
  have HB0 := hide hB0
  have HB1 := hide hB1
  clear hrW dat hr hB0 hB1
  have hbok : (bare bs).ok := ⟨by simp [bare], (decode_ok hl).kind, (decode_ok hl).file, (decode_ok hl).place, (decode_ok hl).next, (decode_ok hl).size⟩
  go_cut [5] (fun pv W' => ∃ g, pv = .pointer (some ⟨g, 0, none⟩) ∧ Frm NoB W W' ∧ Blk W' g 24 (bare bs).cells ∧ W.heap.size ≤ g)
  case first =>
    have hFd := (Frm.refl NoB W).drew
    have c0 := ycells.out W.drew hFd
    have hszb := leaf_size (bare bs) hbok
    have h22 := at8_lt bs 122
    have h23 := at8_lt bs 123
    have w22 : IntKind.i64.wrap (at8 bs 122 : Int) = (at8 bs 122 : Int) := by rw [IntKind.wrap_i64]; omega
    have w23 : IntKind.i64.wrap (at8 bs 123 : Int) = (at8 bs 123 : Int) := by rw [IntKind.wrap_i64]; omega
    have hbuild : ∀ w : World, (Instr.build 24 #[(1, .int .i64 (two8 bs 116)), (2, .int .i64 (two8 bs 118)), (3, .int .i64 (two8 bs 120)), (4, .int .i64 (at8 bs 122)), (0, .int .i64 (at8 bs 123))]).run Tryd.prog w = .ok (.agg (bare bs).cells) w := fun w => run_build w 24 _ _ (by first | rfl | kernel_rfl)
    clear h22 h23
    have a0 : ∀ w', Frm NoB W w' → Calls Tryd.prog 33 #[.int .i64 0, .pointer (some ⟨b0, 0, none⟩)] w' fun e w'' => e = .returned (.int .i64 (two8 bs 116)) ∧ Frm NoB W w'' ∧ Frm NoB w' w'' := fun w' hf => (two0_calls bs _ c b0 w' (HrW.out.frm hf) hl (ycells.out w' hf).1).mono fun _ _ ⟨e, h⟩ => ⟨e, hf.trans h (fun _ _ h => h), h⟩
    have a2 : ∀ w', Frm NoB W w' → Calls Tryd.prog 33 #[.int .i64 2, .pointer (some ⟨b0, 0, none⟩)] w' fun e w'' => e = .returned (.int .i64 (two8 bs 118)) ∧ Frm NoB W w'' ∧ Frm NoB w' w'' := fun w' hf => (two2_calls bs _ c b0 w' (HrW.out.frm hf) hl (ycells.out w' hf).1).mono fun _ _ ⟨e, h⟩ => ⟨e, hf.trans h (fun _ _ h => h), h⟩
    have a4 : ∀ w', Frm NoB W w' → Calls Tryd.prog 33 #[.int .i64 4, .pointer (some ⟨b0, 0, none⟩)] w' fun e w'' => e = .returned (.int .i64 (two8 bs 120)) ∧ Frm NoB W w'' ∧ Frm NoB w' w'' := fun w' hf => (two4_calls bs _ c b0 w' (HrW.out.frm hf) hl (ycells.out w' hf).1).mono fun _ _ ⟨e, h⟩ => ⟨e, hf.trans h (fun _ _ h => h), h⟩
    have A0 := hide a0
    have A2 := hide a2
    have A4 := hide a4
    clear a0 a2 a4
    refine wp_region_held_drew (S := fun w' => w'.cell? ⟨b0, 0, none⟩ = some (.slice (some ⟨b1, o1, none⟩) 128 c) ∧ w'.cell? ⟨b1, o1 + 122, none⟩ = some (.int .u8 (at8 bs 122 : Int)) ∧ w'.cell? ⟨b1, o1 + 123, none⟩ = some (.int .u8 (at8 bs 123 : Int))) (by kernel_rfl) c0 (fun hS0 => ?_)
    refine wpAnyH_take (i := 0) (v := ?v0) rfl (by kernel_rfl) (by kernel_rfl) (by kernel_rfl) (fun _ _ _ h => h) (Or.inl ⟨by rfl, ?h0⟩) hS0 ?_
    case h0 =>
      intro w hSw
      go_simp
      with_reducible rfl
    simp only [List.getElem_toArray, List.getElem_cons_succ, List.getElem_cons_zero, Act.put, List.setIfInBounds_toArray, List.set_cons_zero, List.set_cons_succ]
    refine wpAnyH_take (i := 2) (v := ?v2) rfl (by kernel_rfl) (by kernel_rfl) (by kernel_rfl) (fun _ _ _ h => h) (Or.inl ⟨by rfl, ?h2⟩) hS0 ?_
    case h2 =>
      intro w hSw
      go_simp
      with_reducible rfl
    simp only [List.getElem_toArray, List.getElem_cons_succ, List.getElem_cons_zero, Act.put, List.setIfInBounds_toArray, List.set_cons_zero, List.set_cons_succ]
    refine wpAnyH_take (i := 4) (v := ?v4) rfl (by kernel_rfl) (by kernel_rfl) (by kernel_rfl) (fun _ _ _ h => h) (Or.inl ⟨by rfl, ?h4⟩) hS0 ?_
    case h4 =>
      intro w hSw
      go_simp
      with_reducible rfl
    simp only [List.getElem_toArray, List.getElem_cons_succ, List.getElem_cons_zero, Act.put, List.setIfInBounds_toArray, List.set_cons_zero, List.set_cons_succ]
    refine wpAnyH_take (i := 6) (v := ?v6) rfl (by kernel_rfl) (by kernel_rfl) (by kernel_rfl) (fun _ _ _ h => h) (Or.inl ⟨by rfl, ?h6⟩) hS0 ?_
    case h6 =>
      intro w hSw
      go_simp
      with_reducible rfl
    simp only [List.getElem_toArray, List.getElem_cons_succ, List.getElem_cons_zero, Act.put, List.setIfInBounds_toArray, List.set_cons_zero, List.set_cons_succ]
    refine wpAnyH_take (i := 7) (v := ?v7) rfl (by kernel_rfl) (by kernel_rfl) (by kernel_rfl) (fun _ _ _ h => h) (Or.inl ⟨by rfl, ?h7⟩) hS0 ?_
    case h7 =>
      intro w hSw
      go_simp
      with_reducible rfl
    simp only [List.getElem_toArray, List.getElem_cons_succ, List.getElem_cons_zero, Act.put, List.setIfInBounds_toArray, List.set_cons_zero, List.set_cons_succ]
    refine wpAnyH_take (i := 8) (v := ?v8) rfl (by kernel_rfl) (by kernel_rfl) (by kernel_rfl) (fun _ _ _ h => h) (Or.inl ⟨by rfl, ?h8⟩) hS0 ?_
    case h8 =>
      intro w hSw
      go_simp
      with_reducible rfl
    simp only [List.getElem_toArray, List.getElem_cons_succ, List.getElem_cons_zero, Act.put, List.setIfInBounds_toArray, List.set_cons_zero, List.set_cons_succ]
    refine wpAnyH_take (i := 9) (v := ?v9) rfl (by kernel_rfl) (by kernel_rfl) (by kernel_rfl) (fun _ _ _ h => h) (Or.inl ⟨by rfl, ?h9⟩) hS0 ?_
    case h9 =>
      intro w hSw
      go_simp
      with_reducible rfl
    simp only [List.getElem_toArray, List.getElem_cons_succ, List.getElem_cons_zero, Act.put, List.setIfInBounds_toArray, List.set_cons_zero, List.set_cons_succ]
    refine wpAnyH_take (i := 10) (v := ?v10) rfl (by kernel_rfl) (by kernel_rfl) (by kernel_rfl) (fun _ _ _ h => h) (Or.inl ⟨by rfl, ?h10⟩) hS0 ?_
    case h10 =>
      intro w hSw
      go_simp
      with_reducible rfl
    simp only [List.getElem_toArray, List.getElem_cons_succ, List.getElem_cons_zero, Act.put, List.setIfInBounds_toArray, List.set_cons_zero, List.set_cons_succ]
    refine wpAnyH_take (i := 11) (v := ?v11) rfl (by kernel_rfl) (by kernel_rfl) (by kernel_rfl) (fun _ _ _ h => h) (Or.inl ⟨by rfl, ?h11⟩) hS0 ?_
    case h11 =>
      intro w hSw
      go_simp
      with_reducible rfl
    simp only [List.getElem_toArray, List.getElem_cons_succ, List.getElem_cons_zero, Act.put, List.setIfInBounds_toArray, List.set_cons_zero, List.set_cons_succ]
    refine wpAnyH_take (i := 12) (v := ?v12) rfl (by kernel_rfl) (by kernel_rfl) (by kernel_rfl) (fun _ _ _ h => h) (Or.inl ⟨by rfl, ?h12⟩) hS0 ?_
    case h12 =>
      intro w hSw
      go_simp
      with_reducible rfl
    simp only [List.getElem_toArray, List.getElem_cons_succ, List.getElem_cons_zero, Act.put, List.setIfInBounds_toArray, List.set_cons_zero, List.set_cons_succ]
    refine wpAnyH_take (i := 13) (v := ?v13) rfl (by kernel_rfl) (by kernel_rfl) (by kernel_rfl) (fun _ _ _ h => h) (Or.inl ⟨by rfl, ?h13⟩) hS0 ?_
    case h13 =>
      intro w hSw
      go_simp
      with_reducible rfl
    simp only [List.getElem_toArray, List.getElem_cons_succ, List.getElem_cons_zero, Act.put, List.setIfInBounds_toArray, List.set_cons_zero, List.set_cons_succ]
    refine wpAnyH_name (fun a0 ha0 => ?_)
    refine wpAnyH_hard (by kernel_rfl) [1, 3, 5, 14, 15, 16] (fun D a w => Frm NoB W w ∧ ∃ t12 t14 t16 t25 t5 : Value, a = (((((a0.put (some 12) t12).put (some 14) t14).put (some 16) t16).put (some 25) t25).put (some 5) t5) ∧
      (D 1 = true → t12 = .int .i64 (two8 bs 116)) ∧ (D 3 = true → t14 = .int .i64 (two8 bs 118)) ∧ (D 5 = true → t16 = .int .i64 (two8 bs 120)) ∧ (D 14 = true → t25 = .agg (bare bs).cells) ∧
      (D 15 = true → ∃ g, t5 = .pointer (some ⟨g, 0, none⟩) ∧ W.heap.size ≤ g ∧ Blk w g 24 (if D 16 then (bare bs).cells else Tryd.zeroCells24)) ∧ (D 16 = true → D 15 = true)) (by kernel_rfl) (by kernel_rfl) (fun D a w h => ycells.out w h.1) ?_ ?_
      (StepAll.cons rfl (fun D a w hDi hdep hI K hK => ?_) (StepAll.cons rfl (fun D a w hDi hdep hI K hK => ?_) (StepAll.cons rfl (fun D a w hDi hdep hI K hK => ?_) (StepAll.cons rfl (fun D a w hDi hdep hI K hK => ?_) (StepAll.cons rfl (fun D a w hDi hdep hI K hK => ?_) (StepAll.cons rfl (fun D a w hDi hdep hI K hK => ?_) StepAll.nil)))))) (by kernel_rfl)
    · refine ⟨(Frm.refl NoB W).drew, a0.tmps.getD 12 undef, a0.tmps.getD 14 undef, a0.tmps.getD 16 undef, a0.tmps.getD 25 undef, a0.tmps.getD 5 undef, ?_, ?_, ?_, ?_, ?_, ?_, ?_⟩
      · simp only [put_self]
      all_goals (intro h; exact absurd h (by rw [show doneOf _ _ = false from by kernel_rfl]; simp))
    · intro D a w hall hI
      obtain ⟨hFw, t12, t14, t16, t25, t5, hae, e12, e14, e16, e25, e5, e19⟩ := hI
      obtain ⟨g, rfl, hge, hb⟩ := e5 (hall 15 (by simp))
      rw [hall 16 (by simp), if_pos rfl] at hb
      subst hae
      subst ha0
      simp only [Act.put, List.setIfInBounds_toArray, List.set_cons_zero, List.set_cons_succ]
      clear c0 hS0 e12 e14 e16 e25 e5 e19 hall
      go_wp2
      go_meet
      exact ⟨g, rfl, hFw, hb, hge⟩
    · obtain ⟨hFw, t12, t14, t16, t25, t5, hae, e12, e14, e16, e25, e5, e19⟩ := hI
      subst hae
      subst ha0
      simp only [List.getElem_toArray, List.getElem_cons_succ, List.getElem_cons_zero, Act.put, List.setIfInBounds_toArray, List.set_cons_zero, List.set_cons_succ]
      clear hdep
      go_simp
      refine (A0.out _ hFw).mono ?_
      rintro e w1 ⟨rfl, hf1, hg1⟩
      refine hK.out _ _ ⟨hf1, .int .i64 (two8 bs 116), t14, t16, t25, t5, ?_, fun _ => rfl, e14, e16, e25, fun h18 => ?_, e19⟩
      · simp only [Act.put, List.setIfInBounds_toArray, List.set_cons_zero, List.set_cons_succ]
      · obtain ⟨g, ht5, hge, hb⟩ := e5 h18
        exact ⟨g, ht5, hge, hb.frm hg1 (fun h => h)⟩
    · obtain ⟨hFw, t12, t14, t16, t25, t5, hae, e12, e14, e16, e25, e5, e19⟩ := hI
      subst hae
      subst ha0
      simp only [List.getElem_toArray, List.getElem_cons_succ, List.getElem_cons_zero, Act.put, List.setIfInBounds_toArray, List.set_cons_zero, List.set_cons_succ]
      clear hdep
      go_simp
      refine (A2.out _ hFw).mono ?_
      rintro e w1 ⟨rfl, hf1, hg1⟩
      refine hK.out _ _ ⟨hf1, t12, .int .i64 (two8 bs 118), t16, t25, t5, ?_, e12, fun _ => rfl, e16, e25, fun h18 => ?_, e19⟩
      · simp only [Act.put, List.setIfInBounds_toArray, List.set_cons_zero, List.set_cons_succ]
      · obtain ⟨g, ht5, hge, hb⟩ := e5 h18
        exact ⟨g, ht5, hge, hb.frm hg1 (fun h => h)⟩
    · obtain ⟨hFw, t12, t14, t16, t25, t5, hae, e12, e14, e16, e25, e5, e19⟩ := hI
      subst hae
      subst ha0
      simp only [List.getElem_toArray, List.getElem_cons_succ, List.getElem_cons_zero, Act.put, List.setIfInBounds_toArray, List.set_cons_zero, List.set_cons_succ]
      clear hdep
      go_simp
      refine (A4.out _ hFw).mono ?_
      rintro e w1 ⟨rfl, hf1, hg1⟩
      refine hK.out _ _ ⟨hf1, t12, t14, .int .i64 (two8 bs 120), t25, t5, ?_, e12, e14, fun _ => rfl, e25, fun h18 => ?_, e19⟩
      · simp only [Act.put, List.setIfInBounds_toArray, List.set_cons_zero, List.set_cons_succ]
      · obtain ⟨g, ht5, hge, hb⟩ := e5 h18
        exact ⟨g, ht5, hge, hb.frm hg1 (fun h => h)⟩
    · obtain ⟨hFw, t12, t14, t16, t25, t5, hae, e12, e14, e16, e25, e5, e19⟩ := hI
      subst hae
      subst ha0
      simp only [List.getElem_toArray, List.getElem_cons_succ, List.getElem_cons_zero, Act.put, List.setIfInBounds_toArray, List.set_cons_zero, List.set_cons_succ]
      have h1 := dep_of hdep 1 (by kernel_rfl)
      have h3 := dep_of hdep 3 (by kernel_rfl)
      have h5 := dep_of hdep 5 (by kernel_rfl)
      obtain rfl := e12 h1
      obtain rfl := e14 h3
      obtain rfl := e16 h5
      rw [if_pos (by rfl)]
      refine wp_build 24 _ (by rfl) #[(1, .int .i64 (two8 bs 116)), (2, .int .i64 (two8 bs 118)), (3, .int .i64 (two8 bs 120)), (4, .int .i64 (at8 bs 122)), (0, .int .i64 (at8 bs 123))] (by simp [Act.eval]) (bare bs).cells (hbuild _) ?_
      refine hK.out _ _ ⟨hFw, _, _, _, .agg (bare bs).cells, t5, ?_, fun _ => rfl, fun _ => rfl, fun _ => rfl, fun _ => rfl, e5, e19⟩
      simp only [Act.put, List.setIfInBounds_toArray, List.set_cons_zero, List.set_cons_succ]
    · obtain ⟨hFw, t12, t14, t16, t25, t5, hae, e12, e14, e16, e25, e5, e19⟩ := hI
      subst hae
      subst ha0
      simp only [List.getElem_toArray, List.getElem_cons_succ, List.getElem_cons_zero, Act.put, List.setIfInBounds_toArray, List.set_cons_zero, List.set_cons_succ]
      clear hdep
      go_simp
      refine hK.out _ _ ⟨hFw.alloc _, t12, t14, t16, t25, .pointer (some ⟨w.heap.size, 0, none⟩), ?_, e12, e14, e16, e25, fun _ => ⟨_, rfl, hFw.size, ?_⟩, fun _ => rfl⟩
      · simp only [Act.put, List.setIfInBounds_toArray, List.set_cons_zero, List.set_cons_succ]
      · have h16 : D 16 = false := by
          cases h : D 16 with
          | false => rfl
          | true => rw [e19 h] at hDi; cases hDi
        rw [show also D 15 16 = D 16 from rfl, h16, if_neg (by simp)]
        exact Blk.new _ _ _
    · obtain ⟨hFw, t12, t14, t16, t25, t5, hae, e12, e14, e16, e25, e5, e19⟩ := hI
      subst hae
      subst ha0
      simp only [List.getElem_toArray, List.getElem_cons_succ, List.getElem_cons_zero, Act.put, List.setIfInBounds_toArray, List.set_cons_zero, List.set_cons_succ]
      have h14 := dep_of hdep 14 (by kernel_rfl)
      have h15 := dep_of hdep 15 (by kernel_rfl)
      obtain ⟨g, rfl, hge, hb⟩ := e5 h15
      obtain rfl := e25 h14
      rw [hDi, if_neg (by simp)] at hb
      have hszo : (Tryd.zeroCells24).size = (bare bs).cells.size := by rw [ALeaf.cells_size hbok]; rfl
      rw [if_pos (by rfl)]
      refine wp_store_row 24 (.tmp 5) (.tmp 25) (by rfl) g (bare bs).cells (by rfl) (by rfl) 24 Tryd.zeroCells24 hb hszb hszo (cells_one _) ?_
      refine hK.out _ _ ⟨hFw.setRow (fun h => absurd h (by omega)) _, t12, t14, t16, _, _, ?_, e12, e14, e16, fun _ => rfl, fun _ => ⟨g, rfl, hge, ?_⟩, fun _ => h15⟩
      · simp only [Act.put, List.setIfInBounds_toArray, List.set_cons_zero, List.set_cons_succ]
      · rw [show also D 16 16 = true from rfl, if_pos rfl]
        exact Blk.setRow_ hb _
  case rest =>
    obtain ⟨g, rfl, hF1, hbg, hge⟩ := hcut
    have hok := decode_ok hl
    have hB0c : wc.drew.cell? ⟨b0, 0, none⟩ = some (.slice (some ⟨b1, o1, none⟩) 128 c) := (ycells.out _ hF1).1
    obtain ⟨i0, hi0, hz0, hz1, hz2⟩ := info_parts Tryd.infoByte
    have hsz : (Tryd.prog.info? 5).map (·.size) = some 1 := by rw [hi0]; simp [hz1]
    have h1 : ((bs.take 116).map byt).length = 116 := by simp [hl]
    have hcp : ∀ j v, ((bs.take 116).map byt)[j]? = some v → wc.drew.cell? ((⟨b1, o1, none⟩ : Addr).add j) = some v := by
      intro j v hj
      rw [List.getElem?_map, Option.map_eq_some_iff] at hj
      obtain ⟨x, hx, rfl⟩ := hj
      obtain ⟨hjl, hxe⟩ := List.getElem?_eq_some_iff.1 hx
      have hj128 : j < 116 := by simp [hl] at hjl; omega
      have := Hdat.out wc hF1 j (by omega)
      rw [at8_eq bs j (by omega)] at this
      rw [show (⟨b1, o1, none⟩ : Addr).add j = ⟨b1, o1 + j, none⟩ by unfold Addr.add; split <;> simp_all]
      rw [List.getElem_take] at hxe
      rw [← hxe]
      exact this
    have hbg' : wc.drew.heap[g]? = some (.cells (bare bs).cells.toList.toArray 24 (0, 0)) := by rw [Array.toArray_toList]; exact hbg
    have hbel : Below W.heap.size W wc.drew := (hF1.below (Nat.le_refl _) (fun _ _ h => h)).drew
    have hcl : (bare bs).cells.toList.length = 121 := by rw [Array.length_toList, ALeaf.cells_size hbok]
    clear hi0 hz0 hz1 hz2
    have Hh1 := hide h1
    have Hcl := hide hcl
    clear h1 hcl
    go_upto_region 5 with (fail)
    go_region_held3 (fun w' => w'.cell? ⟨b0, 0, none⟩ = some (.slice (some ⟨b1, o1, none⟩) 128 c)) (first | exact hB0c | exact (ycells.out _ (Frm.of_below hb4)).1)
      ((refine step_copy_splice (by rfl) (.tmp 27) (.tmp 28) 25 25 (by rfl) 5 Tryd.underlying25 hsz (some ⟨g, 5, none⟩) (some ⟨b1, o1, none⟩) 116 116 128 c (by rfl) (by rfl) g 5 (bare bs).cells.toList 24 hbg' ((bs.take 116).map byt) (by rw [Hh1.out]; rfl) (fun _ => ⟨rfl, _, rfl, hcp⟩) (by rw [Hh1.out, Hcl.out]; omega) (byt_one _) W.heap.size W hbel hge ?_; intro w4 hg4 hb4))
    have hb5 : Blk w4 g 24 (decode bs).cells := by
      have h := hg4.out
      rw [bare_splice hl, Array.toArray_toList] at h
      exact h
    have hF4 : Frm NoB W w4 := Frm.of_below hb4
    clear hg4 hb4 hbg' hcp hB0c hbg hbel hF1
    go_upto_region 6 with (fail)
    have c0 : w4.drew.cell? ⟨b0, 0, none⟩ = some (.slice (some ⟨b1, o1, none⟩) 128 c) := (ycells.out _ hF4).1
    have d0 : Blk w4.drew g 24 (decode bs).cells := hb5
    have rd5 : ∀ w', Frm NoB W w' → BRd w' F (.slice (some ⟨b1, o1, none⟩) 128 c) bs := fun w' hf => HrW.out.frm hf
    have hFd4 := hF4.drew
    have Hb5 := hide hb5
    have Hrd5 := hide rd5
    have Hbs := hide hl
    have HF := hide hF
    clear hb5 rd5 hl hF4 hF
    have hli := leaf_size (decode bs) hok
    refine wp_region_held_drew (S := fun w' => w'.cell? ⟨b0, 0, none⟩ = some (.slice (some ⟨b1, o1, none⟩) 128 c) ∧ Blk w' g 24 (decode bs).cells) (by kernel_rfl) ⟨c0, d0⟩ (fun hS0 => ?_)
    refine wpAnyH_take (i := 0) (v := .agg (decode bs).cells) rfl (by kernel_rfl) (by kernel_rfl) (by kernel_rfl) (fun _ _ _ h => h) (yieldsIf_load_row (by rfl) 24 (.tmp 5) (by rfl) g (by rfl) 24 _ _ (fun _ h => h.2) Tryd.underlying24 rfl hli) hS0 ?_
    simp only [Act.put, List.setIfInBounds_toArray, List.set_cons_zero, List.set_cons_succ]
    refine wpAnyH_take (i := 2) (v := .slice (some ⟨b1, o1, none⟩) 128 c) rfl (by kernel_rfl) (by kernel_rfl) (by kernel_rfl) (fun _ _ _ h => h) (Or.inl ⟨by rfl, fun w h => ?_⟩) hS0 ?_
    · have h0 := h.1
      clear h
      go_simp
    simp only [Act.put, List.setIfInBounds_toArray, List.set_cons_zero, List.set_cons_succ]
    refine wpAnyH_ready (rs := [1]) (by kernel_rfl) (by simp) (AllReadyH.cons rfl (fun K hK => ?_) AllReadyH.nil)
    go_simp
    refine (Put_calls (decode bs) hok _).mono ?_
    rintro e w5 ⟨v5, rfl, ho5, hf5⟩
    have hF5 := hFd4.trans hf5 (fun _ _ h => h)
    have hb6 : Blk w5 g 24 (decode bs).cells := Hb5.out.drew.frm hf5 (fun h => h)
    refine hK.out _ _ ⟨(ycells.out _ hF5).1, hb6⟩ (fun hS1 => ?_)
    have Hb6 := hide hb6
    clear hK K hS0 hb6 c0 d0
    refine wpAnyH_ready (rs := [3]) (by kernel_rfl) (by simp) (AllReadyH.cons rfl (fun K hK => ?_) AllReadyH.nil)
    go_simp
    refine (Equal_calls _ _ v5 _ _ ho5.rd (Hrd5.out _ hF5)).mono ?_
    rintro e w6 ⟨rfl, rfl⟩
    obtain ⟨okb, hokb⟩ : ∃ b : Bool, decide ((decode bs).put = bs) = b := ⟨_, rfl⟩
    rw [hokb]
    have Hokb := hide hokb
    clear hokb
    refine hK.out _ _ hS1 (fun hS2 => ?_)
    clear hK K hS1 hS2
    refine wpAnyH_ready (rs := [4]) (by kernel_rfl) (by simp) (AllReadyH.cons rfl (fun K hK => ?_) AllReadyH.nil)
    go_simp
    refine hK.out _ _ ⟨(ycells.out _ hF5).1, Hb6.out⟩ (fun hS2 => ?_)
    clear hK K hS2
    refine wpAnyH_done (by kernel_rfl) ?_ _
    have hFw : Frm NoB w w5 := HF.out.trans hF5 (fun _ _ h => h)
    have hB1 : Blk w5 (b0 + 1) 24 Tryd.zeroCells24 := HB1.out.frm hF5 (fun h => h)
    have hge5 : w.heap.size ≤ b0 + 1 := by omega
    have hsz0 : (Tryd.zeroCells24).size = (decode bs).cells.size := by rw [ALeaf.cells_size hok]; rfl
    have hszz : (Tryd.zeroCells24).size = ALeaf.zero.cells.size := by rw [zeroCells_leaf]
    have hliz := leaf_size ALeaf.zero ALeaf.zero_ok
    have hbz : ∀ w : World, (Instr.build 24 #[]).run Tryd.prog w = .ok (.agg ALeaf.zero.cells) w := fun w => run_build w 24 _ _ (by rw [← zeroCells_leaf]; kernel_rfl)
    cases okb with
    | true =>
      have Hres : Hid (getL bs = some (decode bs)) := by unfold getL; rw [if_pos ⟨Hbs.out, of_decide_eq_true Hokb.out⟩]; exact hide rfl
      go_wp2_with (first
        | (refine wpList_load_row rfl 24 _ rfl g rfl 24 (decode bs).cells (0, 0) _ Hb6.out Tryd.underlying24 rfl hli ?_)
        | (refine wpList_store_row rfl 24 _ _ rfl (b0 + 1) (decode bs).cells rfl rfl 24 Tryd.zeroCells24 hB1 hli hsz0 (cells_one _) ?_)
        | fail)
      refine bodyPost_ret (v := .tuple #[.agg (decode bs).cells, .bool true]) ?_ rfl ?_
      · exact results_row_tmp (p := 2) (t := 3) (by rfl) _ _ (b0 + 1) (decode bs).cells (by rfl) (leaf_cells_eq (decode bs) hok _ _ (hB1.setRow_ (decode bs).cells))
      · rw [Hres.out]
        exact ⟨rfl, hFw.setRow (fun h => absurd h (by omega)) _⟩
    | false =>
      have Hres : Hid (getL bs = none) := by unfold getL; rw [if_neg (fun h => of_decide_eq_false Hokb.out h.2)]; exact hide rfl
      go_wp2_with (first
        | (refine wpList_store_row rfl 24 _ _ rfl (b0 + 1) ALeaf.zero.cells rfl rfl 24 Tryd.zeroCells24 hB1 hliz hszz (cells_one _) ?_)
        | fail)
      refine bodyPost_ret (v := .tuple #[.agg ALeaf.zero.cells, .bool false]) ?_ rfl ?_
      · exact results_row_tmp (p := 2) (t := 3) (by rfl) _ _ (b0 + 1) ALeaf.zero.cells (by rfl) (leaf_cells_eq ALeaf.zero ALeaf.zero_ok _ _ (hB1.setRow_ ALeaf.zero.cells))
      · rw [Hres.out]
        exact ⟨rfl, hFw.setRow (fun h => absurd h (by omega)) _⟩

set_option maxRecDepth 100000 in
theorem Get_other (bs : List UInt8) (v : Value) (w : World) {F : Nat → Prop} (hr : BRd w F v bs) (hl : bs.length ≠ 128) :
    Calls Tryd.prog 11 #[v] w fun e w' => e = .returned (.tuple #[.agg (leafOf (getL bs)).cells, .bool (getL bs).isSome]) ∧ Frm NoB w w' := by
  obtain ⟨A, c, rfl, hc⟩ := hr.form
  have q : ((bs.length : Int) != 128) = true := by simp; omega
  have Hres : Hid (getL bs = none) := by unfold getL; rw [if_neg (fun h => hl h.1)]; exact hide rfl
  obtain ⟨n, hn⟩ : ∃ n, bs.length = n := ⟨_, rfl⟩
  rw [hn] at hc q ⊢
  clear hl hr hn
  go_enter Tryd.func11, Tryd.ntmps11
  go_upto_region 2 with (fail)
  obtain ⟨b0, hb0⟩ : ∃ b0, w.heap.size = b0 := ⟨_, rfl⟩
  obtain ⟨W, hW⟩ : ∃ W, (w.alloc (.cells #[.slice A n c] 25)).alloc (.cells Tryd.zeroCells24 24) = W := ⟨_, rfl⟩
  have hF : Frm NoB w W := hW ▸ ((Frm.refl NoB w).alloc _).alloc _
  have hB1 : Blk W (b0 + 1) 24 Tryd.zeroCells24 := by
    have := Blk.new (w.alloc (.cells #[.slice A n c] 25)) 24 Tryd.zeroCells24
    rw [hW] at this
    rw [← hb0]
    simpa using this
  have hge5 : w.heap.size ≤ b0 + 1 := by omega
  rw [hW, hb0]
  clear hW hb0
  have hszz : (Tryd.zeroCells24).size = ALeaf.zero.cells.size := by rw [zeroCells_leaf]
  have hliz := leaf_size ALeaf.zero ALeaf.zero_ok
  have hbz : ∀ w : World, (Instr.build 24 #[]).run Tryd.prog w = .ok (.agg ALeaf.zero.cells) w := fun w => run_build w 24 _ _ (by rw [← zeroCells_leaf]; kernel_rfl)
  go_wp2_with (first
    | (refine wpList_store_row rfl 24 _ _ rfl (b0 + 1) ALeaf.zero.cells rfl rfl 24 Tryd.zeroCells24 hB1 hliz hszz (cells_one _) ?_)
    | fail)
  refine bodyPost_ret (v := .tuple #[.agg ALeaf.zero.cells, .bool false]) ?_ rfl ?_
  · exact results_row_tmp (p := 2) (t := 3) (by rfl) _ _ (b0 + 1) ALeaf.zero.cells (by rfl) (leaf_cells_eq ALeaf.zero ALeaf.zero_ok _ _ (hB1.setRow_ ALeaf.zero.cells))
  · rw [Hres.out]
    exact ⟨rfl, hF.setRow (fun h => absurd h (by omega)) _⟩
theorem Get_calls (bs : List UInt8) (v : Value) (w : World) {F : Nat → Prop} (hr : BRd w F v bs) :
    Calls Tryd.prog 11 #[v] w fun e w' => e = .returned (.tuple #[.agg (leafOf (getL bs)).cells, .bool (getL bs).isSome]) ∧ Frm NoB w w' := by
  by_cases hl : bs.length = 128
  · exact Get_128 bs v w hr hl
  · exact Get_other bs v w hr hl
end Go.Proofs.YtablmgnhpciljaaDoor
