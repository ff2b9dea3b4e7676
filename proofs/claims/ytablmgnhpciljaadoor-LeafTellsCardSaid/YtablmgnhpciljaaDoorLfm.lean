/- == on leaves. -/
import Derived.Test.YtablmgnhpciljaaDoorLfl
import Derived.ChangeKeysEq
namespace Go.Proofs.YtablmgnhpciljaaDoor
open Go.RowKit

theorem run_eqItems_bytes {P : Program} (w : World) (d : Nat) {e : TypeId} (hu : P.underlying e = some (.int .u8)) (xs ys : Array Value) : ∀ (is : List Nat) (a b : Nat → UInt8), (∀ i ∈ is, xs[i]? = some (byt (a i)) ∧ ys[i]? = some (byt (b i))) →
    (Op.eqItems (d + 1) e 1 xs ys is).run P w = .ok (decide (∀ i ∈ is, a i = b i)) w := by
  have hp : P.plainKey e = true := by simp [Program.plainKey, hu]
  intro is
  induction is with
  | nil => intro a b _; simp [Op.eqItems]
  | cons i is ih =>
    intro a b h
    obtain ⟨hx, hy⟩ := h i (by simp)
    have hr := ih a b (fun j hj => h j (by simp [hj]))
    simp only [Op.eqItems, Sem.run_bind, Nat.mul_one, run_part_plain w hp hx, run_part_plain w hp hy, Result.andThen_ok, byt, run_equalIn_int w d e .u8 .u8 _ _ hu]
    by_cases hab : a i = b i
    · simp [hab, hr]
    · have : ¬ ((a i).toNat : Int) = ((b i).toNat : Int) := fun h => hab (UInt8.toNat_inj.1 (by omega))
      simp [hab, this]
theorem eqF_int {P : Program} (w : World) (d : Nat) (xs ys : Array Value) (f : Field) (fs : List Field) (hn : f.name ≠ "_") {k : IntKind} (hu : P.underlying f.type = some (.int k)) (a b : Int)
    (hx : xs[f.offset]? = some (.int k a)) (hy : ys[f.offset]? = some (.int k b)) : (Op.eqFields (d + 1) xs ys (f :: fs)).run P w = if a = b then (Op.eqFields (d + 1) xs ys fs).run P w else .ok false w := by
  have hp : P.plainKey f.type = true := by simp [Program.plainKey, hu]
  simp only [Op.eqFields, hn, ne_eq, not_false_eq_true, if_true, Sem.run_bind, run_part_plain w hp hx, run_part_plain w hp hy, Result.andThen_ok, run_equalIn_int w d f.type k k a b hu]
  by_cases hab : a = b
  · simp [hab]
  · simp [hab]
theorem eqF_bool {P : Program} (w : World) (d : Nat) (xs ys : Array Value) (f : Field) (fs : List Field) (hn : f.name ≠ "_") (hu : P.underlying f.type = some .bool) (a b : Bool)
    (hx : xs[f.offset]? = some (.bool a)) (hy : ys[f.offset]? = some (.bool b)) : (Op.eqFields (d + 1) xs ys (f :: fs)).run P w = if a = b then (Op.eqFields (d + 1) xs ys fs).run P w else .ok false w := by
  have hp : P.plainKey f.type = true := by simp [Program.plainKey, hu]
  simp only [Op.eqFields, hn, ne_eq, not_false_eq_true, if_true, Sem.run_bind, run_part_plain w hp hx, run_part_plain w hp hy, Result.andThen_ok, run_equalIn_bool w d f.type a b hu]
  by_cases hab : a = b
  · simp [hab]
  · simp [hab]
/-- An array of bytes in the midst of a struct's cells. -/
theorem eqF_bytes {P : Program} (w : World) (d : Nat) (xs ys : Array Value) (f : Field) (fs : List Field) (hn : f.name ≠ "_") {e : TypeId} {n : Nat} (hu : P.underlying f.type = some (.array n e)) (he : P.underlying e = some (.int .u8)) {i j : TypeInfo}
    (hi : P.info? f.type = some i) (hin : P.cellsOf f.type = n) (hj : P.info? e = some j) (hjn : P.cellsOf e = 1) (a b : List UInt8) (ha : a.length = n) (hb : b.length = n)
    (hx : ∀ k (h : k < a.length), xs[f.offset + k]? = some (byt a[k])) (hy : ∀ k (h : k < b.length), ys[f.offset + k]? = some (byt b[k])) :
    (Op.eqFields (d + 2) xs ys (f :: fs)).run P w = if a = b then (Op.eqFields (d + 2) xs ys fs).run P w else .ok false w := by
  have hpx : (part f.type xs f.offset).run P w = .ok (.agg (xs.extract f.offset (f.offset + n))) w := by simp [part, isAgg, run_underlying hu, run_sizeOf w hi, hin]
  have hpy : (part f.type ys f.offset).run P w = .ok (.agg (ys.extract f.offset (f.offset + n))) w := by simp [part, isAgg, run_underlying hu, run_sizeOf w hi, hin]
  have hex : ∀ (zs : Array Value) (c : List UInt8), c.length = n → (∀ k (h : k < c.length), zs[f.offset + k]? = some (byt c[k])) → ∀ k, k < n → (zs.extract f.offset (f.offset + n))[k]? = some (byt (c.getD k 0)) := by
    intro zs c hc hz k hk
    have h1 := hz k (by omega)
    rw [Array.getElem?_extract]
    obtain ⟨hlt, _⟩ := Array.getElem?_eq_some_iff.1 h1
    rw [if_pos (by have := hz (n - 1) (by omega); obtain ⟨h2, _⟩ := Array.getElem?_eq_some_iff.1 this; omega), h1]
    simp [show k < c.length by omega]
  have hit := run_eqItems_bytes w d he (xs.extract f.offset (f.offset + n)) (ys.extract f.offset (f.offset + n)) (List.range n) (fun k => a.getD k 0) (fun k => b.getD k 0) (fun k hk => ⟨hex xs a ha hx k (List.mem_range.1 hk), hex ys b hb hy k (List.mem_range.1 hk)⟩)
  have hdec : decide (∀ k ∈ List.range n, a.getD k 0 = b.getD k 0) = decide (a = b) := by
    rw [decide_eq_decide]
    constructor
    · intro h
      apply List.ext_getElem (by omega)
      intro k h1 h2
      have := h k (List.mem_range.2 (by omega))
      simpa [h1, h2] using this
    · rintro rfl _ _
      rfl
  simp only [Op.eqFields, hn, ne_eq, not_false_eq_true, if_true, Sem.run_bind, hpx, hpy, Result.andThen_ok]
  rw [run_equalIn_array w (d + 1) _ _ hu hj, hjn, hit, hdec]
  by_cases hab : a = b
  · simp [hab]
  · simp [hab]

theorem eql_leaf (d : Nat) (l m : ALeaf) (hl : l.ok) (hm : m.ok) (w : World) : (Op.equalIn (d + 3) 24 (.agg l.cells) (.agg m.cells)).run Tryd.prog w = .ok (decide (l = m)) w := by
  rw [run_equalIn_struct w (d + 2) 24 _ _ (by kernel_rfl) (by kernel_rfl)]
  have hF : (Tryd.prog.fieldsOf 24).toList = [⟨"Kind", 3, 0, false, "", "", 0⟩, ⟨"File", 3, 1, false, "", "", 8⟩, ⟨"Place", 3, 2, false, "", "", 16⟩, ⟨"Next", 3, 3, false, "", "", 24⟩, ⟨"Size", 3, 4, false, "", "", 32⟩, ⟨"Load", 22, 5, false, "", "", 40⟩] := by
    unfold Program.fieldsOf
    rw [Tryd.underlying24]
  rw [hF]
  obtain ⟨i, hi⟩ := info_of_underlying Tryd.underlying22
  obtain ⟨j, hj⟩ := info_of_underlying Tryd.underlying5
  have hin : Tryd.prog.cellsOf 22 = 116 := by kernel_rfl
  refine (eqF_int w (d + 1) l.cells m.cells _ _ (by simp) (k := .i64) (by exact Tryd.underlying3) l.kind m.kind rfl rfl).trans ?_
  by_cases h_kind : l.kind = m.kind
  case neg => rw [if_neg h_kind, decide_eq_false (fun h => h_kind (by rw [h]))]
  rw [if_pos h_kind]
  refine (eqF_int w (d + 1) l.cells m.cells _ _ (by simp) (k := .i64) (by exact Tryd.underlying3) l.file m.file rfl rfl).trans ?_
  by_cases h_file : l.file = m.file
  case neg => rw [if_neg h_file, decide_eq_false (fun h => h_file (by rw [h]))]
  rw [if_pos h_file]
  refine (eqF_int w (d + 1) l.cells m.cells _ _ (by simp) (k := .i64) (by exact Tryd.underlying3) l.place m.place rfl rfl).trans ?_
  by_cases h_place : l.place = m.place
  case neg => rw [if_neg h_place, decide_eq_false (fun h => h_place (by rw [h]))]
  rw [if_pos h_place]
  refine (eqF_int w (d + 1) l.cells m.cells _ _ (by simp) (k := .i64) (by exact Tryd.underlying3) l.next m.next rfl rfl).trans ?_
  by_cases h_next : l.next = m.next
  case neg => rw [if_neg h_next, decide_eq_false (fun h => h_next (by rw [h]))]
  rw [if_pos h_next]
  refine (eqF_int w (d + 1) l.cells m.cells _ _ (by simp) (k := .i64) (by exact Tryd.underlying3) l.size m.size rfl rfl).trans ?_
  by_cases h_size : l.size = m.size
  case neg => rw [if_neg h_size, decide_eq_false (fun h => h_size (by rw [h]))]
  rw [if_pos h_size]
  refine (eqF_bytes w d l.cells m.cells _ _ (by simp) (by exact Tryd.underlying22) (by exact Tryd.underlying5) (by exact hi) (by exact hin) hj (by kernel_rfl) l.load m.load hl.load hm.load (fun k h => l.cells_byte k h) (fun k h => m.cells_byte k h)).trans ?_
  by_cases h5 : l.load = m.load
  case neg => rw [if_neg h5, decide_eq_false (fun h => h5 (by rw [h]))]
  rw [if_pos h5]
  have : l = m := by
    obtain ⟨a0, a1, a2, a3, a4, a5⟩ := l
    obtain ⟨b0, b1, b2, b3, b4, b5⟩ := m
    simp only at h_kind h_file h_place h_next h_size h5
    simp [h_kind, h_file, h_place, h_next, h_size, h5]
  simp [Op.eqFields, this]
theorem run_eql_leaf (l m : ALeaf) (hl : l.ok) (hm : m.ok) (w : World) : (binOp .eql 24 (.agg l.cells) (.agg m.cells)).run Tryd.prog w = .ok (.bool (decide (l = m))) w := by
  obtain ⟨D, hD⟩ : ∃ D : Nat, D = 9997 := ⟨9997, rfl⟩
  have h := eql_leaf D l m hl hm w
  rw [hD] at h
  rw [run_eql_struct]
  rw [show (10000 : Nat) = 9997 + 3 by omega]
  rw [h]
  rfl
theorem run_neq_leaf (l m : ALeaf) (hl : l.ok) (hm : m.ok) (w : World) : (binOp .neq 24 (.agg l.cells) (.agg m.cells)).run Tryd.prog w = .ok (.bool (!decide (l = m))) w := by
  obtain ⟨D, hD⟩ : ∃ D : Nat, D = 9997 := ⟨9997, rfl⟩
  have h := eql_leaf D l m hl hm w
  rw [hD] at h
  rw [run_neq_struct]
  rw [show (10000 : Nat) = 9997 + 3 by omega]
  rw [h]
  rfl
/-- The operations == and != on leaves. -/
theorem exec_eql_leaf (a : Act) (o : Oper) (x y : Operand) (t : TypeId) (ho : o.op = .binOp .eql 24 x y t) (l m : ALeaf) (hl : l.ok) (hm : m.ok) (hx : a.eval x = .agg l.cells) (hy : a.eval y = .agg m.cells) (w : World) :
    (execOp a.eval o).run Tryd.prog w = .ok (.value (.bool (decide (l = m)))) w := by
  unfold execOp
  simp only [ho, hx, hy, Sem.run_bind, run_eqGuard_agg w .eql 24 x y l.cells m.cells Tryd.eqGuardType24, Result.andThen_ok, run_eql_leaf l m hl hm w, Sem.run_pure]
theorem exec_neq_leaf (a : Act) (o : Oper) (x y : Operand) (t : TypeId) (ho : o.op = .binOp .neq 24 x y t) (l m : ALeaf) (hl : l.ok) (hm : m.ok) (hx : a.eval x = .agg l.cells) (hy : a.eval y = .agg m.cells) (w : World) :
    (execOp a.eval o).run Tryd.prog w = .ok (.value (.bool (!decide (l = m)))) w := by
  unfold execOp
  simp only [ho, hx, hy, Sem.run_bind, run_eqGuard_agg w .neq 24 x y l.cells m.cells Tryd.eqGuardType24, Result.andThen_ok, run_neq_leaf l m hl hm w, Sem.run_pure]
end Go.Proofs.YtablmgnhpciljaaDoor
