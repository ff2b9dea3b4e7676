/- append onto a row that is owned, the source whatever reads; in a plain region and in one that draws its order. -/
import Derived.Test.YtablmgnhpciljaaDoorBase
import Derived.Deep.RegionLaw
import Derived.Laws.OwnMore
namespace Go.Proofs.YtablmgnhpciljaaDoor
open Go.RowKit

section
variable {P : Program} {w : World}

theorem run_app (t ty e : TypeId) (i : TypeInfo) (z : Value) (size bytes : Nat) (ht : P.underlying t = some (.slice e)) (hi : P.info? e = some i) (hz : i.zero = some z)
    (hsize : i.size = size) (hby : i.bytes = bytes) (hzs : z.cells.size = size) (hsz : 0 < size)
    (F : Nat → Prop) (v : Value) (n : Nat) (xs : List Value) (hown : Own w F e size v n xs)
    (G : Nat → Prop) (u : Value) (m : Nat) (news : List Value) (hr : Rd w G size u m news) (h1 : ∀ x ∈ news, x.oneCell' = true)
    (h63 : n + m ≤ maxLen) (hbytes : (n + m) * bytes ≤ 140737488355328) :
    ∃ v' w', (Builtin.append_ #[t, t] ty #[v, u]).run P w = .ok v' w' ∧ Own w' (OrB F (NewB w w')) e size v' (n + m) (xs ++ news) ∧ Frm F w w' ∧ (v' = .slice none 0 0 ↔ v = .slice none 0 0 ∧ m = 0) := by
  obtain ⟨hl, A, c, rfl, hc, hx⟩ := hr
  have hF : Frm F w w := Frm.refl F w
  cases A with
  | none =>
    have hm : m = 0 := by
      rcases Nat.eq_zero_or_pos m with h0 | h0
      · exact h0
      · obtain ⟨b, off, h, _⟩ := hx h0
        cases h
    subst hm
    have hn : news = [] := List.eq_nil_of_length_eq_zero (by simpa using hl)
    subst hn
    refine ⟨v, w, ?_, ?_, hF, by simp⟩
    · rcases hown.1.2 with ⟨rfl, rfl⟩ | ⟨g, cap, cur, rfl, _, _, hnc, _⟩
      · simp [Builtin.append_, run_underlying ht, sizeOf, typeInfo, hi, Builtin.lenOf, Builtin.firstCells]
      · simp [Builtin.append_, run_underlying ht, sizeOf, typeInfo, hi, Builtin.lenOf, Builtin.firstCells, hnc, storeCells]
    · simpa using hown.mono fun b _ hb => .inl hb
  | some ad =>
    have hcells : ∀ j y, news[j]? = some y → w.cell? (ad.add j) = some y := by
      intro j y hy
      rcases Nat.eq_zero_or_pos m with h0 | h0
      · subst h0
        have hn : news = [] := List.eq_nil_of_length_eq_zero (by simpa using hl)
        subst hn
        simp at hy
      · obtain ⟨b, off, h, _, _, hcc⟩ := hx h0
        injection h with h
        subst h
        rw [← hcc j y hy]
        unfold Addr.add
        split
        · subst_vars; rfl
        · rfl
    obtain ⟨v', w', hrun, h2, h3, h4, h5⟩ := run_append_own_at (P := P) w 0 t ty e i z size bytes ht hi hz hsize hby hzs hsz v n xs hown.1 ad m c news hl hcells h1 h63 hbytes (Nat.zero_le _)
    refine ⟨v', w', hrun, ⟨h2, fun g hg => ?_⟩, hF.grown h3 (fun k hk _ => hown.2 k hk), h4⟩
    have hlt := (h2.lt g hg).2
    rcases h5 with h5 | h5
    · exact .inl (hown.2 g (by rw [← h5]; exact hg))
    · rw [h5] at hg
      injection hg with hg
      exact .inr ⟨by omega, hlt⟩

theorem wp_app {o : Oper} {a : Act} {K : Act → World → Prop} {Q : Exit → Act → World → Prop} (s x : Operand) (t : TypeId)
    (ho : o.op = .call { callee := .builtin .append, args := #[s, x], argTypes := #[t, t] })
    (e : TypeId) (i : TypeInfo) (z : Value) (size bytes : Nat) (ht : P.underlying t = some (.slice e)) (hi : P.info? e = some i) (hz : i.zero = some z)
    (hsize : i.size = size) (hby : i.bytes = bytes) (hzs : z.cells.size = size) (hsz : 0 < size)
    (F : Nat → Prop) (v : Value) (n : Nat) (xs : List Value) (hs : a.eval s = v) (hown : Own w F e size v n xs)
    (G : Nat → Prop) (u : Value) (m : Nat) (news : List Value) (hx : a.eval x = u) (hr : Rd w G size u m news) (h1 : ∀ x ∈ news, x.oneCell' = true)
    (h63 : n + m ≤ maxLen) (hbytes : (n + m) * bytes ≤ 140737488355328)
    (h : ∀ v' w', Own w' (OrB F (NewB w w')) e size v' (n + m) (xs ++ news) → Frm F w w' → (v' = .slice none 0 0 ↔ v = .slice none 0 0 ∧ m = 0) → K (a.put o.dst v') w') : o.wp P a w K Q := by
  obtain ⟨v', w', hrun, h2, h3, h4⟩ := run_app (P := P) t o.type e i z size bytes ht hi hz hsize hby hzs hsz F v n xs hown G u m news hr h1 h63 hbytes
  unfold Oper.wp execOp
  simp only [ho, resolve, invoke, builtin, Sem.run_bind, Sem.run_pure, Result.andThen_ok, List.map_toArray, List.map_cons, List.map_nil, hs, hx, hrun]
  exact h v' w' h2 h3 h4

theorem wpList_app {ops : Array Oper} {rest : List Oper} {o : Oper} {a : Act} {Q : Exit → Act → World → Prop} (hgd : o.guard = none) (s x : Operand) (t : TypeId)
    (ho : o.op = .call { callee := .builtin .append, args := #[s, x], argTypes := #[t, t] })
    (e : TypeId) (i : TypeInfo) (z : Value) (size bytes : Nat) (ht : P.underlying t = some (.slice e)) (hi : P.info? e = some i) (hz : i.zero = some z)
    (hsize : i.size = size) (hby : i.bytes = bytes) (hzs : z.cells.size = size) (hsz : 0 < size)
    (F : Nat → Prop) (v : Value) (n : Nat) (xs : List Value) (hs : a.eval s = v) (hown : Own w F e size v n xs)
    (G : Nat → Prop) (u : Value) (m : Nat) (news : List Value) (hx : a.eval x = u) (hr : Rd w G size u m news) (h1 : ∀ x ∈ news, x.oneCell' = true)
    (h63 : n + m ≤ maxLen) (hbytes : (n + m) * bytes ≤ 140737488355328)
    (h : ∀ v' w', Own w' (OrB F (NewB w w')) e size v' (n + m) (xs ++ news) → Frm F w w' → (v' = .slice none 0 0 ↔ v = .slice none 0 0 ∧ m = 0) → wpList P ops Q rest (a.put o.dst v') w') : wpList P ops Q (o :: rest) a w :=
  wpList_plain hgd fun _ hK => wp_app s x t ho e i z size bytes ht hi hz hsize hby hzs hsz F v n xs hs hown G u m news hx hr h1 h63 hbytes fun v' w' h2 h3 h4 => hK _ _ (h v' w' h2 h3 h4)

theorem step_app {ops : Array Oper} {o : Oper} {a : Act} {K : Act → World → Prop} {Q : Exit → Act → World → Prop} {E : Prop} (hgd : o.guard = none) (s x : Operand) (t : TypeId)
    (ho : o.op = .call { callee := .builtin .append, args := #[s, x], argTypes := #[t, t] })
    (e : TypeId) (i : TypeInfo) (z : Value) (size bytes : Nat) (ht : P.underlying t = some (.slice e)) (hi : P.info? e = some i) (hz : i.zero = some z)
    (hsize : i.size = size) (hby : i.bytes = bytes) (hzs : z.cells.size = size) (hsz : 0 < size)
    (F : Nat → Prop) (v : Value) (n : Nat) (xs : List Value) (hs : a.eval s = v) (hown : Own w F e size v n xs)
    (G : Nat → Prop) (u : Value) (m : Nat) (news : List Value) (hx : a.eval x = u) (hr : Rd w G size u m news) (h1 : ∀ x ∈ news, x.oneCell' = true)
    (h63 : n + m ≤ maxLen) (hbytes : (n + m) * bytes ≤ 140737488355328)
    (h : ∀ v' w', Own w' (OrB F (NewB w w')) e size v' (n + m) (xs ++ news) → Frm F w w' → (v' = .slice none 0 0 ↔ v = .slice none 0 0 ∧ m = 0) → K (a.put o.dst v') w') :
    if Region.wanted o (yielded ops a.tmps) = true then Oper.wp P o a w K Q else E := by
  have hw : Region.wanted o (yielded ops a.tmps) = true := by simp [Region.wanted, hgd]
  rw [if_pos hw]
  exact wp_app s x t ho e i z size bytes ht hi hz hsize hby hzs hsz F v n xs hs hown G u m news hx hr h1 h63 hbytes h
end

/-- What a copy of a slice is: nil of nil; else a row of its own. -/
def Cloned (e sz : Nat) (v : Value) (n : Nat) (xs : List Value) (w : World) (en : Ending) (w' : World) : Prop :=
  ∃ v', en = .returned v' ∧ (v = .slice none 0 0 ↔ v' = .slice none 0 0) ∧ Own w' (NewB w w') e sz v' n xs ∧ Frm NoB w w'

/-- A literal of no elements: a row of its own. -/
theorem own_lit0 (w : World) (e sz : Nat) : Own (w.alloc (.cells #[] e)) (NewB w (w.alloc (.cells #[] e))) e sz (.slice (some ⟨w.heap.size, 0, none⟩) 0 0) 0 [] :=
  ⟨⟨by simp, .inr ⟨w.heap.size, 0, #[], rfl, Nat.zero_le _, heap_alloc_new w _, Nat.le_refl _, by simp [maxLen], by simp, by simp⟩⟩, fun g hg => by
    simp [Value.ownBlock] at hg; subst hg; exact ⟨Nat.le_refl _, by simp⟩⟩
/-- A literal of one element of so many cells: it reads. -/
theorem rd_lit (w : World) (e sz n : Nat) (cs : Array Value) (h : cs.size = n * sz) : Rd (w.alloc (.cells cs e)) (NewB w (w.alloc (.cells cs e))) sz (.slice (some ⟨w.heap.size, 0, none⟩) n n) n cs.toList :=
  ⟨by simpa using h, _, _, rfl, Nat.le_refl _, fun _ => ⟨w.heap.size, 0, rfl, ⟨Nat.le_refl _, by simp⟩, by simp, fun j u hu => by simpa using hu⟩⟩

/-- What was made since w0. -/
def GeB (w0 : World) : Nat → Prop := fun b => w0.heap.size ≤ b
theorem own_lit0G {w0 w : World} (h : w0.heap.size ≤ w.heap.size) (e sz : Nat) : Own (w.alloc (.cells #[] e)) (GeB w0) e sz (.slice (some ⟨w.heap.size, 0, none⟩) 0 0) 0 [] :=
  (own_lit0 w e sz).mono fun _ _ hb => Nat.le_trans h hb.1
section
variable {P : Program} {w : World}
theorem run_new (w0 : World) (hb : Frm NoB w0 w) (t ty e : TypeId) (i : TypeInfo) (z : Value) (size bytes : Nat) (ht : P.underlying t = some (.slice e)) (hi : P.info? e = some i) (hz : i.zero = some z)
    (hsize : i.size = size) (hby : i.bytes = bytes) (hzs : z.cells.size = size) (hsz : 0 < size)
    (v : Value) (n : Nat) (xs : List Value) (hown : Own w (GeB w0) e size v n xs)
    (G : Nat → Prop) (u : Value) (m : Nat) (news : List Value) (hr : Rd w G size u m news) (h1 : ∀ x ∈ news, x.oneCell' = true)
    (h63 : n + m ≤ maxLen) (hbytes : (n + m) * bytes ≤ 140737488355328) :
    ∃ v' w', (Builtin.append_ #[t, t] ty #[v, u]).run P w = .ok v' w' ∧ Own w' (GeB w0) e size v' (n + m) (xs ++ news) ∧ Frm NoB w0 w' ∧ (v' = .slice none 0 0 ↔ v = .slice none 0 0 ∧ m = 0) := by
  obtain ⟨v', w', hrun, h2, h3, h4⟩ := run_app (P := P) t ty e i z size bytes ht hi hz hsize hby hzs hsz (GeB w0) v n xs hown G u m news hr h1 h63 hbytes
  refine ⟨v', w', hrun, h2.mono fun b _ hx => ?_, hb.trans h3 (fun k hk hx => absurd hx (Nat.not_le_of_lt hk)), h4⟩
  rcases hx with hx | hx
  · exact hx
  · exact Nat.le_trans hb.size hx.1
theorem wpList_new {ops : Array Oper} {rest : List Oper} {o : Oper} {a : Act} {Q : Exit → Act → World → Prop} (hgd : o.guard = none) (s x : Operand) (t : TypeId)
    (ho : o.op = .call { callee := .builtin .append, args := #[s, x], argTypes := #[t, t] }) (w0 : World) (hb : Frm NoB w0 w)
    (e : TypeId) (i : TypeInfo) (z : Value) (size bytes : Nat) (ht : P.underlying t = some (.slice e)) (hi : P.info? e = some i) (hz : i.zero = some z)
    (hsize : i.size = size) (hby : i.bytes = bytes) (hzs : z.cells.size = size) (hsz : 0 < size)
    (v : Value) (n : Nat) (xs : List Value) (hs : a.eval s = v) (hown : Own w (GeB w0) e size v n xs)
    (G : Nat → Prop) (u : Value) (m : Nat) (news : List Value) (hx : a.eval x = u) (hr : Rd w G size u m news) (h1 : ∀ x ∈ news, x.oneCell' = true)
    (h63 : n + m ≤ maxLen) (hbytes : (n + m) * bytes ≤ 140737488355328)
    (h : ∀ v' w', Own w' (GeB w0) e size v' (n + m) (xs ++ news) → Frm NoB w0 w' → (v' = .slice none 0 0 ↔ v = .slice none 0 0 ∧ m = 0) → wpList P ops Q rest (a.put o.dst v') w') : wpList P ops Q (o :: rest) a w :=
  wpList_plain hgd fun _ hK => by
    obtain ⟨v', w', hrun, h2, h3, h4⟩ := run_new (P := P) w0 hb t o.type e i z size bytes ht hi hz hsize hby hzs hsz v n xs hown G u m news hr h1 h63 hbytes
    unfold Oper.wp execOp
    simp only [ho, resolve, invoke, builtin, Sem.run_bind, Sem.run_pure, Result.andThen_ok, List.map_toArray, List.map_cons, List.map_nil, hs, hx, hrun]
    exact hK _ _ (h v' w' h2 h3 h4)
theorem step_new {ops : Array Oper} {o : Oper} {a : Act} {K : Act → World → Prop} {Q : Exit → Act → World → Prop} {E : Prop} (hgd : o.guard = none) (s x : Operand) (t : TypeId)
    (ho : o.op = .call { callee := .builtin .append, args := #[s, x], argTypes := #[t, t] }) (w0 : World) (hb : Frm NoB w0 w)
    (e : TypeId) (i : TypeInfo) (z : Value) (size bytes : Nat) (ht : P.underlying t = some (.slice e)) (hi : P.info? e = some i) (hz : i.zero = some z)
    (hsize : i.size = size) (hby : i.bytes = bytes) (hzs : z.cells.size = size) (hsz : 0 < size)
    (v : Value) (n : Nat) (xs : List Value) (hs : a.eval s = v) (hown : Own w (GeB w0) e size v n xs)
    (G : Nat → Prop) (u : Value) (m : Nat) (news : List Value) (hx : a.eval x = u) (hr : Rd w G size u m news) (h1 : ∀ x ∈ news, x.oneCell' = true)
    (h63 : n + m ≤ maxLen) (hbytes : (n + m) * bytes ≤ 140737488355328)
    (h : ∀ v' w', Own w' (GeB w0) e size v' (n + m) (xs ++ news) → Frm NoB w0 w' → (v' = .slice none 0 0 ↔ v = .slice none 0 0 ∧ m = 0) → K (a.put o.dst v') w') :
    if Region.wanted o (yielded ops a.tmps) = true then Oper.wp P o a w K Q else E := by
  have hw : Region.wanted o (yielded ops a.tmps) = true := by simp [Region.wanted, hgd]
  rw [if_pos hw]
  obtain ⟨v', w', hrun, h2, h3, h4⟩ := run_new (P := P) w0 hb t o.type e i z size bytes ht hi hz hsize hby hzs hsz v n xs hown G u m news hr h1 h63 hbytes
  unfold Oper.wp execOp
  simp only [ho, resolve, invoke, builtin, Sem.run_bind, Sem.run_pure, Result.andThen_ok, List.map_toArray, List.map_cons, List.map_nil, hs, hx, hrun]
  exact h v' w' h2 h3 h4
end

end Go.Proofs.YtablmgnhpciljaaDoor
