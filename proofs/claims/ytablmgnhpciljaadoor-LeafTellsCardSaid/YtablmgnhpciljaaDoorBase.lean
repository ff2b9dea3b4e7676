/- Words for memory, without any program: which blocks a piece of a run may turn ('Frm'), slices that read as lists ('Rd'), rows that an object owns ('Own'). -/
import Derived.WalkKit
import Derived.Maps.AppendAt
import Derived.Deep.Draws
namespace Go.Proofs.YtablmgnhpciljaaDoor
open Go.RowKit

theorem hide {p : Prop} (h : p) : Hid p := h

/-- From a to b nothing that was there has turned but blocks in S. -/
structure Frm (S : Nat → Prop) (a b : World) : Prop where
  os : b.os = a.os
  tape : b.tape = a.tape
  output : b.output = a.output
  size : a.heap.size ≤ b.heap.size
  block : ∀ k, k < a.heap.size → ¬ S k → b.heap[k]? = a.heap[k]?

def NoB : Nat → Prop := fun _ => False
def NewB (a b : World) : Nat → Prop := fun k => a.heap.size ≤ k ∧ k < b.heap.size
def OrB (S T : Nat → Prop) : Nat → Prop := fun k => S k ∨ T k

section
variable {S T : Nat → Prop} {a b c w w' : World}

theorem Frm.refl (S : Nat → Prop) (a : World) : Frm S a a := ⟨rfl, rfl, rfl, Nat.le_refl _, fun _ _ _ => rfl⟩

theorem Frm.trans (h : Frm S a b) (k : Frm T b c) (hs : ∀ i, i < a.heap.size → T i → S i) : Frm S a c :=
  ⟨k.os.trans h.os, k.tape.trans h.tape, k.output.trans h.output, Nat.le_trans h.size k.size,
    fun i hi hn => (k.block i (Nat.lt_of_lt_of_le hi h.size) (fun ht => hn (hs i hi ht))).trans (h.block i hi hn)⟩

theorem Frm.mono (h : Frm S a b) (hs : ∀ i, i < a.heap.size → S i → T i) : Frm T a b :=
  ⟨h.os, h.tape, h.output, h.size, fun i hi hn => h.block i hi (fun hsi => hn (hs i hi hsi))⟩

theorem Frm.alloc (h : Frm S a w) (o : Obj) : Frm S a (w.alloc o) :=
  ⟨h.os, h.tape, h.output, Nat.le_trans h.size (by simp), fun i hi hn => (Below.heap_alloc w o i (Nat.lt_of_lt_of_le hi h.size)).trans (h.block i hi hn)⟩

theorem Frm.setCell (h : Frm S a w) {p : Addr} (hp : p.block < a.heap.size → S p.block) (u : Value) : Frm S a (w.setCell p u) :=
  ⟨h.os, h.tape, h.output, by simpa using h.size, fun i hi hn => (Below.heap_setCell w p u i (by rintro rfl; exact hn (hp hi))).trans (h.block i hi hn)⟩

theorem Frm.drew (h : Frm S a w) : Frm S a w.drew := ⟨h.os, h.tape, h.output, h.size, h.block⟩
theorem Frm.drewN (h : Frm S a w) (n : Nat) : Frm S a (w.drewN n) := ⟨h.os, h.tape, h.output, h.size, h.block⟩

theorem Frm.grown (h : Frm S a w) {row : Option Nat} (hg : w.grownBy w' row) (hr : ∀ k, row = some k → k < a.heap.size → S k) : Frm S a w' :=
  ⟨hg.os.trans h.os, hg.tape.trans h.tape, hg.output.trans h.output, Nat.le_trans h.size hg.size,
    fun i hi hn => (hg.block i (Nat.lt_of_lt_of_le hi h.size) (fun e => hn (hr i e.symm hi))).trans (h.block i hi hn)⟩

theorem Frm.below (h : Frm S a b) {B : Nat} (hB : B ≤ a.heap.size) (hs : ∀ k, k < B → ¬ S k) : Below B a b :=
  ⟨h.os, h.tape, h.output, h.size, fun k hk => h.block k (Nat.lt_of_lt_of_le hk hB) (hs k hk)⟩

theorem Frm.of_below (h : Below a.heap.size a b) : Frm S a b := ⟨h.os, h.tape, h.output, h.size, fun k hk _ => h.block k hk⟩

theorem lt_of_heap {g : Nat} {o : Obj} (h : w.heap[g]? = some o) : g < w.heap.size := by
  rcases Nat.lt_or_ge g w.heap.size with h1 | h1
  · exact h1
  · rw [Array.getElem?_eq_none h1] at h; cases h

theorem Frm.heap (h : Frm S a b) {g : Nat} {o : Obj} (hg : a.heap[g]? = some o) (hn : ¬ S g) : b.heap[g]? = some o :=
  (h.block g (lt_of_heap hg) hn).trans hg

theorem Frm.cell (h : Frm S a b) {p : Addr} (hp : p.block < a.heap.size) (hn : ¬ S p.block) : b.cell? p = a.cell? p := World.cell?_of_block (h.block _ hp hn)
theorem Frm.frozen (h : Frm S a b) {p : Addr} (hp : p.block < a.heap.size) (hn : ¬ S p.block) : b.frozen? p = a.frozen? p := World.frozen?_of_block (h.block _ hp hn)

/- a block that is known whole -/
def Blk (w : World) (g : Nat) (t : TypeId) (cs : Array Value) : Prop := w.heap[g]? = some (.cells cs t (0, 0))

variable {g : Nat} {t : TypeId} {cs : Array Value}
theorem Blk.lt (h : Blk w g t cs) : g < w.heap.size := lt_of_heap h
theorem Blk.cell (h : Blk w g t cs) (i : Nat) : w.cell? ⟨g, i, none⟩ = cs[i]? := by unfold Blk at h; simp [World.cell?, h]
theorem Blk.frozen (h : Blk w g t cs) (i : Nat) : w.frozen? ⟨g, i, none⟩ = false := by unfold Blk at h; simp [World.frozen?, h]
theorem Blk.new (w : World) (t : TypeId) (cs : Array Value) : Blk (w.alloc (.cells cs t)) w.heap.size t cs := heap_alloc_new w _
theorem Blk.drew (h : Blk w g t cs) : Blk w.drew g t cs := h
theorem Blk.drewN (h : Blk w g t cs) (n : Nat) : Blk (w.drewN n) g t cs := h
theorem Blk.alloc (h : Blk w g t cs) (o : Obj) : Blk (w.alloc o) g t cs := (Below.heap_alloc w o g h.lt).trans h
theorem Blk.put (h : Blk w g t cs) (i : Nat) (u : Value) : Blk (w.setCell ⟨g, i, none⟩ u) g t (cs.setIfInBounds i u) := by
  unfold Blk at h ⊢
  simp [World.setCell, Array.getElem?_modify, h]
theorem Blk.far (h : Blk w g t cs) {p : Addr} (hp : g ≠ p.block) (u : Value) : Blk (w.setCell p u) g t cs := (Below.heap_setCell w p u g hp).trans h
theorem Blk.frm (h : Blk w g t cs) (hf : Frm S w w') (hn : ¬ S g) : Blk w' g t cs := hf.heap h hn
theorem Blk.grown {row : Option Nat} (h : Blk w g t cs) (hb : w.grownBy w' row) (hg : some g ≠ row) : Blk w' g t cs := (hb.block g h.lt hg).trans h

/-- A slice value that reads as the cells xs (n elements of sz cells), lying in F. -/
def Rd (w : World) (F : Nat → Prop) (sz : Nat) (v : Value) (n : Nat) (xs : List Value) : Prop :=
  xs.length = n * sz ∧ ∃ (A : Option Addr) (c : Nat), v = .slice A n c ∧ n ≤ c ∧ (0 < n → ∃ b off, A = some ⟨b, off, none⟩ ∧ F b ∧ b < w.heap.size ∧ ∀ j u, xs[j]? = some u → w.cell? ⟨b, off + j, none⟩ = some u)

variable {F G : Nat → Prop} {sz n : Nat} {v : Value} {xs : List Value}
theorem Rd.keep (h : Rd w F sz v n xs) (hs : w.heap.size ≤ w'.heap.size) (hk : ∀ b, F b → b < w.heap.size → w'.heap[b]? = w.heap[b]?) : Rd w' F sz v n xs := by
  obtain ⟨h1, A, c, hv, hc, h2⟩ := h
  refine ⟨h1, A, c, hv, hc, fun hn => ?_⟩
  obtain ⟨b, off, hA, hF, hb, hx⟩ := h2 hn
  exact ⟨b, off, hA, hF, Nat.lt_of_lt_of_le hb hs, fun j u hu => (World.cell?_of_block (a := ⟨b, off + j, none⟩) (hk b hF hb)).trans (hx j u hu)⟩
theorem Rd.frm (h : Rd w F sz v n xs) (hf : Frm S w w') (hd : ∀ b, F b → b < w.heap.size → ¬ S b) : Rd w' F sz v n xs :=
  h.keep hf.size fun b hb hl => hf.block b hl (hd b hb hl)
theorem Rd.mono (h : Rd w F sz v n xs) (hs : ∀ b, b < w.heap.size → F b → G b) : Rd w G sz v n xs := by
  obtain ⟨h1, A, c, hv, hc, h2⟩ := h
  refine ⟨h1, A, c, hv, hc, fun hn => ?_⟩
  obtain ⟨b, off, hA, hF, hb, hx⟩ := h2 hn
  exact ⟨b, off, hA, hs b hb hF, hb, hx⟩

/-- A row that an object owns: its array's block lies in F. -/
def Own (w : World) (F : Nat → Prop) (e sz : Nat) (v : Value) (n : Nat) (xs : List Value) : Prop :=
  w.ownsRow 0 e sz v n xs ∧ ∀ g, v.ownBlock = some g → F g
theorem Own.keep {e : Nat} (h : Own w F e sz v n xs) (hk : ∀ b, F b → b < w.heap.size → w'.heap[b]? = w.heap[b]?) : Own w' F e sz v n xs := by
  obtain ⟨⟨h1, h2⟩, h3⟩ := h
  refine ⟨⟨h1, ?_⟩, h3⟩
  rcases h2 with h2 | ⟨g, cap, cur, rfl, hb, hg, hr⟩
  · exact .inl h2
  · exact .inr ⟨g, cap, cur, rfl, hb, (hk g (h3 g rfl) (lt_of_heap hg)).trans hg, hr⟩
theorem Own.frm {e : Nat} (h : Own w F e sz v n xs) (hf : Frm S w w') (hd : ∀ b, F b → b < w.heap.size → ¬ S b) : Own w' F e sz v n xs :=
  h.keep fun b hb hl => hf.block b hl (hd b hb hl)
theorem Own.mono {e : Nat} (h : Own w F e sz v n xs) (hs : ∀ b, b < w.heap.size → F b → G b) : Own w G e sz v n xs :=
  ⟨h.1, fun g hg => hs g (h.1.lt g hg).2 (h.2 g hg)⟩
theorem Own.keepAt {e : Nat} (h : Own w F e sz v n xs) (hk : ∀ g, v.ownBlock = some g → w'.heap[g]? = w.heap[g]?) : Own w' F e sz v n xs := by
  obtain ⟨⟨h1, h2⟩, h3⟩ := h
  refine ⟨⟨h1, ?_⟩, h3⟩
  rcases h2 with h2 | ⟨g, cap, cur, rfl, hb, hg, hr⟩
  · exact .inl h2
  · exact .inr ⟨g, cap, cur, rfl, hb, (hk g rfl).trans hg, hr⟩
theorem Own.lt {e : Nat} (h : Own w F e sz v n xs) {g : Nat} (hg : v.ownBlock = some g) : g < w.heap.size := (h.1.lt g hg).2
theorem Own.type {e : Nat} (h : Own w F e sz v n xs) {g : Nat} (hg : v.ownBlock = some g) : ∃ cs, w.heap[g]? = some (.cells cs e (0, 0)) := by
  rcases h.1.2 with ⟨rfl, _⟩ | ⟨g', cap, cur, rfl, _, hh, _⟩
  · simp [Value.ownBlock] at hg
  · simp [Value.ownBlock] at hg
    subst hg
    exact ⟨_, hh⟩
theorem type_ne {g g' : Nat} {cs cs' : Array Value} {e e' : Nat} {fz fz' : Nat × Nat} (h : w.heap[g]? = some (.cells cs e fz)) (h' : w.heap[g']? = some (.cells cs' e' fz')) (hne : e ≠ e') : g ≠ g' := by
  rintro rfl
  rw [h] at h'
  injection h' with h'
  injection h' with _ h'
  exact hne h'
theorem Own.form {e : Nat} (h : Own w F e sz v n xs) : ∃ (A : Option Addr) (c : Nat), v = .slice A n c := by
  rcases h.1.2 with ⟨rfl, rfl⟩ | ⟨g', cap, cur, rfl, _⟩
  · exact ⟨_, _, rfl⟩
  · exact ⟨_, _, rfl⟩
/-- The very block of the row. -/
theorem Own.at_ {e : Nat} (h : Own w F e sz v n xs) : Own w (fun g => v.ownBlock = some g) e sz v n xs := ⟨h.1, fun _ hg => hg⟩
theorem Own.ne {e : Nat} (h : Own w F e sz v n xs) {g' : Nat} {cs' : Array Value} {e' : Nat} {fz' : Nat × Nat} (h' : w.heap[g']? = some (.cells cs' e' fz')) (hne : e ≠ e') {g : Nat} (hg : v.ownBlock = some g) : g ≠ g' := by
  obtain ⟨cs, hc⟩ := h.type hg
  exact type_ne hc h' hne
theorem Own.neOwn {e e' sz' n' : Nat} {v' : Value} {xs' : List Value} (h : Own w F e sz v n xs) (h' : Own w G e' sz' v' n' xs') (hne : e ≠ e') {g : Nat} (hg : v.ownBlock = some g) : ¬ v'.ownBlock = some g := by
  intro hg'
  obtain ⟨cs, hc⟩ := h'.type hg'
  exact h.ne hc hne hg rfl
theorem Own.set_ {e : Nat} (h : Own w F e 1 v n xs) {g i : Nat} (hg : v.ownBlock = some g) (hi : i < n) (u : Value) : Own (w.setCell ⟨g, i, none⟩ u) F e 1 v n (xs.set i u) := by
  rcases h.1.2 with ⟨rfl, rfl⟩ | ⟨g', cap, cur, rfl, hb, hh, hnc, hcm, hcs, ht⟩
  · omega
  · simp [Value.ownBlock] at hg
    subst hg
    refine ⟨⟨by simpa using h.1.1, .inr ⟨_, cap, cur.setIfInBounds i u, rfl, Nat.zero_le _, Blk.put (t := e) (cs := cur) hh i u, hnc, hcm, by simpa using hcs, ?_⟩⟩, h.2⟩
    rw [Array.toList_setIfInBounds, List.take_set, ht]
theorem Own.rd {e : Nat} (h : Own w F e sz v n xs) : Rd w F sz v n xs := by
  obtain ⟨⟨h1, h2⟩, h3⟩ := h
  rcases h2 with ⟨rfl, rfl⟩ | ⟨g, cap, cur, rfl, hb, hg, hnc, hcm, hcs, ht⟩
  · exact ⟨h1, none, 0, rfl, Nat.le_refl _, fun h => absurd h (by omega)⟩
  · refine ⟨h1, _, cap, rfl, hnc, fun _ => ⟨g, 0, rfl, h3 g rfl, lt_of_heap hg, fun j u hu => ?_⟩⟩
    have := World.ownsRow.cells (w := w) (base := 0) (e := e) (size := sz) (n := n) (xs := xs) (v := .slice (some ⟨g, 0, none⟩) n cap) ⟨h1, .inr ⟨g, cap, cur, rfl, hb, hg, hnc, hcm, hcs, ht⟩⟩ (g := g) rfl j u hu
    rw [← this]
    unfold Addr.add
    split
    · subst_vars; rfl
    · rfl
end
end Go.Proofs.YtablmgnhpciljaaDoor
