/- Disk: Read. -/
import Derived.Test.YtablmgnhpciljaaDki
namespace Go.Proofs.Ytablmgnhpciljaa
open Go.RowKit Go.Shelf
attribute [local go_sem] Oper.semAt_some

/-- What is read of a block: what waits for it last, else what is in it. -/
def ADisk.read (D : ADisk) (i : Int) : Option (List Value) :=
  if 0 ≤ i ∧ i < D.blocks.length ∧ D.off = false then
    match D.waits.reverse.find? (fun x => decide (x.1 = i.toNat)) with
    | some x => some x.2
    | none => D.blocks[i.toNat]?.getD none
  else none
def ReadPost (w : World) (r : Option (List Value)) (e : Ending) (w' : World) : Prop := ∃ v, e = .returned (.tuple #[v, .bool r.isSome]) ∧ BlockIs w' (NewB w w') v r ∧ Frm NoB w w'

/-- A region's post that lets nothing out but its end. -/
def OnlyN (K : Act → World → Prop) : Exit → Act → World → Prop
  | .normal, a, w => K a w
  | _, _, _ => False
theorem wp_onlyN {P : Program} {c : Code} {K : Act → World → Prop} {Q : Exit → Act → World → Prop} {a : Act} {w : World} (h : c.wp P (OnlyN K) a w) : c.wp P (Exit.then K Q) a w :=
  wp_mono h fun e a w hq => by cases e <;> first | exact hq | exact hq.elim
theorem onlyN_mk {K : Act → World → Prop} {a : Act} {w : World} (h : K a w) : OnlyN K .normal a w := h

theorem heap_kept {A B : World} {row : Option Nat} (hg : A.grownBy B row) (hr : ∀ r, row = some r → ∃ o : Obj, A.heap[r]? = some o ∧ o.isCells = false) {g : Nat} {cs : Array Value} {t : Nat} {fz : Nat × Nat} (h : A.heap[g]? = some (.cells cs t fz)) : B.heap[g]? = A.heap[g]? :=
  hg.block g (lt_of_heap h) fun e => by
    obtain ⟨o, ho, hc⟩ := hr g e.symm
    rw [h] at ho
    injection ho with ho
    rw [← ho] at hc
    cases hc
theorem Blk.kept {A B : World} {row : Option Nat} {g t : Nat} {cs : Array Value} (h : Blk A g t cs) (hg : A.grownBy B row) (hr : ∀ r, row = some r → ∃ o : Obj, A.heap[r]? = some o ∧ o.isCells = false) : Blk B g t cs := (heap_kept hg hr h).trans h
theorem Own.kept {A B : World} {row : Option Nat} {F : Nat → Prop} {e sz n : Nat} {v : Value} {xs : List Value} (h : Own A F e sz v n xs) (hg : A.grownBy B row) (hr : ∀ r, row = some r → ∃ o : Obj, A.heap[r]? = some o ∧ o.isCells = false) : Own B F e sz v n xs :=
  h.keepAt fun g hgb => by obtain ⟨cs, hc⟩ := h.type hgb; exact heap_kept hg hr hc
theorem BlockIs.kept {A B : World} {row : Option Nat} {F : Nat → Prop} {v : Value} {o : Option (List Value)} (h : BlockIs A F v o) (hg : A.grownBy B row) (hr : ∀ r, row = some r → ∃ o : Obj, A.heap[r]? = some o ∧ o.isCells = false) : BlockIs B F v o := by
  cases o with
  | none => exact h
  | some l => exact ⟨h.1.kept hg hr, h.2⟩
theorem Frm.kept {A B w : World} {row : Option Nat} {S : Nat → Prop} (h : Frm S w A) (hg : A.grownBy B row) (hr : ∀ r, row = some r → w.heap.size ≤ r) : Frm S w B :=
  h.grown hg fun k hk hl => by have := hr k hk; omega

theorem Frm.keepsFrom {A B : World} (h : Frm NoB A B) (n : Nat) : KeepsFrom n A B := ⟨h.size, fun k _ _ hk _ => (h.block k (lt_of_heap hk) (fun h => h)).trans hk⟩

/-- Behind a range over a function: the block for deferred calls is shut. -/
theorem ReadEnd {w W5 : World} {D0 b1 b2 : Nat} {v : Value} {b : Bool} {r : Option (List Value)} (h1 : Blk W5 b1 28 #[v]) (h2 : Blk W5 b2 4 #[.bool b]) (hb : b = r.isSome) (hf : Frm NoB w W5) (hv : BlockIs W5 (NewB w W5) v r) (hD : w.heap.size ≤ D0) (hK : W5.heap[D0]? = some (.deferred (some []))) :
    Blk (W5.putObj D0 (.deferred none)) b1 28 #[v] ∧ Blk (W5.putObj D0 (.deferred none)) b2 4 #[.bool b] ∧ ReadPost w r (.returned (.tuple #[v, .bool b])) (W5.putObj D0 (.deferred none)) := by
  have hg := grownBy_putObj' W5 D0 (.deferred none)
  have hr : ∀ r, some D0 = some r → ∃ o : Obj, W5.heap[r]? = some o ∧ o.isCells = false := fun r e => by cases e; exact ⟨_, hK, rfl⟩
  subst hb
  exact ⟨h1.kept hg hr, h2.kept hg hr, v, rfl, (hv.kept hg hr).mono (fun b hl hb => ⟨hb.1, hl⟩), hf.kept hg (fun r e => by cases e; exact hD)⟩

/-- The last of the places at which a test holds is met first from behind. -/
theorem find_back {α : Type} (l : List α) (f : α → Bool) (k : Nat) (hk : k ≤ l.length) (hno : ∀ j, l.length - k ≤ j → (h : j < l.length) → f l[j] = false) : l.reverse.find? f = (l.take (l.length - k)).reverse.find? f := by
  induction k with
  | zero => simp
  | succ k ih =>
    rw [ih (by omega) (fun j h1 h2 => hno j (by omega) h2)]
    have hlt : l.length - (k + 1) < l.length := by omega
    have e : l.length - k = l.length - (k + 1) + 1 := by omega
    rw [e, List.take_succ_eq_append_getElem hlt, List.reverse_append, List.reverse_singleton, List.singleton_append, List.find?_cons, hno _ (Nat.le_refl _) hlt]

theorem mem_backs {n k j : Nat} (hk : k ≤ n) : j ∈ backs n k ↔ n - k ≤ j ∧ j < n := by
  simp only [backs, List.mem_map, List.mem_range]
  constructor
  · rintro ⟨x, h1, h2⟩; omega
  · rintro ⟨h1, h2⟩; exact ⟨n - 1 - j, by omega, by omega⟩
theorem ADisk.read_found (D : ADisk) (i k : Nat) (hi : i < D.blocks.length) (ho : D.off = false) (hk : k < D.waits.length) (h1 : (D.waits[D.waits.length - 1 - k]'(by omega)).1 = i) (h2 : ∀ j, D.waits.length - k ≤ j → (h : j < D.waits.length) → D.waits[j].1 ≠ i) :
    D.read i = some (D.waits[D.waits.length - 1 - k]'(by omega)).2 := by
  unfold ADisk.read
  rw [if_pos ⟨Int.natCast_nonneg _, by omega, ho⟩, find_back _ _ k (by omega) (fun j a b => by simpa using h2 j a b)]
  have hlt : D.waits.length - 1 - k < D.waits.length := by omega
  have e : D.waits.length - k = D.waits.length - 1 - k + 1 := by omega
  rw [e, List.take_succ_eq_append_getElem hlt, List.reverse_append, List.reverse_singleton, List.singleton_append, List.find?_cons]
  simp [h1]
theorem ADisk.read_none (D : ADisk) (i : Nat) (hi : i < D.blocks.length) (ho : D.off = false) (h2 : ∀ j, (h : j < D.waits.length) → D.waits[j].1 ≠ i) : D.read i = D.blocks[i] := by
  unfold ADisk.read
  rw [if_pos ⟨Int.natCast_nonneg _, by omega, ho⟩, find_back _ _ D.waits.length (Nat.le_refl _) (fun j _ b => by simpa using h2 j b)]
  simp [hi]

section
variable {w : World} {p : Nat} {S F G : Nat → Prop} {D : ADisk} {bv wv : Value} {bs ws : List Value}

/-- The world as Read begins: i's box, the two results' boxes. -/
structure ReadHead (w W : World) (i : Int) : Prop where
  frm : Frm NoB w W
  size : W.heap.size = w.heap.size + 1 + 1 + 1
  b0 : Blk W w.heap.size 3 #[.int .i64 i]
  b1 : Blk W (w.heap.size + 1) 28 #[.slice none 0 0]
  b2 : Blk W (w.heap.size + 1 + 1) 4 #[.bool false]
theorem readHead (w : World) (i : Int) : ReadHead w (((w.alloc (.cells #[.int .i64 i] 3)).alloc (.cells #[.slice none 0 0] 28)).alloc (.cells #[.bool false] 4)) i :=
  ⟨(((Frm.refl _ _).alloc _).alloc _).alloc _, by simp, ((Blk.new w _ _).alloc _).alloc _, by have := (Blk.new (w.alloc (.cells #[.int .i64 i] 3)) 28 #[.slice none 0 0]).alloc (.cells #[.bool false] 4); rwa [World.size_alloc] at this,
    by have := Blk.new ((w.alloc (.cells #[.int .i64 i] 3)).alloc (.cells #[.slice none 0 0] 28)) 4 #[.bool false]; rwa [World.size_alloc, World.size_alloc] at this⟩

theorem Disk_Read_no (h : DiskAt w p S F D) (i : Int) (hno : ¬ (0 ≤ i ∧ i < D.blocks.length ∧ D.off = false)) :
    Calls Try.prog 21 #[.pointer (some ⟨p, 0, none⟩), .int .i64 i] w (ReadPost w none) := by
  have hH := readHead w i
  go_enter Try.func21, Try.ntmps21
  go_wp2_with fail
  obtain ⟨W, hW⟩ : ∃ W, ((w.alloc (.cells #[.int .i64 i] 3)).alloc (.cells #[.slice none 0 0] 28)).alloc (.cells #[.bool false] 4) = W := ⟨_, rfl⟩
  rw [hW] at hH ⊢
  clear hW
  have hA := h.frm hH.frm (fun _ _ _ h => h)
  refine (Disk_has hA i).mono ?_
  rintro e w' ⟨rfl, rfl⟩
  have c1 := hH.b1.cell 0
  have c2 := hH.b2.cell 0
  have f1 := hH.b1.frozen 0
  have f2 := hH.b2.frozen 0
  have hF := (hH.frm.setCell (p := ⟨w.heap.size + 1, 0, none⟩) (fun h => absurd h (by show ¬ w.heap.size + 1 < w.heap.size; omega)) (.slice none 0 0)).setCell (p := ⟨w.heap.size + 1 + 1, 0, none⟩) (fun h => absurd h (by show ¬ w.heap.size + 1 + 1 < w.heap.size; omega)) (.bool false)
  by_cases hh : 0 ≤ i ∧ i < D.blocks.length
  · have hhas : decide (0 ≤ i ∧ i < D.blocks.length) = true := by simpa using hh
    have ho : D.off = true := by cases h : D.off; exact absurd ⟨hh.1, hh.2, h⟩ hno; rfl
    rw [hhas]
    clear hno hh hhas h
    obtain ⟨bv, wv, bs, ws, h⟩ := hA
    have c3 := h.blk.cell 3
    rw [ho] at c3
    clear ho h hH
    go_wp2
    exact bodyPost_ret (v := .tuple #[.slice none 0 0, .bool false]) (by simp [results, Try.results21, go_sem, c1, c2]) rfl ⟨_, rfl, rfl, hF⟩
  · have hhas : decide (0 ≤ i ∧ i < D.blocks.length) = false := by simpa using hh
    rw [hhas]
    clear hno hh hhas h hA hH
    go_wp2
    exact bodyPost_ret (v := .tuple #[.slice none 0 0, .bool false]) (by simp [results, Try.results21, go_sem, c1, c2]) rfl ⟨_, rfl, rfl, hF⟩

set_option maxRecDepth 100000 in
set_option maxHeartbeats 2000000 in
theorem Disk_Read_yes (h : DiskAt w p S F D) (i : Nat) (hi : i < D.blocks.length) (ho : D.off = false) (hlen : D.waits.length ≤ 1099511627776) :
    Calls Try.prog 21 #[.pointer (some ⟨p, 0, none⟩), .int .i64 (i : Nat)] w (ReadPost w (D.read i)) := by
  have hH := readHead w i
  refine (callsIn_wide (n := 3)).1 ?_
  refine callsIn_of_wp_marks Try.func21 rfl trivial ?_ rfl
  refine wpIn_wide.2 ?_
  simp only [Try.ntmps21, List.size_toArray, List.length_cons, List.length_nil, Nat.reduceAdd, Nat.reduceSub, Array.replicate_succ, Array.replicate_zero, List.push_toArray, List.append_toArray, List.nil_append, List.cons_append]
  go_wp2_with fail
  obtain ⟨W, hW⟩ : ∃ W, ((w.alloc (.cells #[.int .i64 (i : Nat)] 3)).alloc (.cells #[.slice none 0 0] 28)).alloc (.cells #[.bool false] 4) = W := ⟨_, rfl⟩
  rw [hW] at hH ⊢
  clear hW
  obtain ⟨bv, wv, bs, ws, hw0⟩ := h
  obtain ⟨gb, capb, rfl, hcapb⟩ := hw0.bl.some_ hw0.ok.2.2.2.1
  have hgb : gb < w.heap.size := hw0.bl.lt (g := gb) rfl
  have hpw : p < w.heap.size := hw0.blk.lt
  have h := hw0.keep (w' := W) (fun b _ hl => hH.frm.block b hl (fun h => h))
  have hA : DiskAt W p S F D := ⟨_, _, _, _, h⟩
  clear hw0
  have hhas : decide (0 ≤ (i : Int) ∧ (i : Int) < D.blocks.length) = true := by simp [hi]
  refine (Disk_has hA i).mono ?_
  rintro e w' ⟨rfl, rfl⟩
  rw [hhas]
  clear hhas hA
  obtain ⟨A, c, rfl⟩ := h.wt.form
  have c1 := h.blk.cell 1
  have c3 := h.blk.cell 3
  rw [ho] at c3
  have r0 := hH.b0.cell 0
  go_wp2_with fail
  refine (Backward_calls _ _ _ _).mono ?_
  rintro e w' ⟨rfl, rfl⟩
  have hbx := Blk.new W 51 #[.slice A D.waits.length c]
  have h0 := h.alloc (.cells #[.slice A D.waits.length c] 51)
  have b0 := hH.b0.alloc (.cells #[.slice A D.waits.length c] 51)
  have b1 := hH.b1.alloc (.cells #[.slice A D.waits.length c] 51)
  have b2 := hH.b2.alloc (.cells #[.slice A D.waits.length c] 51)
  have hF0 := hH.frm.alloc (.cells #[.slice A D.waits.length c] 51)
  have hs0 : (W.alloc (.cells #[.slice A D.waits.length c] 51)).heap.size = w.heap.size + 1 + 1 + 1 + 1 := by simp [hH.size]
  rw [hH.size] at hbx ⊢
  clear h c1 c3 r0 hH
  obtain ⟨W0, hW⟩ : ∃ W0, W.alloc (.cells #[.slice A D.waits.length c] 51) = W0 := ⟨_, rfl⟩
  rw [hW] at hbx h0 b0 b1 b2 hF0 hs0 ⊢
  clear hW
  have hwl := h0.wt.1.1
  have hbox := hbx.cell 0
  have hstop := Backward_stops W0 (w.heap.size + 1 + 1 + 1) W0.heap.size A c D.waits.length ws (by omega) (Nat.le_refl _) hbox (by omega) (by
      rcases h0.wt.1.2 with ⟨e, e2⟩ | ⟨g, cap, cur, e, _, _, h2, _⟩
      · rw [e2]; exact Nat.zero_le _
      · injection e with _ _ e3; rw [e3]; exact h2) hlen (fun hn => by
      obtain ⟨g, cap, e, hcap⟩ := h0.wt.some_ hn
      injection e with e1 _ e3
      subst e1
      refine ⟨g, rfl, h0.wt.lt (g := g) rfl, fun j hj => ?_⟩
      rw [h0.wt.cells hj, List.getElem?_eq_getElem (by omega)]
      exact congrArg some (wcell_of (List.getElem?_eq_getElem (by omega))).symm) (3 - 1) (by omega)
  have hwr : ∀ x : Wr D.waits.length, wcell ws (x.1 * 2) = .int .i64 ((D.waits[x.1]'x.2).1 : Nat) ∧ ∃ A2 c2, wcell ws (x.1 * 2 + 1) = .slice A2 128 c2 ∧ BlockIs W0 F (.slice A2 128 c2) (some (D.waits[x.1]'x.2).2) := by
    intro x
    obtain ⟨e0, v, e1, hv⟩ := h0.wts x.1 x.2
    obtain ⟨A2, c2, rfl⟩ := hv.1.form
    exact ⟨wcell_of (by rw [Nat.mul_comm]; exact e0), A2, c2, wcell_of (by rw [Nat.mul_comm]; exact e1), hv⟩
  have Hwl := hide hwl
  clear hwl hbox
  go_wp2_with fail
  refine (wpIn_wide (n := 3)).1 ?_
  refine wpIn_rangeFunc_ownH rfl (by omega) (gf := 35) (lb := #[.pointer (some ⟨w.heap.size + 1 + 1 + 1, 0, none⟩)]) rfl trivial (enters_of Try.func35 (by kernel_rfl) rfl)
    hstop belowK_t (belowK_b (Nat.le_refl _)) (Below.refl _ _) (fun _ => rfl)
    (fun pre W1 => (∀ x ∈ pre, (D.waits[x.1]'x.2).1 ≠ i) ∧ Frm NoB W0 W1)
    (fun c pre W1 => c = .ret ∧ ∃ ini last, pre = ini ++ [last] ∧ (∀ x ∈ ini, (D.waits[x.1]'x.2).1 ≠ i) ∧ (D.waits[last.1]'last.2).1 = i ∧ ∃ v, Blk W1 (w.heap.size + 1) 28 #[v] ∧ Blk W1 (w.heap.size + 1 + 1) 4 #[.bool true] ∧
      BlockIs W1 (NewB w W1) v (some (D.waits[last.1]'last.2).2) ∧ Frm NoB w W1)
    (fun s A' B' row hs hg hr => ⟨hs.1, hs.2.kept hg (fun r e => (hr r e).1)⟩)
    (fun c' s A' B' row hs hg hr => by
      obtain ⟨hc, ini, last, e1, e2, e3, v, k1, k2, k3, k4⟩ := hs
      have hr' : ∀ r, row = some r → ∃ o : Obj, A'.heap[r]? = some o ∧ o.isCells = false := fun r e => (hr r e).2
      exact ⟨hc, ini, last, e1, e2, e3, v, k1.kept hg hr', k2.kept hg hr', (k3.kept hg hr').mono (fun b hl hb => ⟨hb.1, hl⟩), k4.kept hg (fun r e => Nat.le_trans hF0.size (hr r e).1)⟩)
    ⟨by simp, Frm.refl _ _⟩
    (fun x a' W1 => ∃ Bx, W0.heap.size ≤ Bx ∧ Blk W1 Bx 57 #[wcell ws (x.1 * 2), wcell ws (x.1 * 2 + 1)] ∧ a' = { tmps := #[.pointer (some ⟨p, 0, none⟩), .int .i64 (i : Nat), undef, .pointer (some ⟨w.heap.size, 0, none⟩), .pointer (some ⟨w.heap.size + 1, 0, none⟩), .pointer (some ⟨w.heap.size + 1 + 1, 0, none⟩), undef, .pointer (some ⟨Bx, 0, none⟩), .pointer (some ⟨p, 0, none⟩), .int .i64 (i : Nat), .bool true, .bool false, .bool false, .pointer (some ⟨p, 0, none⟩), .pointer (some ⟨p, 0, none⟩), .pointer (some ⟨p, 3, none⟩), .bool false, .bool false, .pointer (some ⟨p, 0, none⟩), .pointer (some ⟨p, 0, none⟩), .pointer (some ⟨p, 1, none⟩), .slice A D.waits.length c, .func (.func 35) #[] #[.pointer (some ⟨w.heap.size + 1 + 1 + 1, 0, none⟩)], .int .i64 (x.1 : Nat), .agg #[wcell ws (x.1 * 2), wcell ws (x.1 * 2 + 1)], undef, undef, undef, undef, undef, undef, undef, undef, undef, undef, undef, undef, undef, undef, undef, undef, undef, undef, undef, undef, undef, undef, undef], defers := [] })
    (fun x a' s A' B' row hs hg hr => by
      obtain ⟨Bx, k1, k2, k3⟩ := hs
      exact ⟨Bx, k1, k2.kept hg (fun r e => (hr r e).2), k3⟩)
    ?assign ?body ?done ?stop
  case assign =>
    rintro l pre x W1 K ⟨hno, hf⟩ hK
    obtain ⟨e0, A2, c2, e1, hv⟩ := hwr x
    have hK2 := hK { tmps := #[.pointer (some ⟨p, 0, none⟩), .int .i64 (i : Nat), undef, .pointer (some ⟨w.heap.size, 0, none⟩), .pointer (some ⟨w.heap.size + 1, 0, none⟩), .pointer (some ⟨w.heap.size + 1 + 1, 0, none⟩), undef, .pointer (some ⟨W1.heap.size, 0, none⟩), .pointer (some ⟨p, 0, none⟩), .int .i64 (i : Nat), .bool true, .bool false, .bool false, .pointer (some ⟨p, 0, none⟩), .pointer (some ⟨p, 0, none⟩), .pointer (some ⟨p, 3, none⟩), .bool false, .bool false, .pointer (some ⟨p, 0, none⟩), .pointer (some ⟨p, 0, none⟩), .pointer (some ⟨p, 1, none⟩), .slice A D.waits.length c, .func (.func 35) #[] #[.pointer (some ⟨w.heap.size + 1 + 1 + 1, 0, none⟩)], .int .i64 (x.1 : Nat), .agg #[wcell ws (x.1 * 2), wcell ws (x.1 * 2 + 1)], undef, undef, undef, undef, undef, undef, undef, undef, undef, undef, undef, undef, undef, undef, undef, undef, undef, undef, undef, undef, undef, undef, undef], defers := [] }
      (W1.alloc (.cells #[wcell ws (x.1 * 2), wcell ws (x.1 * 2 + 1)] 57)) ((KeepsOthers.alloc _ _).from _) ((Below.refl _ W1).alloc hf.size _) ⟨hno, hf.alloc _⟩ ⟨W1.heap.size, hf.size, Blk.new _ _ _, rfl⟩
    clear hK
    dsimp only [wrEnc]
    rw [e0, e1] at hK2 ⊢
    clear e0 e1
    gi_wp2
    exact hK2
  case body =>
    rintro l pre x a' W1 hl ⟨r, hr⟩ ⟨hno, hf⟩ ⟨Bx, hBx, hb, rfl⟩ hlt
    obtain ⟨e0, A2, c2, e1, hv⟩ := hwr x
    rw [e0, e1] at hb ⊢
    have x0 := hb.cell 0
    have x1 := hb.cell 1
    have i0 := (b0.frm hf (fun h => h)).cell 0
    by_cases heq : (D.waits[x.1]'x.2).1 = i
    · have q : (((D.waits[x.1]'x.2).1 : Int) == (i : Int)) = true := by simp [heq]
      have hv1 := hv.keep (w' := W1) (fun b _ hl => hf.block b hl (fun h => h))
      have hrv := hv1.1.rd
      have hone : ∀ u ∈ (D.waits[x.1]'x.2).2, u.oneCell' = true := by
        intro u hu
        obtain ⟨y, rfl⟩ := hv1.2.2 u hu
        rfl
      have Heq := hide heq
      have Hno := hide hno
      clear heq hno hwr hstop
      gi_wp2_with (refine ⟨trivial, ?_⟩; gi_at_call 27; refine (CallsIn.inRound l (callsIn_wide.2 (clone_bytes W1 F _ 128 _ hrv hone (by omega) (nil_of_own hv1.1)))).mono ?_; rintro e w3 ⟨v', rfl, _, ho3, hf3⟩; obtain ⟨A3, c3, rfl⟩ := ho3.form; have k1 := (b1.frm hf (fun h => h)).frm hf3 (fun h => h); have k2 := (b2.frm hf (fun h => h)).frm hf3 (fun h => h); have c1 := k1.cell 0; have c2 := k2.cell 0; have f1 := k1.frozen 0; have f2 := k2.frozen 0)
      have hFw : Frm NoB w w3 := (hF0.trans hf (fun _ _ h => h)).trans hf3 (fun _ _ h => h)
      have hW1 : w.heap.size ≤ W1.heap.size := by have := hf.size; omega
      refine ⟨((hf3.keepsFrom _).trans ((KeepsOthers.setCell _ _ _).from _)).trans ((KeepsOthers.setCell _ _ _).from _), rfl, pre, x, rfl, Hno.out, Heq.out, _, (k1.put 0 _).far (p := ⟨w.heap.size + 1 + 1, 0, none⟩) (by simp) _, (k2.far (p := ⟨w.heap.size + 1, 0, none⟩) (by simp) _).put 0 _, ?_, ?_⟩
      · have hv3 : BlockIs w3 (NewB w w3) (.slice A3 128 c3) (some (D.waits[x.1]'x.2).2) := ⟨ho3.mono fun b hl hb => ⟨Nat.le_trans hW1 hb.1, hl⟩, hv1.2⟩
        refine ((hv3.put k1 (by decide) 0 _).put (k2.far (p := ⟨w.heap.size + 1, 0, none⟩) (by simp) _) (by decide) 0 _).mono fun b hl hb => ⟨hb.1, hl⟩
      · exact (hFw.setCell (p := ⟨w.heap.size + 1, 0, none⟩) (fun h => absurd h (by show ¬ w.heap.size + 1 < w.heap.size; omega)) _).setCell (p := ⟨w.heap.size + 1 + 1, 0, none⟩) (fun h => absurd h (by show ¬ w.heap.size + 1 + 1 < w.heap.size; omega)) _
    · have q : (((D.waits[x.1]'x.2).1 : Int) == (i : Int)) = false := by simp; omega
      have hno2 : ∀ y ∈ pre ++ [x], (D.waits[y.1]'y.2).1 ≠ i := by
        intro y hy
        rcases List.mem_append.1 hy with h | h
        · exact hno y h
        · simp at h; subst h; exact heq
      have Hno := hide hno2
      clear heq hno hno2 hwr hstop
      gi_wp2
      exact ⟨KeepsFrom.refl _ _, Below.refl _ _, Hno.out, hf⟩
  case done =>
    rintro D0 xs W1 hD hS ⟨hno, hf⟩ hK
    have hread : D.read i = D.blocks[i] := by
      refine D.read_none i hi ho fun j h => ?_
      have hm : j ∈ xs.map (·.1) := by rw [hS]; exact (mem_backs (Nat.le_refl _)).2 ⟨by omega, h⟩
      obtain ⟨y, hy, rfl⟩ := List.mem_map.1 hm
      exact hno y hy
    have Hread := hide hread
    clear hread hS hno hstop hwr
    have h1 := h0.keep (w' := W1) (fun b _ hl => hf.block b hl (fun h => h))
    obtain ⟨v, e1, hv⟩ := h1.bls i hi
    have hbn := h1.ok.2.2.1
    have b0' := (b0.frm hf (fun h => h)).drew
    have b1' := (b1.frm hf (fun h => h)).drew
    have b2' := (b2.frm hf (fun h => h)).drew
    have pb := h1.blk.drew
    have bl := h1.drew.bl
    have hfw : Frm NoB w W1.drew := (hF0.trans hf (fun _ _ h => h)).drew
    have hKd : W1.drew.heap[D0]? = some (.deferred (some [])) := hK
    have d0 := (bl.cell hi).trans e1
    have c0 := pb.cell 0
    have i0 := b0'.cell 0
    have hvd : BlockIs W1.drew F v D.blocks[i] := hv.drew
    obtain ⟨n, xs', A2, c2, rfl, hrd, hone, hn, hnn, hb⟩ : ∃ n xs' A2 c2, v = .slice A2 n c2 ∧ Rd W1.drew F 1 (.slice A2 n c2) n xs' ∧ (∀ u ∈ xs', u.oneCell' = true) ∧ n * 1 ≤ 140737488355328 ∧ (∀ c, Value.slice A2 n c2 = .slice none n c → Value.slice A2 n c2 = .slice none 0 0) ∧
        (∀ (w3 : World) (v' : Value), (Value.slice A2 n c2 = .slice none 0 0 ↔ v' = .slice none 0 0) → Own w3 (NewB W1.drew w3) 5 1 v' n xs' → BlockIs w3 (NewB W1.drew w3) v' D.blocks[i] ∧ A2.isSome = (D.blocks[i]).isSome) := by
      cases hb : D.blocks[i] with
      | none =>
        rw [hb] at hvd
        obtain rfl : v = .slice none 0 0 := hvd
        exact ⟨0, [], none, 0, rfl, ⟨rfl, none, 0, rfl, Nat.le_refl _, fun h => absurd h (by omega)⟩, by simp, by omega, fun _ h => rfl, fun w3 v' hiff _ => ⟨hiff.1 rfl, rfl⟩⟩
      | some l =>
        rw [hb] at hvd
        obtain ⟨g2, cap2, rfl, hcap2⟩ := hvd.1.some_ (by omega)
        exact ⟨128, l, some ⟨g2, 0, none⟩, cap2, rfl, hvd.1.rd, (by intro u hu; obtain ⟨y, rfl⟩ := hvd.2.2 u hu; rfl), by omega, fun _ h => (by cases h), fun w3 v' _ ho => ⟨⟨ho, hvd.2⟩, rfl⟩⟩
    have hneq : ∀ (A : Option Addr) (n c : Nat) (w : World), (binOp .neq 28 (.slice A n c) (.slice none 0 0)).run Try.prog w = .ok (.bool A.isSome) w := fun A n c w => by
      cases A <;> rfl
    clear hv hvd h1 hf e1 h0 hbx b0 b1 b2 ho
    have hgW : gb < W1.drew.heap.size := bl.lt (g := gb) rfl
    have hi' : (i : Int) < (D.blocks.length : Int) := by omega
    go_wp2_with fail
    refine wp_onlyN ?_
    go_region_held3 (fun w' => w'.cell? ⟨p, 0, none⟩ = some (.slice (some ⟨gb, 0, none⟩) D.blocks.length capb) ∧ w'.cell? ⟨w.heap.size, 0, none⟩ = some (.int .i64 (i : Nat)) ∧ w'.cell? ⟨gb, i, none⟩ = some (.slice A2 n c2)) (first | exact ⟨c0t, i0t, d0t⟩ | exact ⟨c0s, i0s, d0s⟩ | exact ⟨c0, i0, d0⟩) (first | (go_at_call 34; refine (bytes_clone W1.drew F _ n xs' hrd hone hn hnn).mono ?_; rintro e w3 ⟨v', rfl, hni, ho3, hf3⟩; have pb := pb.frm hf3 (fun h => h); have bl := bl.frm hf3 (fun _ _ _ h => h); have b0' := b0'.frm hf3 (fun h => h); have b1' := b1'.frm hf3 (fun h => h); have b2' := b2'.frm hf3 (fun h => h); have d0 := ((hf3.cell (p := ⟨gb, i, none⟩) hgW (fun h => h)).trans d0); have c0 := pb.cell 0; have i0 := b0'.cell 0; have q1 := b1'.cell 0; have q2 := b2'.cell 0; have q3 := b1'.frozen 0; have q4 := b2'.frozen 0; obtain ⟨A3, c3, rfl⟩ := ho3.form; have c0s := (pb.far (p := ⟨w.heap.size + 1, 0, none⟩) (by show p ≠ w.heap.size + 1; omega) (.slice A3 n c3)).cell 0; have i0s := (b0'.far (p := ⟨w.heap.size + 1, 0, none⟩) (by show w.heap.size ≠ w.heap.size + 1; omega) (.slice A3 n c3)).cell 0; have d0s := (World.cell?_setCell_other w3 ⟨w.heap.size + 1, 0, none⟩ ⟨gb, i, none⟩ (.slice A3 n c3) (by intro h; injection h with h; omega)).trans d0; have c0t := ((pb.far (p := ⟨w.heap.size + 1, 0, none⟩) (by show p ≠ w.heap.size + 1; omega) (.slice A3 n c3)).far (p := ⟨w.heap.size + 1 + 1, 0, none⟩) (by show p ≠ w.heap.size + 1 + 1; omega) (.bool A2.isSome)).cell 0; have i0t := ((b0'.far (p := ⟨w.heap.size + 1, 0, none⟩) (by show w.heap.size ≠ w.heap.size + 1; omega) (.slice A3 n c3)).far (p := ⟨w.heap.size + 1 + 1, 0, none⟩) (by show w.heap.size ≠ w.heap.size + 1 + 1; omega) (.bool A2.isSome)).cell 0; have d0t := (World.cell?_setCell_other (w3.setCell ⟨w.heap.size + 1, 0, none⟩ (.slice A3 n c3)) ⟨w.heap.size + 1 + 1, 0, none⟩ ⟨gb, i, none⟩ (.bool A2.isSome) (by intro h; injection h with h; omega)).trans d0s))
    refine onlyN_mk ?_
    obtain ⟨hv3, hs3⟩ := hb w3 (.slice A3 n c3) hni ho3
    have hW1 : w.heap.size ≤ W1.drew.heap.size := hfw.size
    have k1 := (b1'.put 0 (.slice A3 n c3)).far (p := ⟨w.heap.size + 1 + 1, 0, none⟩) (by simp) (.bool A2.isSome)
    have k2 := (b2'.far (p := ⟨w.heap.size + 1, 0, none⟩) (by simp) (.slice A3 n c3)).put 0 (.bool A2.isSome)
    have hf6 := ((hfw.trans hf3 (fun _ _ h => h)).setCell (p := ⟨w.heap.size + 1, 0, none⟩) (fun h => absurd h (by show ¬ w.heap.size + 1 < w.heap.size; omega)) (.slice A3 n c3)).setCell (p := ⟨w.heap.size + 1 + 1, 0, none⟩) (fun h => absurd h (by show ¬ w.heap.size + 1 + 1 < w.heap.size; omega)) (.bool A2.isSome)
    have hv6 : BlockIs ((w3.setCell ⟨w.heap.size + 1, 0, none⟩ (.slice A3 n c3)).setCell ⟨w.heap.size + 1 + 1, 0, none⟩ (.bool A2.isSome)) (NewB w ((w3.setCell ⟨w.heap.size + 1, 0, none⟩ (.slice A3 n c3)).setCell ⟨w.heap.size + 1 + 1, 0, none⟩ (.bool A2.isSome))) (.slice A3 n c3) D.blocks[i] :=
      ((hv3.put b1' (by decide) 0 _).put (b2'.far (p := ⟨w.heap.size + 1, 0, none⟩) (by simp) _) (by decide) 0 _).mono fun b hl hb => ⟨Nat.le_trans hW1 hb.1, hl⟩
    have hK6 : ((w3.setCell ⟨w.heap.size + 1, 0, none⟩ (.slice A3 n c3)).setCell ⟨w.heap.size + 1 + 1, 0, none⟩ (.bool A2.isSome)).heap[D0]? = some (.deferred (some [])) :=
      ((KeepsOthers.setCell _ _ _).same D0 _ ((KeepsOthers.setCell _ _ _).same D0 _ (hf3.heap hKd (fun h => h)) rfl) rfl)
    obtain ⟨g1, g2, g3⟩ := ReadEnd k1 k2 hs3 hf6 hv6 (Nat.le_trans hF0.size hD) hK6
    clear hb hv3 hni ho3 pb bl b0' b1' b2' hv6 k1 k2 hf6 c0 i0 c0s i0s d0s c0t i0t d0t
    go_wp2
    have q1 := g1.cell 0
    have q2 := g2.cell 0
    rw [Hread.out]
    exact ⟨by simp, .inl ⟨_, _, rfl, run_takeDeferred hK6, .tuple #[.slice A3 n c3, .bool A2.isSome], by simp [results, Try.f21, go_sem, q1, q2], g3⟩⟩
  case stop =>
    rintro D0 c' pre W1 hD ⟨k, hk, hS⟩ ⟨rfl, ini, last, e1, e2, e3, v, k1, k2, k3, k4⟩ hK
    have hread : D.read i = some (D.waits[last.1]'last.2).2 := by
      rw [e1, List.map_append] at hS
      obtain ⟨k', rfl⟩ : ∃ k', k = k' + 1 := by
        cases k with
        | zero => simp [backs] at hS
        | succ k' => exact ⟨k', rfl⟩
      rw [backs_succ] at hS
      obtain ⟨e4, e5⟩ := List.append_inj' hS rfl
      have e6 : last.1 = D.waits.length - 1 - k' := by simpa using e5
      have h3 : ∀ j, D.waits.length - k' ≤ j → (h : j < D.waits.length) → D.waits[j].1 ≠ i := by
        intro j a b
        have hm : j ∈ ini.map (·.1) := by rw [e4]; exact (mem_backs (by omega)).2 ⟨a, b⟩
        obtain ⟨y, hy, rfl⟩ := List.mem_map.1 hm
        exact e2 y hy
      obtain ⟨last, hl⟩ := last
      dsimp only at e6 e3 ⊢
      subst e6
      exact D.read_found i k' hi ho (by omega) e3 h3
    rw [hread]
    obtain ⟨g1, g2, g3⟩ := ReadEnd k1 k2 rfl k4 k3 (Nat.le_trans hF0.size hD) hK
    clear hstop hwr hS e1 e2 e3 k3 k4
    gi_wp2
    have q1 := g1.cell 0
    have q2 := g2.cell 0
    exact ⟨by simp, .inl ⟨_, _, rfl, run_takeDeferred hK, .tuple #[v, .bool true], by simp [results, Try.f21, go_sem, q1, q2], g3⟩⟩

theorem Disk_Read (h : DiskAt w p S F D) (i : Int) (hlen : D.waits.length ≤ 1099511627776) :
    Calls Try.prog 21 #[.pointer (some ⟨p, 0, none⟩), .int .i64 i] w (ReadPost w (D.read i)) := by
  by_cases hg : 0 ≤ i ∧ i < D.blocks.length ∧ D.off = false
  · obtain ⟨h0, h1, h2⟩ := hg
    obtain ⟨i, rfl⟩ := Int.eq_ofNat_of_zero_le h0
    exact Disk_Read_yes h i (by omega) h2 hlen
  · have e : D.read i = none := by unfold ADisk.read; rw [if_neg hg]
    rw [e]
    exact Disk_Read_no h i hg
end
end Go.Proofs.Ytablmgnhpciljaa
