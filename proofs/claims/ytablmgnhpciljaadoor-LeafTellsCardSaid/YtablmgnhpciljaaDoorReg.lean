/- A region that draws its order, by an invariant on what has been done: each operation is looked at once. -/
import Derived.Deep.RegionHeld3
import Derived.Test.YtablmgnhpciljaaDoorBase
namespace Go.Proofs.YtablmgnhpciljaaDoor
open Go.RowKit

/-- All edges that bind point back. -/
def backOk (md : Region.Mode) (ops : Array Oper) : Bool := (List.range ops.size).all fun i => ((ops[i]?).map (·.after.all fun e => !Region.binds md e || decide (e.on < i))).getD true
theorem backOk_spec {md : Region.Mode} {ops : Array Oper} (h : backOk md ops = true) {i : Nat} {o : Oper} (ho : ops[i]? = some o) {e : Edge} (he : e ∈ o.after) (hb : Region.binds md e = true) : e.on < i := by
  have hi : i < ops.size := (Array.getElem?_eq_some_iff.1 ho).1
  have h1 := List.all_eq_true.1 h i (List.mem_range.2 hi)
  simp only [ho, Option.map_some, Option.getD_some] at h1
  have h2 := Array.all_eq_true_iff_forall_mem.1 h1 e he
  simpa [hb] using h2
theorem count_set (l : List Bool) (i : Nat) (h : l[i]? = some false) : (l.set i true).count false + 1 = l.count false := by
  induction l generalizing i with
  | nil => simp at h
  | cons x l ih =>
    cases i with
    | zero =>
      simp at h
      subst h
      simp
    | succ i =>
      simp at h
      have := ih i (by simpa using h)
      rw [List.set_cons_succ, List.count_cons, List.count_cons]
      omega
theorem all_of_count (l : List Bool) (h : l.count false = 0) (i : Nat) (hi : i < l.length) : l[i]? = some true := by
  have := List.count_eq_zero.1 h
  rw [List.getElem?_eq_getElem hi]
  cases hx : l[i] with
  | true => rfl
  | false => exact absurd (hx ▸ List.getElem_mem hi) this

section
variable {P : Program} {ops : Array Oper} {Q : Exit → Act → World → Prop} {md : Region.Mode} {S : World → Prop}
theorem ready_nil_all (hb : backOk md ops = true) {L : Array Bool} (hr : Region.ready md ops L = []) : ∀ i, i < ops.size → L.getD i true = true := by
  intro i
  induction i using Nat.strongRecOn with
  | ind i ih =>
    intro hi
    cases hx : L.getD i true with
    | true => rfl
    | false =>
      have : i ∈ Region.ready md ops L := by
        unfold Region.ready
        rw [List.mem_filter]
        refine ⟨List.mem_range.2 hi, ?_⟩
        obtain ⟨o, ho⟩ : ∃ o, ops[i]? = some o := ⟨ops[i], Array.getElem?_eq_getElem hi⟩
        simp only [hx, ho, Option.map_some, Option.getD_some, Bool.not_false, Bool.true_and]
        rw [Array.all_eq_true_iff_forall_mem]
        intro e he
        cases hbe : Region.binds md e with
        | false => rfl
        | true =>
          have hlt := backOk_spec hb ho he hbe
          have h1 := ih e.on hlt (by omega)
          have hsz : e.on < L.size := by
            have : i < L.size := by
              rcases Nat.lt_or_ge i L.size with h | h
              · exact h
              · simp [Array.getD, Nat.not_lt.2 h] at hx
            omega
          simp [Array.getD, hsz] at h1 ⊢
          exact h1
      rw [hr] at this
      cases this

/-- What is done, as a function. -/
def doneOf (L : Array Bool) : Nat → Bool := fun k => L.getD k false
def also (D : Nat → Bool) (i : Nat) : Nat → Bool := fun k => if k = i then true else D k
theorem doneOf_set (L : Array Bool) (i : Nat) (h : i < L.size) : doneOf (L.setIfInBounds i true) = also (doneOf L) i := by
  funext k
  unfold doneOf also
  by_cases hk : k = i
  · subst hk
    simp [Array.getD, h]
  · rw [if_neg hk]
    simp only [Array.getD_eq_getD_getElem?, Array.getElem?_setIfInBounds, if_neg (Ne.symm hk)]

theorem wpAnyH_inv (hb : backOk md ops = true) (I : (Nat → Bool) → Act → World → Prop) (hS : ∀ D a w, I D a w → S w)
    (hstep : ∀ (i : Nat) (o : Oper) (D : Nat → Bool) (a : Act) (w : World), ops[i]? = some o → D i = false → (o.after.all fun e => !Region.binds md e || D e.on) = true → I D a w →
      ∀ K : Act → World → Prop, Shut (∀ a' w', I (also D i) a' w' → K a' w') → if Region.wanted o (yielded ops a.tmps) = true then Oper.wp P o a w K Q else K (a.put o.dst undef) w)
    (hend : ∀ D a w, (∀ i, i < ops.size → D i = true) → I D a w → Q .normal a w) :
    ∀ (fuel : Nat) (L : Array Bool) (a : Act) (w : World), L.size = ops.size → L.toList.count false ≤ fuel → I (doneOf L) a w → wpAnyH P md ops Q S fuel L a w := by
  have hfin : ∀ (L : Array Bool) (a : Act) (w : World), L.size = ops.size → Region.ready md ops L = [] → I (doneOf L) a w → Q .normal a w := by
    intro L a w hL hr hI
    refine hend _ a w (fun i hi => ?_) hI
    have := ready_nil_all hb hr i hi
    unfold doneOf
    have hi' : i < L.size := by omega
    simp [Array.getD, hi'] at this ⊢
    exact this
  intro fuel
  induction fuel with
  | zero =>
    intro L a w hL hc hI
    have hr : Region.ready md ops L = [] := by
      unfold Region.ready
      rw [List.filter_eq_nil_iff]
      intro i hi
      have hi := List.mem_range.1 hi
      have := all_of_count L.toList (by omega) i (by simpa [hL] using hi)
      have hi' : i < L.size := by omega
      have e : L.getD i true = true := by
        simp at this
        simp [Array.getD, hi']
        have h2 := (Array.getElem?_eq_some_iff.1 this).2
        exact h2
      simp [e]
    exact ⟨hr, hfin L a w hL hr hI⟩
  | succ fuel ih =>
    intro L a w hL hc hI
    refine ⟨fun hr => hfin L a w hL hr hI, fun i hi => ?_⟩
    have hm := List.mem_filter.1 hi
    have hilt := List.mem_range.1 hm.1
    have hm2 := hm.2
    obtain ⟨o, ho⟩ : ∃ o, ops[i]? = some o := ⟨ops[i], Array.getElem?_eq_getElem hilt⟩
    simp only [ho, Option.map_some, Option.getD_some, Bool.and_eq_true, Bool.not_eq_true'] at hm2
    have hi' : i < L.size := by omega
    have hLi : L[i]? = some false := by
      have := hm2.1
      simp [Array.getD, hi'] at this
      rw [Array.getElem?_eq_getElem hi', this]
    have hDi : doneOf L i = false := by
      unfold doneOf
      have := hm2.1
      simp [Array.getD, hi'] at this ⊢
      exact this
    refine wpOp_step ho (fun K hK => hstep i o (doneOf L) a w ho hDi hm2.2 hI K ?_)
    intro a' w' hI'
    refine hK a' w' ⟨hS _ _ _ hI', ih _ a' w' (by simpa using hL) ?_ ?_⟩
    · have := count_set L.toList i (by simpa using hLi)
      simp
      omega
    · rw [doneOf_set L i hi']
      exact hI'
theorem wpAnyH_inv' (hb : backOk md ops = true) (I : (Nat → Bool) → Act → World → Prop) {fuel : Nat} {L : Array Bool} {a : Act} {w : World} (hL : (L.size == ops.size && decide (L.toList.count false ≤ fuel)) = true) (hS : ∀ D a w, I D a w → S w)
    (h0 : I (doneOf L) a w)
    (hstep : ∀ (i : Nat) (o : Oper) (D : Nat → Bool) (a : Act) (w : World), ops[i]? = some o → D i = false → (o.after.all fun e => !Region.binds md e || D e.on) = true → I D a w →
      ∀ K : Act → World → Prop, Shut (∀ a' w', I (also D i) a' w' → K a' w') → if Region.wanted o (yielded ops a.tmps) = true then Oper.wp P o a w K Q else K (a.put o.dst undef) w)
    (hend : ∀ D a w, (∀ i, i < ops.size → D i = true) → I D a w → Q .normal a w) : wpAnyH P md ops Q S fuel L a w := by
  rw [Bool.and_eq_true] at hL
  exact wpAnyH_inv hb I hS hstep hend fuel L a w (by simpa using hL.1) (of_decide_eq_true hL.2) h0
/-- What is asked of each operation that is still to come. -/
def StepAll (P : Program) (md : Region.Mode) (ops : Array Oper) (Q : Exit → Act → World → Prop) (I : (Nat → Bool) → Act → World → Prop) (hard : List Nat) : Prop :=
  ∀ i ∈ hard, ∀ o : Oper, ops[i]? = some o → ∀ (D : Nat → Bool) (a : Act) (w : World), D i = false → (o.after.all fun e => !Region.binds md e || D e.on) = true → I D a w →
    ∀ K : Act → World → Prop, Shut (∀ a' w', I (also D i) a' w' → K a' w') → if Region.wanted o (yielded ops a.tmps) = true then Oper.wp P o a w K Q else K (a.put o.dst undef) w
theorem StepAll.nil {I : (Nat → Bool) → Act → World → Prop} : StepAll P md ops Q I [] := fun _ h => by cases h
theorem StepAll.cons {I : (Nat → Bool) → Act → World → Prop} {i : Nat} {o : Oper} {hard : List Nat} (ho : ops[i]? = some o)
    (h : ∀ (D : Nat → Bool) (a : Act) (w : World), D i = false → (o.after.all fun e => !Region.binds md e || D e.on) = true → I D a w →
      ∀ K : Act → World → Prop, Shut (∀ a' w', I (also D i) a' w' → K a' w') → if Region.wanted o (yielded ops a.tmps) = true then Oper.wp P o a w K Q else K (a.put o.dst undef) w)
    (hs : StepAll P md ops Q I hard) : StepAll P md ops Q I (i :: hard) := fun j hj o' ho' => by
  rcases List.mem_cons.1 hj with rfl | hj
  · rw [ho] at ho'
    injection ho' with ho'
    subst ho'
    exact h
  · exact hs j hj o' ho'
theorem wpAnyH_hard (hb : backOk md ops = true) (hard : List Nat) (I : (Nat → Bool) → Act → World → Prop) {fuel : Nat} {L : Array Bool} {a : Act} {w : World} (hL : (L.size == ops.size && decide (L.toList.count false ≤ fuel)) = true)
    (hh : ((List.range ops.size).all fun i => L.getD i false || hard.contains i) = true) (hS : ∀ D a w, I D a w → S w) (h0 : I (doneOf L) a w)
    (hend : ∀ D a w, (∀ i ∈ hard, D i = true) → I D a w → Q .normal a w) (hstep : StepAll P md ops Q I hard) (hhl : (hard.all fun i => decide (i < ops.size)) = true) : wpAnyH P md ops Q S fuel L a w := by
  refine wpAnyH_inv' (S := S) hb (fun D a w => I D a w ∧ ∀ i, i < ops.size → D i = false → i ∈ hard) hL (fun D a w h => hS D a w h.1) ⟨h0, ?_⟩ ?_ ?_
  · intro i hi hD
    have := List.all_eq_true.1 hh i (List.mem_range.2 hi)
    unfold doneOf at hD
    rw [hD] at this
    simpa using this
  · intro i o D a w ho hDi hdep ⟨hI, hD⟩ K hK
    have hi : i < ops.size := (Array.getElem?_eq_some_iff.1 ho).1
    refine hstep i (hD i hi hDi) o ho D a w hDi hdep hI K ?_
    intro a' w' hI'
    refine hK.out a' w' ⟨hI', fun j hj hDj => hD j hj ?_⟩
    unfold also at hDj
    split at hDj
    · cases hDj
    · exact hDj
  · intro D a w hall ⟨hI, _⟩
    refine hend D a w (fun i hi => hall i ?_) hI
    simpa using List.all_eq_true.1 hhl i hi
/-- Does op j wait for op k? -/
def waits (md : Region.Mode) (ops : Array Oper) (j k : Nat) : Bool := ((ops[j]?).map (·.after.any fun e => Region.binds md e && e.on == k)).getD false
/-- H is a phase behind L: its last is behind all of it, and nothing else comes up ahead of its last. -/
def phaseOk (md : Region.Mode) (ops : Array Oper) (L : Array Bool) (H : List Nat) (last : Nat) : Bool :=
  backOk md ops && (L.size == ops.size) && (H.all fun h => decide (h < ops.size) && !L.getD h true && (h == last || H.any fun k => waits md ops k h)) && H.contains last &&
  ((List.range ops.size).all fun j => L.getD j true || H.contains j || waits md ops j last || (List.range ops.size).any fun k => !L.getD k true && !H.contains k && waits md ops j k) &&
  decide (H.Nodup)
theorem waits_ready {ops : Array Oper} {md : Region.Mode} {L : Array Bool} {j k : Nat} (hr : j ∈ Region.ready md ops L) (hw : waits md ops j k = true) : L.getD k false = true := by
  have hm := (List.mem_filter.1 hr).2
  unfold waits at hw
  cases ho : ops[j]? with
  | none => simp [ho] at hw
  | some o =>
    simp only [ho, Option.map_some, Option.getD_some] at hw hm
    rw [Bool.and_eq_true] at hm
    obtain ⟨i, hi, he⟩ := Array.any_eq_true.1 hw
    have h1 := Array.all_eq_true_iff_forall_mem.1 hm.2 o.after[i] (Array.getElem_mem hi)
    simp only [Bool.and_eq_true, beq_iff_eq] at he
    rw [he.1, he.2] at h1
    simpa using h1
theorem waits_lt {ops : Array Oper} {md : Region.Mode} (hb : backOk md ops = true) {j k : Nat} (hw : waits md ops j k = true) : k < j := by
  unfold waits at hw
  cases ho : ops[j]? with
  | none => simp [ho] at hw
  | some o =>
    simp only [ho, Option.map_some, Option.getD_some] at hw
    obtain ⟨i, hi, he⟩ := Array.any_eq_true.1 hw
    simp only [Bool.and_eq_true, beq_iff_eq] at he
    have := backOk_spec hb ho (Array.getElem_mem hi) he.1
    omega

theorem getD_set_true (L : Array Bool) (i k : Nat) (h : i < L.size) : (L.setIfInBounds i true).getD k true = if k = i then true else L.getD k true := by
  by_cases hk : k = i
  · subst hk
    simp [Array.getD, h]
  · rw [if_neg hk]
    simp only [Array.getD_eq_getD_getElem?, Array.getElem?_setIfInBounds, if_neg (Ne.symm hk)]
theorem getD_true_false (L : Array Bool) (i : Nat) (h : i < L.size) : L.getD i false = L.getD i true := by simp [Array.getD, h]
theorem filter_set (H : List Nat) (hn : H.Nodup) (L : Array Bool) (i n : Nat) (hi : i ∈ H) (hL : i < L.size) (hu : L.getD i true = false) (hf : (H.filter fun k => !L.getD k true).length = n + 1) :
    (H.filter fun k => !(L.setIfInBounds i true).getD k true).length = n := by
  have e : (H.filter fun k => !(L.setIfInBounds i true).getD k true) = (H.filter fun k => !L.getD k true).erase i := by
    rw [List.Nodup.erase_eq_filter (hn.filter _), List.filter_filter]
    apply List.filter_congr
    intro k _
    rw [getD_set_true L i k hL]
    by_cases hk : k = i
    · simp [hk]
    · simp [hk]
  rw [e, List.length_erase_of_mem (List.mem_filter.2 ⟨hi, by simp [hu]⟩), hf]
  rfl
theorem foldl_set (H : List Nat) : ∀ (L : Array Bool), (∀ h ∈ H, h < L.size) → (H.foldl (fun L i => L.setIfInBounds i true) L).size = L.size ∧ ∀ k, (H.foldl (fun L i => L.setIfInBounds i true) L).getD k true = if k ∈ H then true else L.getD k true := by
  induction H with
  | nil => intro L _; simp
  | cons h H ih =>
    intro L hL
    have hh := hL h (by simp)
    obtain ⟨h1, h2⟩ := ih (L.setIfInBounds h true) (fun k hk => by simpa using hL k (by simp [hk]))
    refine ⟨by simpa using h1, fun k => ?_⟩
    rw [List.foldl_cons, h2 k, getD_set_true L h k hh]
    by_cases hk : k ∈ H
    · simp [hk]
    · by_cases hkh : k = h <;> simp [hk, hkh]

/-- A phase of a region: H in whatever order, each operation looked at once; then on from all of it. -/
theorem wpAnyH_phase (H : List Nat) (last : Nat) (I : (Nat → Bool) → Act → World → Prop) {fuel : Nat} {L : Array Bool} {a : Act} {w : World} (hp : phaseOk md ops L H last = true)
    (hS : ∀ D a w, I D a w → S w) (h0 : I (doneOf L) a w)
    (hend : ∀ D a w, (∀ i ∈ H, D i = true) → I D a w → S w → wpAnyH P md ops Q S fuel (H.foldl (fun L i => L.setIfInBounds i true) L) a w) (hstep : StepAll P md ops Q I H) :
    wpAnyH P md ops Q S (fuel + H.length) L a w := by
  simp only [phaseOk, Bool.and_eq_true, beq_iff_eq, List.all_eq_true, decide_eq_true_eq, Bool.or_eq_true, Bool.not_eq_true'] at hp
  obtain ⟨⟨⟨⟨⟨hb, hsz⟩, hH⟩, hlast⟩, hout⟩, hnd⟩ := hp
  have key : ∀ (n : Nat) (M : Array Bool) (a : Act) (w : World), M.size = ops.size → (∀ i, i < ops.size → M.getD i true = true → L.getD i true = true ∨ i ∈ H) → (∀ i, L.getD i true = true → M.getD i true = true) →
      (∀ h k, h ∈ H → M.getD h true = true → waits md ops h k = true → M.getD k true = true) → (H.filter fun k => !M.getD k true).length = n → I (doneOf M) a w → (n = 0 → S w) → wpAnyH P md ops Q S (fuel + n) M a w := by
    intro n
    induction n with
    | zero =>
      intro M a w hM h1 h2 _ hf hI hSw
      have hall : ∀ h ∈ H, M.getD h true = true := by
        intro h hh
        have := List.eq_nil_of_length_eq_zero hf
        rw [List.filter_eq_nil_iff] at this
        simpa using this h hh
      have e : M = H.foldl (fun L i => L.setIfInBounds i true) L := by
        obtain ⟨f1, f2⟩ := foldl_set H L (fun h hh => by rw [hsz]; exact (hH h hh).1.1)
        apply Array.ext
        · rw [hM, f1, hsz]
        · intro i hi1 hi2
          have g1 := f2 i
          have ha : M.getD i true = M[i] := by simp [Array.getD, hi1]
          have hb : (H.foldl (fun L i => L.setIfInBounds i true) L).getD i true = (H.foldl (fun L i => L.setIfInBounds i true) L)[i] := by simp [Array.getD, hi2]
          rw [← ha, ← hb, g1]
          by_cases hiH : i ∈ H
          · rw [if_pos hiH, hall i hiH]
          · rw [if_neg hiH]
            cases hx : L.getD i true with
            | true => exact h2 i hx
            | false =>
              cases hy : M.getD i true with
              | false => rfl
              | true =>
                rcases h1 i (by omega) hy with h | h
                · rw [h] at hx; cases hx
                · exact absurd h hiH
      have hend' := hend (doneOf M) a w (fun i hi => by
        unfold doneOf
        rw [getD_true_false M i (by rw [hM]; exact (hH i hi).1.1)]
        exact hall i hi) hI (hSw rfl)
      rw [← e] at hend'
      exact hend'
    | succ n ih =>
      intro M a w hM h1 h2 h3 hf hI _
      have hnl : M.getD last true = false := by
        cases hx : M.getD last true with
        | false => rfl
        | true =>
          exfalso
          have hall : ∀ (m h : Nat), ops.size - h ≤ m → h ∈ H → M.getD h true = true := by
            intro m
            induction m with
            | zero => intro h hm hh; have := (hH h hh).1.1; omega
            | succ m ihm =>
              intro h hm hh
              rcases (hH h hh).2 with he | he
              · rw [he]; exact hx
              · obtain ⟨k, hk, hw⟩ := List.any_eq_true.1 he
                have := waits_lt hb hw
                exact h3 k h hk (ihm k (by have := (hH h hh).1.1; omega) hk) hw
          have : (H.filter fun k => !M.getD k true) = [] := List.filter_eq_nil_iff.2 (fun h hh => by simp [hall _ h (Nat.le_refl _) hh])
          rw [this] at hf
          cases hf
      refine ⟨fun hr => ?_, fun i hi => ?_⟩
      · have := ready_nil_all hb hr last (hH last (by simpa using hlast)).1.1
        rw [this] at hnl
        cases hnl
      · have hm := List.mem_filter.1 hi
        have hilt := List.mem_range.1 hm.1
        have hm2 := hm.2
        obtain ⟨o, ho⟩ : ∃ o, ops[i]? = some o := ⟨ops[i], Array.getElem?_eq_getElem hilt⟩
        simp only [ho, Option.map_some, Option.getD_some, Bool.and_eq_true, Bool.not_eq_true'] at hm2
        have hiM : i < M.size := by omega
        have hiH : i ∈ H := by
          rcases hout i (List.mem_range.2 hilt) with ((h | h) | h) | h
          · have := h2 i h
            rw [hm2.1] at this
            cases this
          · simpa using h
          · have := waits_ready hi h
            rw [getD_true_false M last (by rw [hM]; exact (hH last (by simpa using hlast)).1.1), hnl] at this
            cases this
          · obtain ⟨k, hk, hk2⟩ := List.any_eq_true.1 h
            simp only [Bool.and_eq_true, Bool.not_eq_true'] at hk2
            have := waits_ready hi hk2.2
            have hklt := List.mem_range.1 hk
            rw [getD_true_false M k (by omega)] at this
            rcases h1 k hklt this with h | h
            · rw [h] at hk2; exact absurd hk2.1.1 (by simp)
            · simp [h] at hk2
        refine wpOp_step ho (fun K hK => hstep i hiH o ho (doneOf M) a w ?_ hm2.2 hI K ?_)
        · unfold doneOf
          rw [getD_true_false M i hiM]
          exact hm2.1
        · intro a' w' hI'
          have hS' := hS _ _ _ hI'
          refine hK a' w' ⟨hS', ih (M.setIfInBounds i true) a' w' (by simpa using hM) ?_ ?_ ?_ ?_ ?_ (fun _ => hS')⟩
          · intro k hk hkk
            rw [getD_set_true M i k hiM] at hkk
            by_cases hki : k = i
            · exact .inr (hki ▸ hiH)
            · rw [if_neg hki] at hkk
              exact h1 k hk hkk
          · intro k hk
            rw [getD_set_true M i k hiM]
            split
            · rfl
            · exact h2 k hk
          · intro h k hh hhd hw
            rw [getD_set_true M i h hiM] at hhd
            rw [getD_set_true M i k hiM]
            split
            · rfl
            · by_cases hhi : h = i
              · subst hhi
                have := waits_ready hi hw
                have hkl := waits_lt hb hw
                rw [getD_true_false M k (by omega)] at this
                exact this
              · rw [if_neg hhi] at hhd
                exact h3 h k hh hhd hw
          · exact filter_set H hnd M i n hiH hiM hm2.1 hf
          · rw [doneOf_set M i hiM]
            exact hI'
  refine key H.length L a w hsz (fun i _ h => .inl h) (fun _ h => h) ?_ ?_ h0 ?_
  · intro h k hh hhd _
    rw [(hH h hh).1.2] at hhd
    cases hhd
  · rw [List.filter_eq_self.2 (fun h hh => by simp [(hH h hh).1.2])]
  · intro h
    have : H = [] := List.eq_nil_of_length_eq_zero h
    rw [this] at hlast
    simp at hlast
theorem dep_of {o : Oper} {D : Nat → Bool} (h : (o.after.all fun e => !Region.binds md e || D e.on) = true) (k : Nat) (hk : (o.after.any fun e => Region.binds md e && e.on == k) = true) : D k = true := by
  obtain ⟨i, hi, he⟩ := Array.any_eq_true.1 hk
  have h1 := Array.all_eq_true_iff_forall_mem.1 h o.after[i] (Array.getElem_mem hi)
  simp only [Bool.and_eq_true, beq_iff_eq] at he
  rw [he.1, he.2] at h1
  simpa using h1
theorem wp_build {P : Program} {w : World} {o : Oper} {a : Act} {K : Act → World → Prop} {Q : Exit → Act → World → Prop} (t : TypeId) (parts : Array (Nat × Operand)) (ho : o.op = .build t parts)
    (vs : Array (Nat × Value)) (hv : (parts.map fun (i, x) => (i, a.eval x)) = vs) (cells : Array Value) (hb : (Instr.build t vs).run P w = .ok (.agg cells) w)
    (h : K (a.put o.dst (.agg cells)) w) : o.wp P a w K Q := by
  unfold Oper.wp execOp
  subst hv
  simp only [ho, Sem.run_bind, hb, Result.andThen_ok]
  exact h
theorem wpList_build {P : Program} {w : World} {ops : Array Oper} {rest : List Oper} {o : Oper} {a : Act} {Q : Exit → Act → World → Prop} (hgd : o.guard = none) (t : TypeId) (parts : Array (Nat × Operand)) (ho : o.op = .build t parts)
    (vs : Array (Nat × Value)) (hv : (parts.map fun (i, x) => (i, a.eval x)) = vs) (cells : Array Value) (hb : (Instr.build t vs).run P w = .ok (.agg cells) w)
    (h : wpList P ops Q rest (a.put o.dst (.agg cells)) w) : wpList P ops Q (o :: rest) a w :=
  wpList_plain hgd fun _ hK => wp_build t parts ho vs hv cells hb (hK _ _ h)
theorem put_self (a : Act) (d : Nat) : a.put (some d) (a.tmps.getD d undef) = a := by
  obtain ⟨t, ds⟩ := a
  simp only [Act.put, Act.mk.injEq, and_true]
  apply Array.ext
  · simp
  · intro i h1 h2
    rw [Array.getElem_setIfInBounds]
    split
    · subst_vars
      simp [Array.getD, h2]
    · rfl
theorem wpAnyH_name {fuel : Nat} {L : Array Bool} {a : Act} {w : World} (h : ∀ a0, a0 = a → wpAnyH P md ops Q S fuel L a0 w) : wpAnyH P md ops Q S fuel L a w := h a rfl
end
end Go.Proofs.YtablmgnhpciljaaDoor
