/- The copies: slices.Clone at three element types, bytes.Clone: nil of nil, else a row of its own; nothing that was there is turned. -/
import Derived.Test.YtablmgnhpciljaaProg
import Derived.Test.YtablmgnhpciljaaApp
import Derived.WalkLawsBesides
import Derived.WalkSpells
namespace Go.Proofs.Ytablmgnhpciljaa
open Go.RowKit

theorem Try.info5 : (Try.prog.info? 5).map (fun i => (i.zero, i.size, i.bytes)) = some (some (.int .u8 0), 1, 1) := by kernel_rfl
theorem Try.info28 : (Try.prog.info? 28).map (fun i => (i.zero, i.size, i.bytes)) = some (some (.slice none 0 0), 1, 24) := by kernel_rfl
theorem Try.info57 : (Try.prog.info? 57).map (fun i => (i.zero, i.size, i.bytes)) = some (some (.agg #[.int .i64 0, .slice none 0 0]), 2, 32) := by kernel_rfl

theorem clone_bytes (w : World) (F : Nat → Prop) (v : Value) (n : Nat) (xs : List Value) (hr : Rd w F 1 v n xs) (h1 : ∀ u ∈ xs, u.oneCell' = true) (hn : n * 1 ≤ 140737488355328) (hnc : ∀ c, v = .slice none n c → v = .slice none 0 0) :
    Calls Try.prog 27 #[v] w (Cloned 5 1 v n xs w) := by
  obtain ⟨i0, hi, hz0, hz1, hz2⟩ := info_parts Try.info5
  have hl := hr.1
  obtain ⟨A, c, rfl, hc, _⟩ := id hr.2
  have hnil : ∀ (A : Option Addr) (n c : Nat) (w : World), (binOp .eql 28 (.slice A n c) (.slice none 0 0)).run Try.prog w = .ok (.bool A.isNone) w := fun A n c w => by
    cases A <;> rfl
  cases A with
  | none =>
    have h0 := hnc c rfl
    injection h0 with _ hn0 hc0
    subst hn0 hc0
    clear hnc
    have hx : xs = [] := List.eq_nil_of_length_eq_zero (by simpa using hl)
    subst hx
    go_enter Try.func27, Try.ntmps27
    go_wp2
    go_ret
    exact ⟨_, rfl, by simp, ⟨World.ownsRow_nil _ _ _ _, by simp [Value.ownBlock]⟩, Frm.refl _ _⟩
  | some ad =>
    clear hnc
    have hr1 : Rd (w.alloc (.cells #[] 5)) F 1 (.slice (some ad) n c) n xs := hr.frm ((Frm.refl NoB w).alloc _) (fun _ _ _ h => h)
    have ho1 := own_lit0 w 5 1
    go_enter Try.func27, Try.ntmps27
    go_wp2_with (at_builtin; refine wpList_app rfl (.tmp 5) (.tmp 6) _ rfl _ i0 _ 1 1 Try.underlying28 hi hz0 hz1 hz2 rfl (by omega) _ (.slice (some ⟨w.heap.size, 0, none⟩) 0 0) 0 [] rfl ho1 F _ n xs rfl hr1 h1 (by simp only [maxLen]; omega) (by omega) ?_; intro v' w1 hown1 hf1 hnil1)
    go_ret
    simp only [Nat.zero_add, List.nil_append] at hown1
    have hfr : Frm NoB w w1 := (((Frm.refl NoB w).alloc _)).trans hf1 (fun i hi hx => by have := hx.1; omega)
    exact ⟨v', rfl, by rw [hnil1]; simp, hown1.mono (fun b hb hx => by
      rcases hx with hx | hx
      · exact ⟨hx.1, hb⟩
      · exact ⟨by have := hx.1; simp at this; omega, hb⟩), hfr⟩

theorem bytes_clone (w : World) (F : Nat → Prop) (v : Value) (n : Nat) (xs : List Value) (hr : Rd w F 1 v n xs) (h1 : ∀ u ∈ xs, u.oneCell' = true) (hn : n * 1 ≤ 140737488355328) (hnc : ∀ c, v = .slice none n c → v = .slice none 0 0) :
    Calls Try.prog 34 #[v] w (Cloned 5 1 v n xs w) := by
  obtain ⟨i0, hi, hz0, hz1, hz2⟩ := info_parts Try.info5
  have hl := hr.1
  obtain ⟨A, c, rfl, hc, _⟩ := id hr.2
  have hnil : ∀ (A : Option Addr) (n c : Nat) (w : World), (binOp .eql 28 (.slice A n c) (.slice none 0 0)).run Try.prog w = .ok (.bool A.isNone) w := fun A n c w => by
    cases A <;> rfl
  cases A with
  | none =>
    have h0 := hnc c rfl
    injection h0 with _ hn0 hc0
    subst hn0 hc0
    clear hnc
    have hx : xs = [] := List.eq_nil_of_length_eq_zero (by simpa using hl)
    subst hx
    go_enter Try.func34, Try.ntmps34
    go_wp2
    go_ret
    exact ⟨_, rfl, by simp, ⟨World.ownsRow_nil _ _ _ _, by simp [Value.ownBlock]⟩, Frm.refl _ _⟩
  | some ad =>
    clear hnc
    have hr1 : Rd (w.alloc (.cells #[] 5)) F 1 (.slice (some ad) n c) n xs := hr.frm ((Frm.refl NoB w).alloc _) (fun _ _ _ h => h)
    have ho1 := own_lit0 w 5 1
    go_enter Try.func34, Try.ntmps34
    go_wp2_with (at_builtin; refine wpList_app rfl (.tmp 5) (.tmp 6) _ rfl _ i0 _ 1 1 Try.underlying28 hi hz0 hz1 hz2 rfl (by omega) _ (.slice (some ⟨w.heap.size, 0, none⟩) 0 0) 0 [] rfl ho1 F _ n xs rfl hr1 h1 (by simp only [maxLen]; omega) (by omega) ?_; intro v' w1 hown1 hf1 hnil1)
    go_ret
    simp only [Nat.zero_add, List.nil_append] at hown1
    have hfr : Frm NoB w w1 := (((Frm.refl NoB w).alloc _)).trans hf1 (fun i hi hx => by have := hx.1; omega)
    exact ⟨v', rfl, by rw [hnil1]; simp, hown1.mono (fun b hb hx => by
      rcases hx with hx | hx
      · exact ⟨hx.1, hb⟩
      · exact ⟨by have := hx.1; simp at this; omega, hb⟩), hfr⟩

theorem clone_rows (w : World) (F : Nat → Prop) (v : Value) (n : Nat) (xs : List Value) (hr : Rd w F 1 v n xs) (h1 : ∀ u ∈ xs, u.oneCell' = true) (hn : n * 24 ≤ 140737488355328) (hnc : ∀ c, v = .slice none n c → v = .slice none 0 0) :
    Calls Try.prog 31 #[v] w (Cloned 28 1 v n xs w) := by
  obtain ⟨i0, hi, hz0, hz1, hz2⟩ := info_parts Try.info28
  have hl := hr.1
  obtain ⟨A, c, rfl, hc, _⟩ := id hr.2
  have hnil : ∀ (A : Option Addr) (n c : Nat) (w : World), (binOp .eql 38 (.slice A n c) (.slice none 0 0)).run Try.prog w = .ok (.bool A.isNone) w := fun A n c w => by
    cases A <;> rfl
  cases A with
  | none =>
    have h0 := hnc c rfl
    injection h0 with _ hn0 hc0
    subst hn0 hc0
    clear hnc
    have hx : xs = [] := List.eq_nil_of_length_eq_zero (by simpa using hl)
    subst hx
    go_enter Try.func31, Try.ntmps31
    go_wp2
    go_ret
    exact ⟨_, rfl, by simp, ⟨World.ownsRow_nil _ _ _ _, by simp [Value.ownBlock]⟩, Frm.refl _ _⟩
  | some ad =>
    clear hnc
    have hr1 : Rd (w.alloc (.cells #[] 28)) F 1 (.slice (some ad) n c) n xs := hr.frm ((Frm.refl NoB w).alloc _) (fun _ _ _ h => h)
    have ho1 := own_lit0 w 28 1
    go_enter Try.func31, Try.ntmps31
    go_wp2_with (at_builtin; refine wpList_app rfl (.tmp 5) (.tmp 6) _ rfl _ i0 _ 1 24 Try.underlying38 hi hz0 hz1 hz2 rfl (by omega) _ (.slice (some ⟨w.heap.size, 0, none⟩) 0 0) 0 [] rfl ho1 F _ n xs rfl hr1 h1 (by simp only [maxLen]; omega) (by omega) ?_; intro v' w1 hown1 hf1 hnil1)
    go_ret
    simp only [Nat.zero_add, List.nil_append] at hown1
    have hfr : Frm NoB w w1 := (((Frm.refl NoB w).alloc _)).trans hf1 (fun i hi hx => by have := hx.1; omega)
    exact ⟨v', rfl, by rw [hnil1]; simp, hown1.mono (fun b hb hx => by
      rcases hx with hx | hx
      · exact ⟨hx.1, hb⟩
      · exact ⟨by have := hx.1; simp at this; omega, hb⟩), hfr⟩

theorem clone_writes (w : World) (F : Nat → Prop) (v : Value) (n : Nat) (xs : List Value) (hr : Rd w F 2 v n xs) (h1 : ∀ u ∈ xs, u.oneCell' = true) (hn : n * 32 ≤ 140737488355328) (hnc : ∀ c, v = .slice none n c → v = .slice none 0 0) :
    Calls Try.prog 32 #[v] w (Cloned 57 2 v n xs w) := by
  obtain ⟨i0, hi, hz0, hz1, hz2⟩ := info_parts Try.info57
  have hl := hr.1
  obtain ⟨A, c, rfl, hc, _⟩ := id hr.2
  have hnil : ∀ (A : Option Addr) (n c : Nat) (w : World), (binOp .eql 51 (.slice A n c) (.slice none 0 0)).run Try.prog w = .ok (.bool A.isNone) w := fun A n c w => by
    cases A <;> rfl
  cases A with
  | none =>
    have h0 := hnc c rfl
    injection h0 with _ hn0 hc0
    subst hn0 hc0
    clear hnc
    have hx : xs = [] := List.eq_nil_of_length_eq_zero (by simpa using hl)
    subst hx
    go_enter Try.func32, Try.ntmps32
    go_wp2
    go_ret
    exact ⟨_, rfl, by simp, ⟨World.ownsRow_nil _ _ _ _, by simp [Value.ownBlock]⟩, Frm.refl _ _⟩
  | some ad =>
    clear hnc
    have hr1 : Rd (w.alloc (.cells #[] 57)) F 2 (.slice (some ad) n c) n xs := hr.frm ((Frm.refl NoB w).alloc _) (fun _ _ _ h => h)
    have ho1 := own_lit0 w 57 2
    go_enter Try.func32, Try.ntmps32
    go_wp2_with (at_builtin; refine wpList_app rfl (.tmp 5) (.tmp 6) _ rfl _ i0 _ 2 32 Try.underlying51 hi hz0 hz1 hz2 rfl (by omega) _ (.slice (some ⟨w.heap.size, 0, none⟩) 0 0) 0 [] rfl ho1 F _ n xs rfl hr1 h1 (by simp only [maxLen]; omega) (by omega) ?_; intro v' w1 hown1 hf1 hnil1)
    go_ret
    simp only [Nat.zero_add, List.nil_append] at hown1
    have hfr : Frm NoB w w1 := (((Frm.refl NoB w).alloc _)).trans hf1 (fun i hi hx => by have := hx.1; omega)
    exact ⟨v', rfl, by rw [hnil1]; simp, hown1.mono (fun b hb hx => by
      rcases hx with hx | hx
      · exact ⟨hx.1, hb⟩
      · exact ⟨by have := hx.1; simp at this; omega, hb⟩), hfr⟩

end Go.Proofs.Ytablmgnhpciljaa
