/- The reference's Read. -/
import Derived.Test.YtablmgnhpciljaaDrf
namespace Go.Proofs.Ytablmgnhpciljaa
open Go.RowKit

section
variable {w w' : World} {p : Nat} {S F G T : Nat → Prop} {D : ADisk} {bv dv av wv v : Value} {bs ds as_ ws : List Value}

theorem Ref_Read_no (h : RefAt w p S F D) (i : Int) (hno : ¬ (0 ≤ i ∧ i < D.blocks.length ∧ D.off = false)) :
    Calls Try.prog 22 #[.pointer (some ⟨p, 0, none⟩), .int .i64 i] w (ReadPost w none) := by
  obtain ⟨bv, dv, av, wv, bs, ds, as_, ws, h⟩ := h
  have c0 := h.blk.cell 0
  have c5 := h.blk.cell 5
  obtain ⟨Ab, cb, rfl⟩ := h.bl.form
  clear h
  by_cases h1 : i < 0
  · clear hno
    go_enter Try.func22, Try.ntmps22
    go_wp2
    go_ret2
    exact ⟨_, rfl, rfl, Frm.refl _ _⟩
  · have q1 : decide (i < 0) = false := by simp; omega
    by_cases h2 : (D.blocks.length : Int) ≤ i
    · clear hno
      go_enter Try.func22, Try.ntmps22
      go_wp2
      go_ret2
      exact ⟨_, rfl, rfl, Frm.refl _ _⟩
    · have q2 : decide ((D.blocks.length : Int) ≤ i) = false := by simp; omega
      have ho : D.off = true := by cases h : D.off; exact absurd ⟨by omega, by omega, h⟩ hno; rfl
      rw [ho] at c5
      clear hno ho
      go_enter Try.func22, Try.ntmps22
      go_wp2
      go_ret2
      exact ⟨_, rfl, rfl, Frm.refl _ _⟩

set_option maxHeartbeats 2000000 in
theorem Ref_Read_yes (h : RefAt w p S F D) (i : Nat) (hi : i < D.blocks.length) (ho : D.off = false) (hlen : D.waits.length ≤ 1099511627776) :
    Calls Try.prog 22 #[.pointer (some ⟨p, 0, none⟩), .int .i64 (i : Nat)] w (ReadPost w (D.read i)) := by
  obtain ⟨bv, dv, av, wv, bs, ds, as_, ws, h⟩ := h
  obtain ⟨i5, hi5, hz50, hz51, hz52⟩ := info_parts Try.info5
  have c0 := h.blk.cell 0
  have c1 := h.blk.cell 1
  have c2 := h.blk.cell 2
  have c3 := h.blk.cell 3
  have c5 := h.blk.cell 5
  rw [ho] at c5
  obtain ⟨gb, cb, rfl, hcb⟩ := h.bl.some_ h.ok.2.2.2.1
  obtain ⟨gd, cd, rfl, hcd⟩ := h.bd.some_ h.ok.2.2.2.1
  obtain ⟨Aa, ca, rfl⟩ := h.at_.form
  obtain ⟨Aw, cw, rfl⟩ := h.wt.form
  have hbn := h.ok.2.2.1
  have hp := h.blk.lt
  have hN : Frm NoB w w := Frm.refl _ _
  have q1 : decide ((i : Int) < 0) = false := by simp
  have q2 : decide ((D.blocks.length : Int) ≤ (i : Int)) = false := by simp; omega
  go_enter Try.func22, Try.ntmps22
  go_wp2_with fail
  go_loopw [6] (fun x wr => ∃ k : Nat, k ≤ D.waits.length ∧ x = .int .i64 ((D.waits.length : Int) - 1 - k) ∧ wr = w ∧ ∀ j, D.waits.length - k ≤ j → (h : j < D.waits.length) → D.waits[j].1 ≠ i) (fun x _ => (intOf x + 1).toNat)
  case atStart => exact ⟨0, Nat.zero_le _, by go_num, rfl, fun j h1 h2 => by omega⟩
  case round =>
    obtain ⟨k, hk, rfl, rfl, hno⟩ := hrel
    by_cases hlt : k < D.waits.length
    · obtain ⟨ga, ca', ea, _⟩ := h.at_.some_ (by omega)
      injection ea with ea _ ec
      subst ea ec
      obtain ⟨gw, cw', ew, _⟩ := h.wt.some_ (by omega)
      injection ew with ew _ ec
      subst ew ec
      obtain ⟨x, hx⟩ : ∃ x, x = D.waits.length - 1 - k := ⟨_, rfl⟩
      have hxl : x < D.waits.length := by omega
      obtain ⟨e0, v, e1, hv⟩ := h.wts x hxl
      obtain ⟨A2, c2', rfl⟩ := hv.1.form
      have d0 := (h.at_.cell hxl).trans e0
      have d1 := (h.wt.cell hxl).trans e1
      have hn1 : (D.waits.length : Int) - 1 - k = (x : Int) := by omega
      rw [hn1]
      have lw := h.wt.lt (g := gw) rfl
      by_cases heq : D.waits[x].1 = i
      · have hread := D.read_found i k hi ho hlt (by rw [← heq]; congr 2; exact hx.symm) hno
        have hr2 : D.read i = some D.waits[x].2 := by rw [hread]; congr 2; congr 1; exact hx.symm
        have q : ((D.waits[x].1 : Int) == (i : Int)) = true := by simp [heq]
        have hrv := hv.1.rd
        have hone : ∀ u ∈ D.waits[x].2, u.oneCell' = true := by
          intro u hu
          obtain ⟨y, rfl⟩ := hv.2.2 u hu
          rfl
        have Hr := hide hr2
        have Hx := hide hx
        clear hread hr2 heq hno hn1 hx
        go_wp2_with (at_builtin; refine wpList_new rfl (.tmp 43) (.tmp 50) 28 rfl wr (hN.alloc _) 5 i5 _ 1 1 Try.underlying28 hi5 hz50 hz51 hz52 rfl (by omega) (.slice (some ⟨wr.heap.size, 0, none⟩) 0 0) 0 [] rfl (own_lit0G (Nat.le_refl _) 5 1) F (.slice A2 128 c2') 128 D.waits[x].2 rfl (hrv.frm (hN.alloc _) (fun _ _ _ h => h)) hone (by simp only [maxLen]; omega) (by omega) ?_; intro v1 w1 ho1 hf1 _; simp only [Nat.zero_add, List.nil_append] at ho1)
        go_ret2
        rw [Hr.out]
        exact ⟨_, rfl, ⟨ho1.mono fun b hl hb => ⟨hb, hl⟩, hv.2⟩, hf1⟩
      · have q : ((D.waits[x].1 : Int) == (i : Int)) = false := by simp; omega
        have hno2 : ∀ j, D.waits.length - (k + 1) ≤ j → (h : j < D.waits.length) → D.waits[j].1 ≠ i := by
          intro j h1 h2
          by_cases hj : j = x
          · subst hj; exact heq
          · exact hno j (by omega) h2
        have Hno := hide hno2
        have Hx := hide hx
        clear hno hno2 heq hn1 hx
        go_wp2
        go_roundw
        case rel => exact ⟨k + 1, by omega, by have := Hx.out; go_num, by first | rfl | trivial, Hno.out⟩
        case measure => simp [intOf]
    · obtain rfl : k = D.waits.length := by omega
      have hread := D.read_none i hi ho (fun j h => hno j (by omega) h)
      have q : decide ((0 : Int) ≤ (D.waits.length : Int) - 1 - (D.waits.length : Int)) = false := by simp; omega
      obtain ⟨v, l, b, e1, e2, hv, e3⟩ := h.bls i hi
      obtain ⟨A2, c2', rfl⟩ := hv.1.form
      have d0 := (h.bl.cell hi).trans e1
      have d1 := (h.bd.cell hi).trans e2
      have lb := h.bl.lt (g := gb) rfl
      have hrv := hv.1.rd
      have hone : ∀ u ∈ l, u.oneCell' = true := by
        intro u hu
        obtain ⟨y, rfl⟩ := hv.2.2 u hu
        rfl
      cases b with
      | true =>
        have Hr := hide (hread.trans e3)
        clear hread e3 hno
        go_wp2
        go_ret2
        rw [Hr.out]
        exact ⟨_, rfl, rfl, Frm.refl _ _⟩
      | false =>
        have Hr := hide (hread.trans e3)
        clear hread e3 hno
        go_wp2_with (at_builtin; refine wpList_new rfl (.tmp 59) (.tmp 66) 28 rfl wr (hN.alloc _) 5 i5 _ 1 1 Try.underlying28 hi5 hz50 hz51 hz52 rfl (by omega) (.slice (some ⟨wr.heap.size, 0, none⟩) 0 0) 0 [] rfl (own_lit0G (Nat.le_refl _) 5 1) F (.slice A2 128 c2') 128 l rfl (hrv.frm (hN.alloc _) (fun _ _ _ h => h)) hone (by simp only [maxLen]; omega) (by omega) ?_; intro v1 w1 ho1 hf1 _; simp only [Nat.zero_add, List.nil_append] at ho1)
        go_ret2
        rw [Hr.out]
        exact ⟨_, rfl, ⟨ho1.mono fun b hl hb => ⟨hb, hl⟩, hv.2⟩, hf1⟩

theorem Ref_Read (h : RefAt w p S F D) (i : Int) (hlen : D.waits.length ≤ 1099511627776) :
    Calls Try.prog 22 #[.pointer (some ⟨p, 0, none⟩), .int .i64 i] w (ReadPost w (D.read i)) := by
  by_cases hg : 0 ≤ i ∧ i < D.blocks.length ∧ D.off = false
  · obtain ⟨h0, h1, h2⟩ := hg
    obtain ⟨i, rfl⟩ := Int.eq_ofNat_of_zero_le h0
    exact Ref_Read_yes h i (by omega) h2 hlen
  · have e : D.read i = none := by unfold ADisk.read; rw [if_neg hg]
    rw [e]
    exact Ref_Read_no h i hg
end
end Go.Proofs.Ytablmgnhpciljaa
