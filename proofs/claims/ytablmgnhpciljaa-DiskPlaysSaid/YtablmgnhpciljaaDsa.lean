/- fill, sheafbook.Same at bytes. -/
import Derived.Test.YtablmgnhpciljaaDrh
import Derived.Deep.QuietTactic
import Derived.BigQuiet
namespace Go.Proofs.Ytablmgnhpciljaa
open Go.RowKit

def fillB (x : UInt8) : List UInt8 := List.replicate 128 x
theorem fillB_is (x : UInt8) : isBlock ((fillB x).map byt) := ⟨by simp [fillB], fun v hv => ⟨x, by simp [fillB] at hv; exact hv⟩⟩
def halfFill (x : UInt8) (k : Nat) : List Value := List.replicate k (byt x) ++ List.replicate (128 - k) (.int .u8 0)
theorem halfFill_length (x : UInt8) (k : Nat) (h : k ≤ 128) : (halfFill x k).length = 128 := by simp [halfFill]; omega
theorem halfFill_succ (x : UInt8) (k : Nat) (h : k < 128) : (halfFill x k).set k (byt x) = halfFill x (k + 1) := by
  unfold halfFill
  rw [List.set_append_right _ _ (by simp)]
  simp only [List.length_replicate, Nat.sub_self]
  obtain ⟨m, hm⟩ : ∃ m, 128 - k = m + 1 := ⟨128 - k - 1, by omega⟩
  rw [hm, show 128 - (k + 1) = m from by omega, List.replicate_succ, List.set_cons_zero, List.replicate_succ', List.append_assoc]
  rfl

section
variable {w w' : World} {F G : Nat → Prop}

set_option maxRecDepth 100000 in
set_option maxHeartbeats 400000 in
theorem fill_calls (x : UInt8) (w : World) : Calls Try.prog 6 #[.int .u8 (x.toNat : Int)] w fun e w' => ∃ g, e = .returned (.slice (some ⟨g, 0, none⟩) 128 128) ∧ Own w' (NewB w w') 5 1 (.slice (some ⟨g, 0, none⟩) 128 128) 128 ((fillB x).map byt) ∧ Frm NoB w w' := by
  have hm2 := make_block
  have h0 : Own (w.alloc (.cells (madeCells #[.int .u8 0] 128) 5)) (GeB w) 5 1 (.slice (some ⟨w.heap.size, 0, none⟩) 128 128) 128 (halfFill x 0) := by
    have := (new_block w).1
    exact this
  have hf0 : Frm NoB w (w.alloc (.cells (madeCells #[.int .u8 0] 128) 5)) := (Frm.refl _ _).alloc _
  go_enter Try.func6, Try.ntmps6
  go_wp2
  go_loopw [8] (fun i wr => ∃ k : Nat, k ≤ 128 ∧ i = .int .i64 k ∧ Own wr (GeB w) 5 1 (.slice (some ⟨w.heap.size, 0, none⟩) 128 128) 128 (halfFill x k) ∧ Frm NoB w wr) (fun i _ => 128 - (intOf i).toNat)
  case atStart => exact ⟨0, by omega, rfl, h0, hf0⟩
  case round =>
    obtain ⟨k, hk, rfl, hI, hF⟩ := hrel
    by_cases hlt : k < 128
    · have hjl : k < (halfFill x k).length := by rw [halfFill_length x k hk]; exact hlt
      have d0 := (hI.cell hlt).trans (List.getElem?_eq_getElem hjl)
      have df := hI.frozen k
      have hI2 := hI.set_ (g := w.heap.size) rfl hlt (byt x)
      rw [halfFill_succ x k hlt] at hI2
      have hF2 := hF.setCell (p := ⟨w.heap.size, k, none⟩) (fun h => absurd h (Nat.lt_irrefl _)) (byt x)
      simp only [byt] at hI2 hF2
      obtain ⟨old, hold⟩ : ∃ old, wr.cell? ⟨w.heap.size, k, none⟩ = some old := ⟨_, d0⟩
      clear d0 hjl hI h0 hf0 hm2
      go_wp2
      exact ⟨⟨k + 1, by omega, by go_num, hI2, hF2⟩, by simp [intOf]; omega⟩
    · obtain rfl : k = 128 := by omega
      have e : halfFill x 128 = (fillB x).map byt := by simp [halfFill, fillB]
      rw [e] at hI
      go_wp2
      go_ret
      exact ⟨_, rfl, hI.mono fun b hl hb => ⟨hb, hl⟩, hF⟩

theorem Rd.byteAt' {v : Value} {l : List UInt8} (h : Rd w F 1 v l.length (l.map byt)) : ∃ A c, v = .slice A l.length c ∧ l.length ≤ c := by
  obtain ⟨_, A, c, e, hc, _⟩ := h
  exact ⟨A, c, e, hc⟩

set_option maxHeartbeats 400000 in
theorem Same_calls (va vb : Value) (la lb : List UInt8) (w : World) (ha : Rd w F 1 va la.length (la.map byt)) (hb : Rd w G 1 vb lb.length (lb.map byt)) (hl : la.length ≤ 140737488355328) :
    Calls Try.prog 23 #[va, vb] w fun e w' => e = .returned (.bool (decide (la = lb))) ∧ Frm NoB w w' := by
  obtain ⟨A, c, rfl, hc⟩ := ha.byteAt'
  obtain ⟨B, d, rfl, hd⟩ := hb.byteAt'
  by_cases hn : la.length = lb.length
  · have q : ((la.length : Int) != (lb.length : Int)) = false := by simp; omega
    have hst : Frm NoB w w := Frm.refl _ _
    go_enter Try.func23, Try.ntmps23
    have Hn := hide hn
    clear hn
    go_wp2
    go_loopw [5] (fun i wr => ∃ k : Nat, k ≤ la.length ∧ i = .int .i64 k ∧ Frm NoB w wr ∧ la.take k = lb.take k) (fun i _ => la.length - (intOf i).toNat)
    case atStart => exact ⟨0, by omega, rfl, hst, rfl⟩
    case round =>
      obtain ⟨k, hk, rfl, hF, he⟩ := hrel
      have He := hide he
      clear he
      by_cases hlt : k < la.length
      · have hlt' : k < lb.length := by have := Hn.out; omega
        obtain ⟨b1, o1, c1, e1, _, _, _, d1⟩ := (ha.frm hF (fun _ _ _ h => h)).byteAt hlt
        obtain ⟨b2, o2, c2, e2, _, _, _, d2⟩ := (hb.frm hF (fun _ _ _ h => h)).byteAt hlt'
        injection e1 with e1 _ e1'
        injection e2 with e2 _ e2'
        subst e1 e1' e2 e2'
        by_cases hxy : la[k] = lb[k]
        · have q2 : ((la[k].toNat : Int) != (lb[k].toNat : Int)) = false := by simp [hxy]
          have htk : la.take (k + 1) = lb.take (k + 1) := by rw [List.take_succ_eq_append_getElem hlt, List.take_succ_eq_append_getElem hlt', He.out, hxy]
          have Ht := hide htk
          clear htk hxy
          go_wp2
          go_quiet (fail)
          go_wp2
          go_roundw
          case rel => exact ⟨k + 1, by omega, by go_num, hF.drewN _, Ht.out⟩
          case measure => simp [intOf]; omega
        · have q2 : ((la[k].toNat : Int) != (lb[k].toNat : Int)) = true := by simp; intro h; exact hxy (UInt8.toNat_inj.1 (by omega))
          have hne : decide (la = lb) = false := by simp; intro h; exact hxy (by simp [h])
          have Hne := hide hne
          clear hne hxy
          go_wp2
          go_quiet (fail)
          go_wp2
          go_ret
          exact ⟨by rw [Hne.out]; rfl, hF.drewN _⟩
      · obtain rfl : k = la.length := by omega
        have heq : decide (la = lb) = true := by
          have := He.out
          rw [List.take_of_length_le (Nat.le_refl _), List.take_of_length_le (by have := Hn.out; omega)] at this
          simpa using this
        have Heq := hide heq
        clear heq
        go_wp2
        go_ret
        exact ⟨by rw [Heq.out]; rfl, hF⟩
  · have q : ((la.length : Int) != (lb.length : Int)) = true := by simp; omega
    have hne : decide (la = lb) = false := by simp; intro h; exact hn (by rw [h])
    have Hne := hide hne
    clear hne hn
    go_enter Try.func23, Try.ntmps23
    go_wp2
    go_ret
    exact ⟨by rw [Hne.out]; rfl, Frm.refl _ _⟩
end
end Go.Proofs.Ytablmgnhpciljaa
