/- sheafbook.Same at bytes: are two rows of bytes the same? -/
import Derived.Test.YtablmgnhpciljaaDoorProg
import Derived.Test.YtablmgnhpciljaaDoorByt
import Derived.WalkLawsBesides
import Derived.WalkSpells
import Derived.Deep.QuietTactic
import Derived.BigQuiet
namespace Go.Proofs.YtablmgnhpciljaaDoor
open Go.RowKit

section
variable {F G : Nat → Prop}
set_option maxHeartbeats 400000 in
theorem Same_calls (va vb : Value) (la lb : List UInt8) (w : World) (ha : Rd w F 1 va la.length (la.map byt)) (hb : Rd w G 1 vb lb.length (lb.map byt)) (hl : la.length ≤ 140737488355328) :
    Calls Tryd.prog 15 #[va, vb] w fun e w' => e = .returned (.bool (decide (la = lb))) ∧ Frm NoB w w' := by
  obtain ⟨A, c, rfl, hc⟩ := ha.byteAt'
  obtain ⟨B, d, rfl, hd⟩ := hb.byteAt'
  by_cases hn : la.length = lb.length
  · have q : ((la.length : Int) != (lb.length : Int)) = false := by simp; omega
    have hst : Frm NoB w w := Frm.refl _ _
    go_enter Tryd.func15, Tryd.ntmps15
    have Hn := hide hn
    clear hn
    go_wp2
    go_loopw [5] (fun i wr => ∃ k : Nat, k ≤ la.length ∧ i = .int .i64 k ∧ Frm NoB w wr ∧ la.take k = lb.take k) (fun i _ => la.length - (intOf i).toNat)
    case atStart => exact ⟨0, by omega, rfl, hst, rfl⟩
    case round =>
      obtain ⟨k, hk, rfl, hF, he⟩ := hrel
      have He := hide he
      clear he
      by_cases hlt : k < la.length
      · have hlt' : k < lb.length := by have := Hn.out; omega
        obtain ⟨b1, o1, c1, e1, _, _, _, d1⟩ := (ha.frm hF (fun _ _ _ h => h)).byteAt hlt
        obtain ⟨b2, o2, c2, e2, _, _, _, d2⟩ := (hb.frm hF (fun _ _ _ h => h)).byteAt hlt'
        injection e1 with e1 _ e1'
        injection e2 with e2 _ e2'
        subst e1 e1' e2 e2'
        by_cases hxy : la[k] = lb[k]
        · have q2 : ((la[k].toNat : Int) != (lb[k].toNat : Int)) = false := by simp [hxy]
          have htk : la.take (k + 1) = lb.take (k + 1) := by rw [List.take_succ_eq_append_getElem hlt, List.take_succ_eq_append_getElem hlt', He.out, hxy]
          have Ht := hide htk
          clear htk hxy
          go_wp2
          go_quiet (fail)
          go_wp2
          go_roundw
          case rel => exact ⟨k + 1, by omega, by go_num, hF.drewN _, Ht.out⟩
          case measure => simp [intOf]; omega
        · have q2 : ((la[k].toNat : Int) != (lb[k].toNat : Int)) = true := by simp; intro h; exact hxy (UInt8.toNat_inj.1 (by omega))
          have hne : decide (la = lb) = false := by simp; intro h; exact hxy (by simp [h])
          have Hne := hide hne
          clear hne hxy
          go_wp2
          go_quiet (fail)
          go_wp2
          go_ret
          exact ⟨by rw [Hne.out]; rfl, hF.drewN _⟩
      · obtain rfl : k = la.length := by omega
        have heq : decide (la = lb) = true := by
          have := He.out
          rw [List.take_of_length_le (Nat.le_refl _), List.take_of_length_le (by have := Hn.out; omega)] at this
          simpa using this
        have Heq := hide heq
        clear heq
        go_wp2
        go_ret
        exact ⟨by rw [Heq.out]; rfl, hF⟩
  · have q : ((la.length : Int) != (lb.length : Int)) = true := by simp; omega
    have hne : decide (la = lb) = false := by simp; intro h; exact hn (by rw [h])
    have Hne := hide hne
    clear hne hn
    go_enter Tryd.func15, Tryd.ntmps15
    go_wp2
    go_ret
    exact ⟨by rw [Hne.out]; rfl, Frm.refl _ _⟩
end
end Go.Proofs.YtablmgnhpciljaaDoor
