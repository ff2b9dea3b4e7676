/- The reference's Flush and Boot. -/
import Derived.Test.YtablmgnhpciljaaDrc
namespace Go.Proofs.Ytablmgnhpciljaa
open Go.RowKit

section
variable {w w' : World} {p : Nat} {S F G T : Nat → Prop} {D : ADisk} {bv dv av wv v : Value} {bs ds as_ ws : List Value}

/-- What waits is struck. -/
theorem RefIn.noWaits (h : RefIn w p S F D bv dv av wv bs ds as_ ws) :
    RefIn ((w.setCell ⟨p, 2, none⟩ (.slice none 0 0)).setCell ⟨p, 3, none⟩ (.slice none 0 0)) p S F { D with waits := [] } bv dv (.slice none 0 0) (.slice none 0 0) bs ds [] [] := by
  have hb1 := h.blk.put 2 (.slice none 0 0)
  refine ⟨hb1.put 3 _, h.own, (h.bl.putOther h.blk (by decide) _).putOther hb1 (by decide) _, (h.bd.putOther h.blk (by decide) _).putOther hb1 (by decide) _, ⟨World.ownsRow_nil _ _ _ _, by simp [Value.ownBlock]⟩, ⟨World.ownsRow_nil _ _ _ _, by simp [Value.ownBlock]⟩, by simp [Value.ownBlock], ?_, fun j hj => absurd hj (by simp), ?_⟩
  · intro j hj
    obtain ⟨v, l, b, e1, e2, hv, e3⟩ := h.bls j hj
    exact ⟨v, l, b, e1, e2, (hv.put h.blk (by decide) 2 _).put hb1 (by decide) 3 _, e3⟩
  · obtain ⟨k1, k2, k3, k4, _⟩ := h.ok
    exact ⟨k1, k2, k3, k4, by simp⟩
theorem RefIn.frmNo (h : RefIn w p S F D bv dv av wv bs ds as_ ws) : Frm S w ((w.setCell ⟨p, 2, none⟩ (.slice none 0 0)).setCell ⟨p, 3, none⟩ (.slice none 0 0)) :=
  (h.frmPut 2 _).setCell (p := ⟨p, 3, none⟩) (fun _ => h.own) _

set_option maxHeartbeats 1000000 in
theorem Ref_Flush_yes (h : RefAt w p S F D) (hcan : D.can = true) (hlen : D.waits.length ≤ 1099511627776) : Calls Try.prog 10 #[.pointer (some ⟨p, 0, none⟩)] w fun e w' => e = .returned (.int .i64 0) ∧ RefAt w' p S (OrB F (NewB w w')) D.flushed ∧ Frm S w w' := by
  go_enter Try.func10, Try.ntmps10
  go_wp2_with fail
  refine (Ref_goes h).mono ?_
  rintro e w1 ⟨rfl, h1, hf1⟩
  rw [hcan]
  clear hcan
  obtain ⟨bv, dv, av, wv, bs, ds, as_, ws, h1⟩ := h1
  have c1 := h1.blk.cell 2
  obtain ⟨A, c, rfl⟩ := h1.at_.form
  have hwl : D.goes.waits.length ≤ 1099511627776 := by rw [ADisk.goes_waits]; exact hlen
  go_wp2_with fail
  go_loopw [12] (fun i wr => ∃ k : Nat, k ≤ D.goes.waits.length ∧ i = .int .i64 k ∧ (∃ bs' ds', RefIn wr p S (OrB F (NewB w wr)) { D.goes with blocks := landTo D.goes.waits k D.goes.blocks } bv dv (.slice A D.goes.waits.length c) wv bs' ds' as_ ws) ∧ Frm S w wr) (fun i _ => D.goes.waits.length - (intOf i).toNat)
  case atStart => exact ⟨0, Nat.zero_le _, rfl, ⟨bs, ds, h1.mono' fun _ _ h => .inl h⟩, hf1⟩
  case round =>
    obtain ⟨k, hk, rfl, ⟨bs', ds', hI⟩, hF⟩ := hrel
    by_cases hlt : k < D.goes.waits.length
    · go_wp2_with fail
      refine (Ref_land hI k hlt).mono ?_
      rintro e w2 ⟨rfl, ⟨bs2, ds2, h2⟩, hf2⟩
      have hF2 := hF.trans hf2 (fun _ _ h => h)
      have h3 := h2.mono' (G := OrB F (NewB w w2)) (fun b hl hb => by
        rcases hb with (hb | hb) | hb
        · exact .inl hb
        · exact .inr ⟨hb.1, hl⟩
        · exact .inr ⟨Nat.le_trans hF.size hb.1, hl⟩)
      go_wp2
      go_roundw
      case rel => exact ⟨k + 1, by omega, by go_num, ⟨_, _, by rw [landTo_succ _ _ hlt]; exact h3⟩, hF2⟩
      case measure => simp [intOf]; omega
    · obtain rfl : k = D.goes.waits.length := by omega
      have f1 := hI.blk.frozen
      have c2 := hI.blk.cell
      have hfin := hI.noWaits
      have hF2 := hF.trans hI.frmNo (fun _ _ h => h)
      have hfin' : RefAt ((wr.setCell ⟨p, 2, none⟩ (.slice none 0 0)).setCell ⟨p, 3, none⟩ (.slice none 0 0)) p S (OrB F (NewB w ((wr.setCell ⟨p, 2, none⟩ (.slice none 0 0)).setCell ⟨p, 3, none⟩ (.slice none 0 0)))) D.flushed := by
        unfold ADisk.flushed
        rw [ADisk.goes_waits, ADisk.goes_blocks] at hfin
        exact RefAt.mono ⟨_, _, _, _, _, _, _, _, hfin⟩ (fun _ _ h => h) (fun b _ hb => by
          rcases hb with hb | hb
          · exact .inl hb
          · exact .inr ⟨hb.1, by simpa using hb.2⟩)
      clear hfin
      go_wp2
      go_ret
      exact ⟨rfl, hfin', hF2⟩

theorem Ref_Flush_no (h : RefAt w p S F D) (hcan : D.can = false) : Calls Try.prog 10 #[.pointer (some ⟨p, 0, none⟩)] w fun e w' => e = .returned (.int .i64 7) ∧ RefAt w' p S F D.goes ∧ Frm S w w' := by
  go_enter Try.func10, Try.ntmps10
  go_wp2_with fail
  refine (Ref_goes h).mono ?_
  rintro e w1 ⟨rfl, h1, hf1⟩
  rw [hcan]
  clear hcan
  go_wp2
  go_ret
  exact ⟨rfl, h1, hf1⟩

theorem Ref_Flush (h : RefAt w p S F D) (hlen : D.waits.length ≤ 1099511627776) : Calls Try.prog 10 #[.pointer (some ⟨p, 0, none⟩)] w fun e w' => e = .returned (.int .i64 D.flush.2) ∧ RefAt w' p S (OrB F (NewB w w')) D.flush.1 ∧ Frm S w w' := by
  unfold ADisk.flush
  cases hc : D.can with
  | true => rw [if_pos rfl]; exact Ref_Flush_yes h hc hlen
  | false =>
    rw [if_neg (by simp)]
    refine (Ref_Flush_no h hc).mono ?_
    rintro e w' ⟨rfl, h2, h3⟩
    exact ⟨rfl, h2.mono (fun _ _ h => h) (fun _ _ h => .inl h), h3⟩
end
end Go.Proofs.Ytablmgnhpciljaa
