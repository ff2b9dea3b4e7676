/- The reference's Boot. -/
import Derived.Test.YtablmgnhpciljaaDrd
namespace Go.Proofs.Ytablmgnhpciljaa
open Go.RowKit

theorem bootTo_over (ws : List (Nat × List Value)) (how : List UInt8) (k : Nat) (h : how.length ≤ k) (bs : List (Option (List Value))) : bootTo ws how (k + 1) bs = bootTo ws how k bs := by
  unfold bootTo
  have hz : (ws.zip how).length ≤ k := by rw [List.length_zip]; omega
  rw [List.take_of_length_le hz, List.take_of_length_le (by omega)]

section
variable {w w' : World} {p : Nat} {S F G T : Nat → Prop} {D : ADisk} {bv dv av wv v : Value} {bs ds as_ ws : List Value}

/-- A block is bad. -/
theorem RefIn.putBad {gd capd md : Nat} (h : RefIn w p S F D bv (.slice (some ⟨gd, 0, none⟩) md capd) av wv bs ds as_ ws) (i : Nat) (hi : i < D.blocks.length) :
    RefIn (w.setCell ⟨gd, i, none⟩ (.bool true)) p S F { D with blocks := D.blocks.set i none } bv (.slice (some ⟨gd, 0, none⟩) md capd) av wv bs (ds.set i (.bool true)) as_ ws := by
  obtain ⟨cd, hcd⟩ := h.bd.type (g := gd) rfl
  have hc : ∀ (x : Value) (o : Option (List Value)), BlockIs w F x o → BlockIs (w.setCell ⟨gd, i, none⟩ (.bool true)) F x o := fun x o hx => hx.put hcd (by decide) i _
  have hdl : ds.length = D.blocks.length := by have := h.bd.1.1; omega
  refine ⟨(Below.heap_setCell _ _ _ _ (type_ne h.blk hcd (by decide))).trans h.blk, h.own, ?_, ?_, h.at_.putOther hcd (by decide) _, h.wt.putOther hcd (by decide) _, h.ne, ?_, ?_, ?_⟩
  · rw [List.length_set]
    exact h.bl.putOther hcd (by decide) _
  · rw [List.length_set]
    exact h.bd.set_ rfl hi (.bool true)
  · intro j hj
    rw [List.length_set] at hj
    obtain ⟨x, l', b', e1, e2, hx, e3⟩ := h.bls j hj
    by_cases e : i = j
    · subst e
      exact ⟨x, l', true, e1, by rw [List.getElem?_set_self (by omega)], hc _ _ hx, by rw [List.getElem_set_self]; rfl⟩
    · exact ⟨x, l', b', e1, by rw [List.getElem?_set_ne e]; exact e2, hc _ _ hx, by rw [List.getElem_set_ne e]; exact e3⟩
  · intro j hj
    obtain ⟨e0, x, e1, hx⟩ := h.wts j hj
    exact ⟨e0, x, e1, hc _ _ hx⟩
  · obtain ⟨k1, k2, k3, k4, k5⟩ := h.ok
    exact ⟨k1, k2, by simpa using k3, by simpa using k4, fun x hx => by simpa using k5 x hx⟩

/-- The end of a boot. -/
theorem RefIn.booted (h : RefIn w p S F D bv dv av wv bs ds as_ ws) :
    RefAt ((((w.setCell ⟨p, 2, none⟩ (.slice none 0 0)).setCell ⟨p, 3, none⟩ (.slice none 0 0)).setCell ⟨p, 4, none⟩ (.int .i64 (-1))).setCell ⟨p, 5, none⟩ (.bool false)) p S F { D with waits := [], fuse := -1, off := false } ∧
    Frm S w ((((w.setCell ⟨p, 2, none⟩ (.slice none 0 0)).setCell ⟨p, 3, none⟩ (.slice none 0 0)).setCell ⟨p, 4, none⟩ (.int .i64 (-1))).setCell ⟨p, 5, none⟩ (.bool false)) := by
  have h1 := h.noWaits
  have hok := h1.ok
  have h2 := h1.put 4 (.int .i64 (-1)) (D' := { D with waits := [], fuse := -1 }) rfl rfl ⟨by show (-1 : Int) ≤ -1; decide, by show (-1 : Int) ≤ 9223372036854775807; decide, hok.2.2⟩ rfl
  have h3 := h2.put 5 (.bool false) (D' := { D with waits := [], fuse := -1, off := false }) rfl rfl ⟨by show (-1 : Int) ≤ -1; decide, by show (-1 : Int) ≤ 9223372036854775807; decide, hok.2.2⟩ rfl
  exact ⟨⟨_, _, _, _, _, _, _, _, h3⟩, ((h.frmNo).trans (h1.frmPut 4 _) (fun _ _ h => h)).trans (h2.frmPut 5 _) (fun _ _ h => h)⟩

set_option maxHeartbeats 1000000 in
theorem Ref_Boot (h : RefAt w p S F D) (v : Value) (how : List UInt8) (hr : Rd w G 1 v how.length (how.map byt)) (hd : ∀ b, b < w.heap.size → G b → ¬ S b) (hlen : D.waits.length ≤ 1099511627776) :
    Calls Try.prog 12 #[.pointer (some ⟨p, 0, none⟩), v] w fun e w' => e = .returned (.tuple #[]) ∧ RefAt w' p S (OrB F (NewB w w')) (D.boot how) ∧ Frm S w w' := by
  obtain ⟨bv, dv, av, wv, bs, ds, as_, ws, h⟩ := h
  have c1 := h.blk.cell 2
  obtain ⟨A, c, rfl⟩ := h.at_.form
  obtain ⟨AH, cH, rfl, hcH, _⟩ := id hr.2
  go_enter Try.func12, Try.ntmps12
  go_wp2_with fail
  go_loopw [11] (fun i wr => ∃ k : Nat, k ≤ D.waits.length ∧ i = .int .i64 k ∧ (∃ bs' ds', RefIn wr p S (OrB F (NewB w wr)) { D with blocks := bootTo D.waits how k D.blocks } bv dv (.slice A D.waits.length c) wv bs' ds' as_ ws) ∧ Frm S w wr) (fun i _ => D.waits.length - (intOf i).toNat)
  case atStart => exact ⟨0, Nat.zero_le _, rfl, ⟨bs, ds, h.mono' fun _ _ h => .inl h⟩, Frm.refl _ _⟩
  case round =>
    obtain ⟨k, hk, rfl, ⟨bs', ds', hI⟩, hF⟩ := hrel
    by_cases hlt : k < D.waits.length
    · by_cases hlt' : k < how.length
      · obtain ⟨b, off, cc, he, _, _, hb, hcell⟩ := (hr.frm hF (fun b hb hl => hd b hl hb)).byteAt hlt'
        injection he with he hn hc
        subst he hc
        clear hn
        have hstep := bootTo_succ D.waits how k hlt hlt' D.blocks
        generalize hx : how[k] = x at *
        have Hx := hide hx
        clear hx
        have hx0 : (0 : Int) ≤ (x.toNat : Int) := Int.natCast_nonneg _
        have hx1 : (x.toNat : Int) ≤ 255 := by have := x.toNat_lt; omega
        by_cases r1 : x.toNat % 3 = 1
        · have q1 : ((x.toNat : Int) % 3 == 1) = true := by simp; omega
          rw [show bootStep (bootTo D.waits how k D.blocks) (D.waits[k], x) = (bootTo D.waits how k D.blocks).set D.waits[k].1 (some D.waits[k].2) from by simp only [bootStep]; rw [if_pos r1]] at hstep
          have Hs := hide hstep
          clear r1 hstep
          go_wp2_with fail
          refine (Ref_land hI k hlt).mono ?_
          rintro e w2 ⟨rfl, ⟨bs2, ds2, h2⟩, hf2⟩
          have hF2 := hF.trans hf2 (fun _ _ h => h)
          have h3 := h2.mono' (G := OrB F (NewB w w2)) (fun b hl hb => by
            rcases hb with (hb | hb) | hb
            · exact .inl hb
            · exact .inr ⟨hb.1, hl⟩
            · exact .inr ⟨Nat.le_trans hF.size hb.1, hl⟩)
          go_wp2
          go_roundw
          case rel => exact ⟨k + 1, by omega, by go_num, ⟨_, _, by rw [Hs.out]; exact h3⟩, hF2⟩
          case measure => simp [intOf]; omega
        · have q1 : ((x.toNat : Int) % 3 == 1) = false := by simp; omega
          by_cases r2 : x.toNat % 3 = 2
          · have q2 : ((x.toNat : Int) % 3 == 2) = true := by simp; omega
            rw [show bootStep (bootTo D.waits how k D.blocks) (D.waits[k], x) = (bootTo D.waits how k D.blocks).set D.waits[k].1 none from by simp only [bootStep]; rw [if_neg r1, if_pos r2]] at hstep
            have Hs := hide hstep
            clear r1 r2 hstep
            obtain ⟨gb, cb, gd, cd, ga, ca, gw, cw, rfl, rfl, ea, rfl, lb, ld, la, lw, n1, n2, n3, n4, n5, n6, n7, n8, n9⟩ := hI.forms hlt
            injection ea with ea _ ec
            subst ea ec
            obtain ⟨e0, _⟩ := hI.wts k hlt
            have hi' : D.waits[k].1 < (bootTo D.waits how k D.blocks).length := by rw [bootTo_length]; exact h.ok.2.2.2.2 _ (List.getElem_mem _)
            have hfin := (hI.putBad D.waits[k].1 hi').drew
            have hfr := (hF.setCell (p := ⟨gd, D.waits[k].1, none⟩) (fun _ => h.bd.2 gd rfl) (.bool true)).drew
            have r1 := hI.blk.cell 1
            have r2 := hI.blk.cell 2
            have r4 := (hI.at_.cell hlt).trans e0
            obtain ⟨cb', r5⟩ : ∃ x, wr.cell? ⟨gd, D.waits[k].1, none⟩ = some x := by
              obtain ⟨_, _, b', _, e2, _⟩ := hI.bls _ hi'
              exact ⟨_, (hI.bd.cell hi').trans e2⟩
            have r6 := hI.bd.frozen D.waits[k].1
            have hbn := hI.ok.2.2.1
            generalize hat : D.waits[k].1 = at_ at *
            clear hat
            go_wp2
            go_region
            all_goals
              go_wp2
              go_roundw
              case rel => exact ⟨k + 1, by omega, by go_num, ⟨_, _, by rw [Hs.out]; exact hfin.mono' (fun b hl hb => (by rcases hb with hb | hb; exact .inl hb; exact .inr ⟨hb.1, hl⟩))⟩, hfr⟩
              case measure => simp [intOf]; omega
          · have q2 : ((x.toNat : Int) % 3 == 2) = false := by simp; omega
            rw [show bootStep (bootTo D.waits how k D.blocks) (D.waits[k], x) = bootTo D.waits how k D.blocks from by simp only [bootStep]; rw [if_neg r1, if_neg r2]] at hstep
            have Hs := hide hstep
            clear r1 r2 hstep
            go_wp2
            go_roundw
            case rel => exact ⟨k + 1, by omega, by go_num, ⟨_, _, by rw [Hs.out]; exact hI⟩, hF⟩
            case measure => simp [intOf]; omega
      · have Hs := hide (bootTo_over D.waits how k (by omega) D.blocks)
        go_wp2
        go_roundw
        case rel => exact ⟨k + 1, by omega, by go_num, ⟨_, _, by rw [Hs.out]; exact hI⟩, hF⟩
        case measure => simp [intOf]; omega
    · obtain rfl : k = D.waits.length := by omega
      obtain ⟨g1, g2⟩ := hI.booted
      have f1 := hI.blk.frozen
      have b1 := hI.blk.cell
      have g3 := hF.trans g2 (fun _ _ h => h)
      have hz : ({ ({ D with blocks := bootTo D.waits how D.waits.length D.blocks } : ADisk) with waits := [], fuse := -1, off := false } : ADisk) = D.boot how := by
        simp only [ADisk.boot]
        rw [bootTo_all _ _ _ (by rw [List.length_zip]; omega)]
      rw [hz] at g1
      clear hz
      go_wp2
      go_end0
      exact ⟨rfl, g1.mono (fun _ _ h => h) (fun b hl hb => (by rcases hb with hb | hb; exact .inl hb; exact .inr ⟨hb.1, hl⟩)), g3⟩
end
end Go.Proofs.Ytablmgnhpciljaa
