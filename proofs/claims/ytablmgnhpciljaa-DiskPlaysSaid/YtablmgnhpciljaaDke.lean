/- Disk: Boot. -/
import Derived.Test.YtablmgnhpciljaaDkd
namespace Go.Proofs.Ytablmgnhpciljaa
open Go.RowKit

def byt (x : UInt8) : Value := .int .u8 (x.toNat : Int)

def bootStep (bs : List (Option (List Value))) (x : (Nat × List Value) × UInt8) : List (Option (List Value)) :=
  if x.2.toNat % 3 = 1 then bs.set x.1.1 (some x.1.2) else if x.2.toNat % 3 = 2 then bs.set x.1.1 none else bs
/-- What a boot makes of the blocks: the first k of what waits have been met. -/
def bootTo (ws : List (Nat × List Value)) (how : List UInt8) (k : Nat) (bs : List (Option (List Value))) : List (Option (List Value)) := ((ws.zip how).take k).foldl bootStep bs
theorem bootTo_succ (ws : List (Nat × List Value)) (how : List UInt8) (k : Nat) (h : k < ws.length) (h' : k < how.length) (bs : List (Option (List Value))) :
    bootTo ws how (k + 1) bs = bootStep (bootTo ws how k bs) (ws[k], how[k]) := by
  unfold bootTo
  have hz : k < (ws.zip how).length := by rw [List.length_zip]; omega
  rw [List.take_succ_eq_append_getElem hz, List.foldl_append, List.getElem_zip]
  rfl
theorem bootStep_length (bs : List (Option (List Value))) (x : (Nat × List Value) × UInt8) : (bootStep bs x).length = bs.length := by
  unfold bootStep; split <;> (try split) <;> simp
theorem bootTo_length (ws : List (Nat × List Value)) (how : List UInt8) (k : Nat) (bs : List (Option (List Value))) : (bootTo ws how k bs).length = bs.length := by
  unfold bootTo
  induction (ws.zip how).take k generalizing bs with
  | nil => rfl
  | cons x r ih => simp only [List.foldl_cons]; rw [ih, bootStep_length]
theorem bootTo_all (ws : List (Nat × List Value)) (how : List UInt8) (k : Nat) (h : (ws.zip how).length ≤ k) (bs : List (Option (List Value))) : bootTo ws how k bs = (ws.zip how).foldl bootStep bs := by
  unfold bootTo; rw [List.take_of_length_le h]

def ADisk.boot (D : ADisk) (how : List UInt8) : ADisk := { D with blocks := (D.waits.zip how).foldl bootStep D.blocks, waits := [], fuse := -1, off := false }

section
variable {w : World} {p : Nat} {S F G : Nat → Prop} {D : ADisk} {bv wv : Value} {bs ws : List Value}

theorem Rd.byteAt {v : Value} {l : List UInt8} {n : Nat} (h : Rd w F 1 v n (l.map byt)) {k : Nat} (hk : k < l.length) : ∃ b off c, v = .slice (some ⟨b, off, none⟩) l.length c ∧ l.length ≤ c ∧ F b ∧ b < w.heap.size ∧ w.cell? ⟨b, off + k, none⟩ = some (.int .u8 (l[k].toNat : Int)) := by
  obtain ⟨hl, A, c, rfl, hc, hx⟩ := h
  have hn : n = l.length := by simpa using hl.symm
  subst hn
  obtain ⟨b, off, rfl, hF, hb, hcell⟩ := hx (by omega)
  exact ⟨b, off, c, rfl, hc, hF, hb, hcell k _ (by rw [List.getElem?_map, List.getElem?_eq_getElem hk]; rfl)⟩

/-- The end of a boot. -/
theorem DiskIn.booted (h : DiskIn w p S F D bv wv bs ws) : DiskAt (((w.setCell ⟨p, 1, none⟩ (.slice none 0 0)).setCell ⟨p, 2, none⟩ (.int .i64 (-1))).setCell ⟨p, 3, none⟩ (.bool false)) p S F { D with waits := [], fuse := -1, off := false } ∧
    Frm S w (((w.setCell ⟨p, 1, none⟩ (.slice none 0 0)).setCell ⟨p, 2, none⟩ (.int .i64 (-1))).setCell ⟨p, 3, none⟩ (.bool false)) := by
  have h1 := h.noWaits
  have hok := h1.ok
  have h2 := h1.put 2 (.int .i64 (-1)) (D' := { D with waits := [], fuse := -1 }) rfl rfl ⟨by show (-1 : Int) ≤ -1; decide, by show (-1 : Int) ≤ 9223372036854775807; decide, hok.2.2⟩ rfl
  have h3 := h2.put 3 (.bool false) (D' := { D with waits := [], fuse := -1, off := false }) rfl rfl ⟨by show (-1 : Int) ≤ -1; decide, by show (-1 : Int) ≤ 9223372036854775807; decide, hok.2.2⟩ rfl
  exact ⟨⟨_, _, _, _, h3⟩, ((h.frmPut 1 _).trans (h1.frmPut 2 _) (fun _ _ h => h)).trans (h2.frmPut 3 _) (fun _ _ h => h)⟩

set_option maxHeartbeats 1000000 in
theorem Disk_Boot (h : DiskAt w p S F D) (v : Value) (how : List UInt8) (hr : Rd w G 1 v how.length (how.map byt)) (hd : ∀ b, b < w.heap.size → G b → ¬ S b) (hlen : D.waits.length ≤ 1099511627776) :
    Calls Try.prog 11 #[.pointer (some ⟨p, 0, none⟩), v] w fun e w' => e = .returned (.tuple #[]) ∧ DiskAt w' p S F (D.boot how) ∧ Frm S w w' := by
  obtain ⟨bv, wv, bs, ws, h⟩ := h
  have c1 := h.blk.cell 1
  obtain ⟨A, c, rfl⟩ := h.wt.form
  obtain ⟨AH, cH, rfl, hcH, _⟩ := id hr.2
  go_enter Try.func11, Try.ntmps11
  go_wp2_with fail
  go_loopw [11] (fun i wr => ∃ k : Nat, k ≤ D.waits.length ∧ k ≤ how.length ∧ i = .int .i64 k ∧ ∃ bs', DiskIn wr p S F { D with blocks := bootTo D.waits how k D.blocks } bv (.slice A D.waits.length c) bs' ws ∧ Frm S w wr) (fun i _ => D.waits.length - (intOf i).toNat)
  case atStart => exact ⟨0, Nat.zero_le _, Nat.zero_le _, rfl, bs, h, Frm.refl _ _⟩
  case round =>
    obtain ⟨k, hk, hk', rfl, bs', hI, hF⟩ := hrel
    have fin : ∀ w5 : World, (D.waits.length ≤ k ∨ how.length ≤ k) → DiskIn w5 p S F { D with blocks := bootTo D.waits how k D.blocks } bv (.slice A D.waits.length c) bs' ws → Frm S w w5 →
        DiskAt (((w5.setCell ⟨p, 1, none⟩ (.slice none 0 0)).setCell ⟨p, 2, none⟩ (.int .i64 (-1))).setCell ⟨p, 3, none⟩ (.bool false)) p S F (D.boot how) ∧ Frm S w (((w5.setCell ⟨p, 1, none⟩ (.slice none 0 0)).setCell ⟨p, 2, none⟩ (.int .i64 (-1))).setCell ⟨p, 3, none⟩ (.bool false)) := by
      intro w5 hor h5 hF5
      obtain ⟨g1, g2⟩ := h5.booted
      refine ⟨?_, hF5.trans g2 (fun _ _ h => h)⟩
      rw [bootTo_all _ _ _ (by rw [List.length_zip]; omega)] at g1
      exact g1
    have Fin := hide fin
    clear fin
    by_cases hlt : k < D.waits.length
    · obtain ⟨g, cap, he, hcap⟩ := hI.wt.some_ (by show 0 < D.waits.length; omega)
      injection he with he hn hc
      subst he hc
      clear hn
      obtain ⟨e0, v, e1, hv⟩ := hI.wts k hlt
      have d0 := (hI.wt.cells (i := k * 2) (by show k * 2 < D.waits.length * 2; omega)).trans ((congrArg (ws[·]?) (Nat.mul_comm k 2)).trans e0)
      have d1 := (hI.wt.cells (i := k * 2 + 1) (by show k * 2 + 1 < D.waits.length * 2; omega)).trans ((congrArg (fun x => ws[x + 1]?) (Nat.mul_comm k 2)).trans e1)
      obtain ⟨A2, c2, rfl⟩ := hv.1.form
      have hi' : D.waits[k].1 < (bootTo D.waits how k D.blocks).length := by rw [bootTo_length]; exact h.ok.2.2.2.2 _ (List.getElem_mem _)
      generalize hat : D.waits[k].1 = at_ at *
      have Hat := hide hat
      clear hat
      by_cases hlt' : k < how.length
      · obtain ⟨b, off, cc, he, _, _, hb, hcell⟩ := (hr.frm hF (fun b hb hl => hd b hl hb)).byteAt hlt'
        injection he with he hn hc
        subst he hc
        clear hn
        obtain ⟨g0, cap0, rfl, hcap0⟩ := hI.bl.some_ (show 0 < (bootTo D.waits how k D.blocks).length by omega)
        have hstep := bootTo_succ D.waits how k hlt hlt' D.blocks
        generalize hx : how[k] = x at *
        have Hx := hide hx
        have Hs := hide hstep
        clear hx hstep
        have hx0 : (0 : Int) ≤ (x.toNat : Int) := Int.natCast_nonneg _
        have hx1 : (x.toNat : Int) ≤ 255 := by have := x.toNat_lt; omega
        have F2 := (hF.alloc (.cells #[.int .i64 (at_ : Nat), .slice A2 128 c2] 57))
        have h2 := hI.alloc (.cells #[.int .i64 (at_ : Nat), .slice A2 128 c2] 57)
        by_cases r1 : x.toNat % 3 = 1
        · have q1 : ((x.toNat : Int) % 3 == 1) = true := by simp; omega
          rw [show bootStep (bootTo D.waits how k D.blocks) (D.waits[k], x) = (bootTo D.waits how k D.blocks).set at_ (some D.waits[k].2) from by simp only [bootStep]; rw [if_pos r1, Hat.out]] at Hs
          clear r1
          go_wp2_with fail
          refine (Disk_land h2 at_ (.slice A2 128 c2) D.waits[k].2 hi' (hv.alloc _)).mono ?_
          rintro e w2 ⟨rfl, h3, hf3⟩
          have hF3 := F2.trans hf3 (fun _ _ h => h)
          go_wp2
          go_roundw
          case rel => exact ⟨k + 1, by omega, by omega, by go_num, _, by rw [Hs.out]; exact h3, hF3⟩
          case measure => simp [intOf]; omega
        · have q1 : ((x.toNat : Int) % 3 == 1) = false := by simp; omega
          by_cases r2 : x.toNat % 3 = 2
          · have q2 : ((x.toNat : Int) % 3 == 2) = true := by simp; omega
            rw [show bootStep (bootTo D.waits how k D.blocks) (D.waits[k], x) = (bootTo D.waits how k D.blocks).set at_ none from by simp only [bootStep]; rw [if_neg r1, if_pos r2, Hat.out]] at Hs
            clear r1 r2
            have hfin := ((hI.putBlock at_ hi' (.slice none 0 0) none rfl).alloc (.cells #[.int .i64 (at_ : Nat), .slice A2 128 c2] 57)).drew
            have hfr := ((hF.trans (hI.frmBlock at_ (.slice none 0 0)) (fun _ _ h => h)).alloc (.cells #[.int .i64 (at_ : Nat), .slice A2 128 c2] 57)).drew
            obtain ⟨cb, hcb⟩ : ∃ x, wr.cell? ⟨g0, at_, none⟩ = some x := by
              obtain ⟨x, e1, _⟩ := hI.bls at_ hi'
              exact ⟨x, (hI.bl.cell hi').trans e1⟩
            have hfz := hI.bl.frozen at_
            have hg := hI.bl.lt (g := g0) rfl
            have hp := hI.blk.lt
            have c0 := hI.blk.cell 0
            have hbn := hI.ok.2.2.1
            clear h2
            go_wp2
            go_region
            all_goals
              go_wp2
              go_roundw
              case rel => exact ⟨k + 1, by omega, by omega, by go_num, _, by rw [Hs.out]; exact hfin, hfr⟩
              case measure => simp [intOf]; omega
          · have q2 : ((x.toNat : Int) % 3 == 2) = false := by simp; omega
            rw [show bootStep (bootTo D.waits how k D.blocks) (D.waits[k], x) = bootTo D.waits how k D.blocks from by simp only [bootStep]; rw [if_neg r1, if_neg r2]] at Hs
            clear r1 r2
            go_wp2
            go_roundw
            case rel => exact ⟨k + 1, by omega, by omega, by go_num, _, by rw [Hs.out]; exact h2, F2⟩
            case measure => simp [intOf]; omega
      · obtain ⟨g1, g2⟩ := Fin.out _ (.inr (by omega)) (hI.alloc (.cells #[.int .i64 (at_ : Nat), .slice A2 128 c2] 57)) (hF.alloc _)
        have f1 := (hI.alloc (.cells #[.int .i64 (at_ : Nat), .slice A2 128 c2] 57)).blk.frozen
        have b1 := (hI.alloc (.cells #[.int .i64 (at_ : Nat), .slice A2 128 c2] 57)).blk.cell
        clear Fin
        go_wp2
        go_end0
        exact ⟨rfl, g1, g2⟩
    · obtain ⟨g1, g2⟩ := Fin.out _ (.inl (by omega)) hI hF
      have f1 := hI.blk.frozen
      have b1 := hI.blk.cell
      obtain rfl : k = D.waits.length := by omega
      clear Fin
      go_wp2
      go_end0
      exact ⟨rfl, g1, g2⟩
end
end Go.Proofs.Ytablmgnhpciljaa
