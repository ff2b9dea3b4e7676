/- The reference's Burst. -/
import Derived.Test.YtablmgnhpciljaaDre
namespace Go.Proofs.Ytablmgnhpciljaa
open Go.RowKit

section
variable {w w' : World} {p : Nat} {S F G T : Nat → Prop} {D : ADisk} {bv dv av wv v : Value} {bs ds as_ ws : List Value}

/-- A block's bytes are turned. -/
theorem RefIn.putB {g cap m : Nat} (h : RefIn w p S F D (.slice (some ⟨g, 0, none⟩) m cap) dv av wv bs ds as_ ws) (i : Nat) (hi : i < D.blocks.length) (v : Value) (l : List Value) (b : Bool) (hb : ds[i]? = some (.bool b)) (hv : BlockIs w F v (some l)) :
    RefIn (w.setCell ⟨g, i, none⟩ v) p S F { D with blocks := D.blocks.set i (if b = true then none else some l) } (.slice (some ⟨g, 0, none⟩) m cap) dv av wv (bs.set i v) ds as_ ws := by
  obtain ⟨cs, hcs⟩ := h.bl.type (g := g) rfl
  have hc : ∀ (x : Value) (o : Option (List Value)), BlockIs w F x o → BlockIs (w.setCell ⟨g, i, none⟩ v) F x o := fun x o hx => hx.put hcs (by decide) i v
  have hbl : bs.length = D.blocks.length := by have := h.bl.1.1; omega
  refine ⟨(Below.heap_setCell _ _ _ _ (type_ne h.blk hcs (by decide))).trans h.blk, h.own, ?_, ?_, h.at_.putOther hcs (by decide) v, h.wt.keepAt fun k hk => Below.heap_setCell _ _ _ _ ?_, h.ne, ?_, ?_, ?_⟩
  · rw [List.length_set]
    exact h.bl.set_ rfl hi v
  · rw [List.length_set]
    exact h.bd.putOther hcs (by decide) v
  · rintro rfl
    exact h.ne _ rfl hk
  · intro j hj
    rw [List.length_set] at hj
    by_cases e : i = j
    · subst e
      exact ⟨v, l, b, by rw [List.getElem?_set_self (by omega)], hb, hc _ _ hv, by rw [List.getElem_set_self]⟩
    · obtain ⟨x, l', b', e1, e2, hx, e3⟩ := h.bls j hj
      exact ⟨x, l', b', by rw [List.getElem?_set_ne e]; exact e1, e2, hc _ _ hx, by rw [List.getElem_set_ne e]; exact e3⟩
  · intro j hj
    obtain ⟨e0, x, e1, hx⟩ := h.wts j hj
    exact ⟨e0, x, e1, hc _ _ hx⟩
  · obtain ⟨k1, k2, k3, k4, k5⟩ := h.ok
    exact ⟨k1, k2, by simpa using k3, by simpa using k4, fun x hx => by simpa using k5 x hx⟩

set_option maxHeartbeats 2000000 in
theorem Ref_Burst_yes (h : RefAt w p S F D) (i at_ : Nat) (x : UInt32) (hi : i < D.blocks.length) (hat : at_ ≤ 124) (hw : D.waits.length = 0) :
    Calls Try.prog 15 #[.pointer (some ⟨p, 0, none⟩), .int .i64 (i : Nat), .int .i64 (at_ : Nat), .int .u32 (x.toNat : Int)] w fun e w' =>
      e = .returned (.bool true) ∧ RefAt w' p S (OrB F (NewB w w')) { D with blocks := D.blocks.modify i (Option.map (burstTo x at_ 4)) } ∧ Frm S w w' := by
  obtain ⟨bv, dv, av, wv, bs, ds, as_, ws, h⟩ := h
  obtain ⟨g, cap, rfl, hcap⟩ := h.bl.some_ h.ok.2.2.2.1
  obtain ⟨Aa, ca, e⟩ := h.at_.form
  rw [hw] at e
  subst e
  obtain ⟨i5, hi5, hz50, hz51, hz52⟩ := info_parts Try.info5
  have c0 := h.blk.cell 0
  have c2 := h.blk.cell 2
  have hp := h.blk.lt
  have hbn := h.ok.2.2.1
  obtain ⟨v, l, b, e1, e2, hv, e3⟩ := h.bls i hi
  obtain ⟨A2, k2, rfl⟩ := hv.1.form
  have d0 := (h.bl.cell hi).trans e1
  have hg := h.bl.lt (g := g) rfl
  have hrv := hv.1.rd
  have hone : ∀ u ∈ l, u.oneCell' = true := by
    intro u hu
    obtain ⟨x, rfl⟩ := hv.2.2 u hu
    rfl
  have hlb := hv.2
  have hblocks : D.blocks.modify i (Option.map (burstTo x at_ 4)) = D.blocks.set i (if b = true then none else some (burstTo x at_ 4 l)) := by
    apply List.ext_getElem
    · simp
    · intro j h1 h2
      rw [List.getElem_modify, List.getElem_set]
      split
      · subst_vars; rw [e3]; cases b <;> rfl
      · rfl
  have Hb := hide hblocks
  have Hw := hide hw
  have hN : Frm NoB w w := Frm.refl _ _
  have q1 : decide ((at_ : Int) < 0) = false := by simp
  have q2 : decide ((124 : Int) < (at_ : Int)) = false := by simp; omega
  have q3 : decide ((i : Int) < 0) = false := by simp
  have q4 : decide ((D.blocks.length : Int) ≤ (i : Int)) = false := by simp; omega
  clear hw e3 hv hblocks
  go_enter Try.func15, Try.ntmps15
  go_wp2_with (at_builtin; refine wpList_new rfl (.tmp 38) (.tmp 45) 28 rfl w (hN.alloc _) 5 i5 _ 1 1 Try.underlying28 hi5 hz50 hz51 hz52 rfl (by omega) (.slice (some ⟨w.heap.size, 0, none⟩) 0 0) 0 [] rfl (own_lit0G (Nat.le_refl _) 5 1) F (.slice A2 128 k2) 128 l rfl (hrv.frm (hN.alloc _) (fun _ _ _ h => h)) hone (by simp only [maxLen]; omega) (by omega) ?_; intro v1 w1 ho1 hf1 _; simp only [Nat.zero_add, List.nil_append] at ho1; obtain ⟨g3, cap3, rfl, hcap3⟩ := ho1.some_ (by omega))
  have hg3 : w.heap.size ≤ g3 := ho1.2 g3 rfl
  go_loopw [47] (fun i wr => ∃ k : Nat, k ≤ 4 ∧ i = .int .i64 k ∧ Own wr (fun g => g = g3) 5 1 (.slice (some ⟨g3, 0, none⟩) 128 cap3) 128 (burstTo x at_ k l) ∧ Frm NoB w wr) (fun i _ => 4 - (intOf i).toNat)
  case atStart => exact ⟨0, by omega, rfl, ho1.at_.mono (fun b _ hb => by simp [Value.ownBlock] at hb; exact hb.symm), hf1⟩
  case round =>
    obtain ⟨k, hk, rfl, hI, hF⟩ := hrel
    by_cases hlt : k < 4
    · have hp : at_ + k < 128 := by omega
      have hl' := burstTo_is x at_ k l hlb
      have hjl : at_ + k < (burstTo x at_ k l).length := by rw [hl'.1]; exact hp
      obtain ⟨y, hy⟩ := hl'.2 _ (List.getElem_mem hjl)
      have d1 := (hI.cell hp).trans ((List.getElem?_eq_getElem hjl).trans (congrArg some hy))
      have df := hI.frozen (at_ + k)
      have hI2 := hI.set_ (g := g3) rfl hp (.int .u8 (bits .xor .u8 (y.toNat : Int) ((x.toNat : Int) / 2 ^ (8 * k) % 256)))
      rw [burstTo_succ_set x at_ k l y hjl hy] at hI2
      have hF2 := hF.setCell (p := ⟨g3, at_ + k, none⟩) (fun h => absurd h (by show ¬ g3 < w.heap.size; omega)) (.int .u8 (bits .xor .u8 (y.toNat : Int) ((x.toNat : Int) / 2 ^ (8 * k) % 256)))
      clear hy
      go_wp2
      go_region
      all_goals go_wp2
      all_goals exact ⟨⟨k + 1, by omega, by go_num, hI2.keep (fun _ _ _ => rfl), hF2.drew⟩, by simp [intOf]; omega⟩
    · obtain rfl : k = 4 := by omega
      have h4 := (h.frm hF).mono (T := S) (G := OrB F (NewB w wr)) (fun _ _ h => h) (fun _ _ h => .inl h)
      have hfin := h4.putB i hi _ (burstTo x at_ 4 l) b e2 ⟨hI.mono fun b hl hb => by subst hb; exact .inr ⟨hg3, hl⟩, burstTo_is x at_ 4 l hlb⟩
      have hfr := hF.mono (T := S) (fun _ _ h => h.elim) |>.setCell (p := ⟨g, i, none⟩) (fun _ => h.bl.2 g rfl) (.slice (some ⟨g3, 0, none⟩) 128 cap3)
      have c0' := h4.blk.cell 0
      have d0' := (h4.bl.cell hi).trans e1
      have df := h4.bl.frozen i
      clear h4
      go_wp2
      go_ret
      rw [Hb.out]
      exact ⟨rfl, RefAt.mono ⟨_, _, _, _, _, _, _, _, hfin⟩ (fun _ _ h => h) (fun b _ hb => by simpa [OrB, NewB] using hb), hfr⟩

theorem Ref_Burst_bad (h : RefAt w p S F D) (i at_ : Int) (x : UInt32) (hlen : D.waits.length ≤ 1099511627776) (hno : ¬ (0 ≤ i ∧ i < D.blocks.length ∧ 0 ≤ at_ ∧ at_ ≤ 124 ∧ D.waits.length = 0)) :
    Calls Try.prog 15 #[.pointer (some ⟨p, 0, none⟩), .int .i64 i, .int .i64 at_, .int .u32 (x.toNat : Int)] w fun e w' => e = .returned (.bool false) ∧ w = w' := by
  obtain ⟨bv, dv, av, wv, bs, ds, as_, ws, h⟩ := h
  have c0 := h.blk.cell 0
  have c2 := h.blk.cell 2
  obtain ⟨Ab, cb, rfl⟩ := h.bl.form
  obtain ⟨Aa, ca, rfl⟩ := h.at_.form
  have hbn := h.ok.2.2.1
  clear h
  by_cases h1 : i < 0
  · clear hno
    go_enter Try.func15, Try.ntmps15
    go_wp2
    go_ret
    exact ⟨rfl, rfl⟩
  · have q1 : decide (i < 0) = false := by simp; omega
    by_cases h2 : (D.blocks.length : Int) ≤ i
    · clear hno
      go_enter Try.func15, Try.ntmps15
      go_wp2
      go_ret
      exact ⟨rfl, rfl⟩
    · have q2 : decide ((D.blocks.length : Int) ≤ i) = false := by simp; omega
      by_cases h3 : at_ < 0
      · clear hno
        go_enter Try.func15, Try.ntmps15
        go_wp2
        go_ret
        exact ⟨rfl, rfl⟩
      · have q3 : decide (at_ < 0) = false := by simp; omega
        by_cases h4 : 124 < at_
        · clear hno
          go_enter Try.func15, Try.ntmps15
          go_wp2
          go_ret
          exact ⟨rfl, rfl⟩
        · have q4 : decide (124 < at_) = false := by simp; omega
          have q5 : 0 < D.waits.length := by omega
          clear hno
          go_enter Try.func15, Try.ntmps15
          go_wp2
          go_ret
          exact ⟨rfl, rfl⟩

theorem Ref_Burst (h : RefAt w p S F D) (i at_ : Int) (x : UInt32) (hlen : D.waits.length ≤ 1099511627776) :
    Calls Try.prog 15 #[.pointer (some ⟨p, 0, none⟩), .int .i64 i, .int .i64 at_, .int .u32 (x.toNat : Int)] w fun e w' =>
      e = .returned (.bool (D.burst i at_ x).2) ∧ RefAt w' p S (OrB F (NewB w w')) (D.burst i at_ x).1 ∧ Frm S w w' := by
  by_cases hg : 0 ≤ i ∧ i < D.blocks.length ∧ 0 ≤ at_ ∧ at_ ≤ 124 ∧ D.waits.length = 0
  · have e : D.burst i at_ x = ({ D with blocks := D.blocks.modify i.toNat (Option.map (burstTo x at_.toNat 4)) }, true) := by unfold ADisk.burst; rw [if_pos hg]
    rw [e]
    obtain ⟨h0, h1, h2, h3, h4⟩ := hg
    obtain ⟨i, rfl⟩ := Int.eq_ofNat_of_zero_le h0
    obtain ⟨at_, rfl⟩ := Int.eq_ofNat_of_zero_le h2
    exact Ref_Burst_yes h i at_ x (by omega) (by omega) h4
  · have e : D.burst i at_ x = (D, false) := by unfold ADisk.burst; rw [if_neg hg]
    rw [e]
    refine (Ref_Burst_bad h i at_ x hlen hg).mono ?_
    rintro e w' ⟨rfl, rfl⟩
    exact ⟨rfl, h.mono (fun _ _ h => h) (fun _ _ h => .inl h), Frm.refl _ _⟩
end
end Go.Proofs.Ytablmgnhpciljaa
