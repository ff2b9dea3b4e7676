/- Disk: Burst. -/
import Derived.Test.YtablmgnhpciljaaDkg
namespace Go.Proofs.Ytablmgnhpciljaa
open Go.RowKit

theorem xor_u8 (a b : UInt8) : bits .xor .u8 (a.toNat : Int) (b.toNat : Int) = ((a ^^^ b).toNat : Int) := by
  have h1 : ∀ c : UInt8, BitVec.ofInt 8 (c.toNat : Int) = c.toBitVec := fun c => by
    rw [BitVec.ofInt_natCast]
    apply BitVec.eq_of_toNat_eq
    rw [BitVec.toNat_ofNat]
    exact Nat.mod_eq_of_lt c.toNat_lt
  show IntKind.u8.wrap ((BitVec.ofInt 8 (a.toNat : Int) ^^^ BitVec.ofInt 8 (b.toNat : Int)).toNat : Int) = _
  rw [h1, h1]
  have h2 := (a ^^^ b).toNat_lt
  have h3 : (a.toBitVec ^^^ b.toBitVec).toNat = (a ^^^ b).toNat := rfl
  rw [h3]
  simp only [IntKind.wrap_u8]
  omega

/-- The k-th byte of a burst turns a cell. -/
def xorCell (x : UInt32) (k : Nat) (v : Value) : Value := match v with | .int .u8 b => .int .u8 (bits .xor .u8 b ((x.toNat : Int) / 2 ^ (8 * k) % 256)) | v => v
theorem xorCell_byte (x : UInt32) (k : Nat) (y : UInt8) : isByte (xorCell x k (.int .u8 (y.toNat : Int))) := by
  refine ⟨y ^^^ UInt8.ofNat (x.toNat / 2 ^ (8 * k)), ?_⟩
  simp only [xorCell]
  rw [← xor_u8]
  congr 2
def burstTo (x : UInt32) (at_ : Nat) : Nat → List Value → List Value
  | 0, l => l
  | k + 1, l => (burstTo x at_ k l).modify (at_ + k) (xorCell x k)
theorem burstTo_is (x : UInt32) (at_ : Nat) (k : Nat) (l : List Value) (h : isBlock l) : isBlock (burstTo x at_ k l) := by
  induction k with
  | zero => exact h
  | succ k ih =>
    refine ⟨by simp [burstTo, ih.1], fun v hv => ?_⟩
    simp only [burstTo] at hv
    obtain ⟨j, hj, rfl⟩ := List.mem_iff_getElem.1 hv
    rw [List.getElem_modify]
    have hj' : j < (burstTo x at_ k l).length := by simpa using hj
    obtain ⟨y, hy⟩ := ih.2 _ (List.getElem_mem hj')
    split
    · rw [hy]; exact xorCell_byte x k y
    · exact ⟨y, hy⟩
theorem burstTo_succ_set (x : UInt32) (at_ : Nat) (k : Nat) (l : List Value) (y : UInt8) (h : at_ + k < (burstTo x at_ k l).length) (hy : (burstTo x at_ k l)[at_ + k] = .int .u8 (y.toNat : Int)) :
    (burstTo x at_ k l).set (at_ + k) (.int .u8 (bits .xor .u8 (y.toNat : Int) ((x.toNat : Int) / 2 ^ (8 * k) % 256))) = burstTo x at_ (k + 1) l := by
  simp only [burstTo]
  apply List.ext_getElem
  · simp
  · intro j h1 h2
    rw [List.getElem_set, List.getElem_modify]
    split
    · subst_vars
      rw [hy]
      rfl
    · rfl

/-- What becomes of the disk. -/
def ADisk.burst (D : ADisk) (i at_ : Int) (x : UInt32) : ADisk × Bool :=
  if 0 ≤ i ∧ i < D.blocks.length ∧ 0 ≤ at_ ∧ at_ ≤ 124 ∧ D.waits.length = 0 then
    ({ D with blocks := D.blocks.modify i.toNat (Option.map (burstTo x at_.toNat 4)) }, true)
  else (D, false)

section
variable {w : World} {p : Nat} {S F G : Nat → Prop} {D : ADisk} {bv wv : Value} {bs ws : List Value}

set_option maxHeartbeats 1000000 in
/-- A burst of a block that is there. -/
theorem Disk_Burst_yes (h : DiskAt w p S F D) (i at_ : Nat) (x : UInt32) (l : List Value) (hi : i < D.blocks.length) (hb : D.blocks[i] = some l) (hat : at_ ≤ 124) (hw : D.waits.length = 0) :
    Calls Try.prog 14 #[.pointer (some ⟨p, 0, none⟩), .int .i64 (i : Nat), .int .i64 (at_ : Nat), .int .u32 (x.toNat : Int)] w fun e w' =>
      e = .returned (.bool true) ∧ DiskAt w' p S (OrB F (NewB w w')) { D with blocks := D.blocks.set i (some (burstTo x at_ 4 l)) } ∧ Frm S w w' := by
  have hhas : decide (0 ≤ (i : Int) ∧ (i : Int) < D.blocks.length) = true := by simp [hi]
  go_enter Try.func14, Try.ntmps14
  go_wp2_with fail
  refine (Disk_has h i).mono ?_
  rintro e w' ⟨rfl, rfl⟩
  rw [hhas]
  clear hhas
  obtain ⟨bv, wv, bs, ws, h⟩ := h
  obtain ⟨g, cap, rfl, hcap⟩ := h.bl.some_ h.ok.2.2.2.1
  obtain ⟨A, c, e⟩ := h.wt.form
  rw [hw] at e
  subst e
  have c0 := h.blk.cell 0
  have c1 := h.blk.cell 1
  have hbn := h.ok.2.2.1
  obtain ⟨v, e1, hv⟩ := h.bls i hi
  rw [hb] at hv
  obtain ⟨A2, k2, rfl⟩ := hv.1.form
  have d0 := (h.bl.cell hi).trans e1
  have hg := h.bl.lt (g := g) rfl
  have hrv := hv.1.rd
  obtain ⟨g2, cap2, e2, hcap2⟩ := hv.1.some_ (by omega)
  injection e2 with e2 _ e3
  subst e2 e3
  have hnil : ∀ (a : Addr) (n c : Nat) (w : World), (binOp .eql 28 (.slice (some a) n c) (.slice none 0 0)).run Try.prog w = .ok (.bool false) w := fun _ _ _ _ => rfl
  have hone : ∀ u ∈ l, u.oneCell' = true := by
    intro u hu
    obtain ⟨x, rfl⟩ := hv.2.2 u hu
    rfl
  have hlb := hv.2
  have q1 : decide ((at_ : Int) < 0) = false := by simp
  have q2 : decide ((124 : Int) < (at_ : Int)) = false := by simp; omega
  have Hw := hide hw
  have Hb := hide hb
  clear hw hb hv
  go_wp2_with fail
  refine (clone_bytes _ F _ 128 l hrv hone (by omega) (fun _ h => by cases h)).mono ?_
  rintro e w1 ⟨b1, rfl, _, ho1, hf1⟩
  obtain ⟨g3, cap3, rfl, hcap3⟩ := ho1.some_ (by omega)
  have hg3 : w.heap.size ≤ g3 := (ho1.2 g3 rfl).1
  go_wp2_with fail
  go_loopw [47] (fun i wr => ∃ k : Nat, k ≤ 4 ∧ i = .int .i64 k ∧ Own wr (fun g => g = g3) 5 1 (.slice (some ⟨g3, 0, none⟩) 128 cap3) 128 (burstTo x at_ k l) ∧ Frm NoB w wr) (fun i _ => 4 - (intOf i).toNat)
  case atStart => exact ⟨0, by omega, rfl, ho1.at_.mono (fun b _ hb => by simp [Value.ownBlock] at hb; exact hb.symm), hf1⟩
  case round =>
    obtain ⟨k, hk, rfl, hI, hF⟩ := hrel
    by_cases hlt : k < 4
    · have hp : at_ + k < 128 := by omega
      have hl' := burstTo_is x at_ k l hlb
      have hjl : at_ + k < (burstTo x at_ k l).length := by rw [hl'.1]; exact hp
      obtain ⟨y, hy⟩ := hl'.2 _ (List.getElem_mem hjl)
      have d1 := (hI.cell hp).trans ((List.getElem?_eq_getElem hjl).trans (congrArg some hy))
      have df := hI.frozen (at_ + k)
      have hI2 := hI.set_ (g := g3) rfl hp (.int .u8 (bits .xor .u8 (y.toNat : Int) ((x.toNat : Int) / 2 ^ (8 * k) % 256)))
      rw [burstTo_succ_set x at_ k l y hjl hy] at hI2
      have hF2 := hF.setCell (p := ⟨g3, at_ + k, none⟩) (fun h => absurd h (by show ¬ g3 < w.heap.size; omega)) (.int .u8 (bits .xor .u8 (y.toNat : Int) ((x.toNat : Int) / 2 ^ (8 * k) % 256)))
      clear hy
      go_wp2
      exact ⟨⟨k + 1, by omega, by go_num, hI2, hF2⟩, by simp [intOf]; omega⟩
    · obtain rfl : k = 4 := by omega
      have h4 := h.keep (w' := wr) (fun b _ hl => hF.block b hl (fun h => h))
      have hv4 : BlockIs wr (OrB F (NewB w wr)) (.slice (some ⟨g3, 0, none⟩) 128 cap3) (some (burstTo x at_ 4 l)) :=
        ⟨hI.mono fun b hl hb => by subst hb; exact .inr ⟨hg3, hl⟩, burstTo_is x at_ 4 l hlb⟩
      have hfin := (h4.mono (T := S) (G := OrB F (NewB w wr)) (fun _ _ h => h) (fun _ _ h => .inl h)).putBlock i hi _ _ hv4
      have hfr := hF.mono (T := S) (fun _ _ h => h.elim) |>.setCell (p := ⟨g, i, none⟩) (fun _ => h.bl.2 g rfl) (.slice (some ⟨g3, 0, none⟩) 128 cap3)
      have c0' := h4.blk.cell 0
      have d0' := (h4.bl.cell hi).trans e1
      have df := h4.bl.frozen i
      clear h4 hv4
      go_wp2
      go_ret
      exact ⟨rfl, DiskAt.mono ⟨_, _, _, _, hfin⟩ (fun _ _ h => h) (fun b _ hb => by simpa [OrB, NewB] using hb), hfr⟩

/-- A burst of a torn block: nothing. -/
theorem Disk_Burst_torn (h : DiskAt w p S F D) (i at_ : Nat) (x : UInt32) (hi : i < D.blocks.length) (hb : D.blocks[i] = none) (hat : at_ ≤ 124) (hw : D.waits.length = 0) :
    Calls Try.prog 14 #[.pointer (some ⟨p, 0, none⟩), .int .i64 (i : Nat), .int .i64 (at_ : Nat), .int .u32 (x.toNat : Int)] w fun e w' => e = .returned (.bool true) ∧ w = w' := by
  have hhas : decide (0 ≤ (i : Int) ∧ (i : Int) < D.blocks.length) = true := by simp [hi]
  go_enter Try.func14, Try.ntmps14
  go_wp2_with fail
  refine (Disk_has h i).mono ?_
  rintro e w' ⟨rfl, rfl⟩
  rw [hhas]
  clear hhas
  obtain ⟨bv, wv, bs, ws, h⟩ := h
  obtain ⟨g, cap, rfl, hcap⟩ := h.bl.some_ h.ok.2.2.2.1
  obtain ⟨A, c, e⟩ := h.wt.form
  rw [hw] at e
  subst e
  have c0 := h.blk.cell 0
  have c1 := h.blk.cell 1
  have hbn := h.ok.2.2.1
  obtain ⟨v, e1, hv⟩ := h.bls i hi
  rw [hb] at hv
  obtain rfl : v = .slice none 0 0 := hv
  have d0 := (h.bl.cell hi).trans e1
  have hnil : ∀ (w : World), (binOp .eql 28 (.slice none 0 0) (.slice none 0 0)).run Try.prog w = .ok (.bool true) w := fun _ => rfl
  have q1 : decide ((at_ : Int) < 0) = false := by simp
  have q2 : decide ((124 : Int) < (at_ : Int)) = false := by simp; omega
  clear hw hb
  go_wp2
  go_ret
  exact ⟨rfl, rfl⟩

/-- A burst that can't be. -/
theorem Disk_Burst_bad (h : DiskAt w p S F D) (i at_ : Int) (x : UInt32) (hlen : D.waits.length ≤ 1099511627776) (hno : ¬ (0 ≤ i ∧ i < D.blocks.length ∧ 0 ≤ at_ ∧ at_ ≤ 124 ∧ D.waits.length = 0)) :
    Calls Try.prog 14 #[.pointer (some ⟨p, 0, none⟩), .int .i64 i, .int .i64 at_, .int .u32 (x.toNat : Int)] w fun e w' => e = .returned (.bool false) ∧ w = w' := by
  by_cases hh : 0 ≤ i ∧ i < D.blocks.length
  · have hhas : decide (0 ≤ i ∧ i < D.blocks.length) = true := by simpa using hh
    have hno2 : ¬ (0 ≤ at_ ∧ at_ ≤ 124 ∧ D.waits.length = 0) := fun hx => hno ⟨hh.1, hh.2, hx⟩
    clear hno
    by_cases ha : at_ < 0
    · clear hno2
      go_enter Try.func14, Try.ntmps14
      go_wp2_with fail
      refine (Disk_has h i).mono ?_
      rintro e w' ⟨rfl, rfl⟩
      rw [hhas]
      clear hhas hh
      go_wp2
      go_ret
      exact ⟨rfl, rfl⟩
    · by_cases hb : 124 < at_
      · have q1 : decide (at_ < 0) = false := by simp; omega
        clear hno2
        go_enter Try.func14, Try.ntmps14
        go_wp2_with fail
        refine (Disk_has h i).mono ?_
        rintro e w' ⟨rfl, rfl⟩
        rw [hhas]
        clear hhas hh
        go_wp2
        go_ret
        exact ⟨rfl, rfl⟩
      · have q1 : decide (at_ < 0) = false := by simp; omega
        have q2 : decide (124 < at_) = false := by simp; omega
        have q3 : 0 < D.waits.length := by omega
        clear hno2
        obtain ⟨bv, wv, bs, ws, h0⟩ := id h
        obtain ⟨A, c, e⟩ := h0.wt.form
        have c1 := h0.blk.cell 1
        subst e
        clear h0
        go_enter Try.func14, Try.ntmps14
        go_wp2_with fail
        refine (Disk_has h i).mono ?_
        rintro e w' ⟨rfl, rfl⟩
        rw [hhas]
        clear hhas hh
        go_wp2
        go_ret
        exact ⟨rfl, rfl⟩
  · have hhas : decide (0 ≤ i ∧ i < D.blocks.length) = false := by simpa using hh
    clear hno
    go_enter Try.func14, Try.ntmps14
    go_wp2_with fail
    refine (Disk_has h i).mono ?_
    rintro e w' ⟨rfl, rfl⟩
    rw [hhas]
    clear hhas hh
    go_wp2
    go_ret
    exact ⟨rfl, rfl⟩

theorem Disk_Burst (h : DiskAt w p S F D) (i at_ : Int) (x : UInt32) (hlen : D.waits.length ≤ 1099511627776) :
    Calls Try.prog 14 #[.pointer (some ⟨p, 0, none⟩), .int .i64 i, .int .i64 at_, .int .u32 (x.toNat : Int)] w fun e w' =>
      e = .returned (.bool (D.burst i at_ x).2) ∧ DiskAt w' p S (OrB F (NewB w w')) (D.burst i at_ x).1 ∧ Frm S w w' := by
  by_cases hg : 0 ≤ i ∧ i < D.blocks.length ∧ 0 ≤ at_ ∧ at_ ≤ 124 ∧ D.waits.length = 0
  · have e : D.burst i at_ x = ({ D with blocks := D.blocks.modify i.toNat (Option.map (burstTo x at_.toNat 4)) }, true) := by unfold ADisk.burst; rw [if_pos hg]
    rw [e]
    obtain ⟨h0, h1, h2, h3, h4⟩ := hg
    obtain ⟨i, rfl⟩ := Int.eq_ofNat_of_zero_le h0
    obtain ⟨at_, rfl⟩ := Int.eq_ofNat_of_zero_le h2
    have hi : i < D.blocks.length := by omega
    simp only [Int.toNat_natCast]
    cases hb : D.blocks[i] with
    | none =>
      have e2 : D.blocks.modify i (Option.map (burstTo x at_ 4)) = D.blocks := by
        apply List.ext_getElem
        · simp
        · intro j h1 h2
          rw [List.getElem_modify]
          split
          · subst_vars; rw [hb]; rfl
          · rfl
      rw [e2]
      refine (Disk_Burst_torn h i at_ x hi hb (by omega) h4).mono ?_
      rintro e w' ⟨rfl, rfl⟩
      exact ⟨rfl, h.mono (fun _ _ h => h) (fun _ _ h => .inl h), Frm.refl _ _⟩
    | some l =>
      have e2 : D.blocks.modify i (Option.map (burstTo x at_ 4)) = D.blocks.set i (some (burstTo x at_ 4 l)) := by
        apply List.ext_getElem
        · simp
        · intro j h1 h2
          rw [List.getElem_modify, List.getElem_set]
          split
          · subst_vars; rw [hb]; rfl
          · rfl
      rw [e2]
      exact Disk_Burst_yes h i at_ x l hi hb (by omega) h4
  · have e : D.burst i at_ x = (D, false) := by unfold ADisk.burst; rw [if_neg hg]
    rw [e]
    refine (Disk_Burst_bad h i at_ x hlen hg).mono ?_
    rintro e w' ⟨rfl, rfl⟩
    exact ⟨rfl, h.mono (fun _ _ h => h) (fun _ _ h => .inl h), Frm.refl _ _⟩
end
end Go.Proofs.Ytablmgnhpciljaa
