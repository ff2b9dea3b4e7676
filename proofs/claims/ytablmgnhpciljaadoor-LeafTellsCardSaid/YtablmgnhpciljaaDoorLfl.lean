/- The reference's GetLeaf. -/
import Derived.Test.YtablmgnhpciljaaDoorLfk
import Derived.Test.YtablmgnhpciljaaDoorReg
import Derived.Deep.DrawnRows
namespace Go.Proofs.YtablmgnhpciljaaDoor
open Go.RowKit

/-- A piece of a row of bytes. -/
theorem BRd.piece {w : World} {F : Nat → Prop} {b o n c : Nat} {l : List UInt8} (hr : BRd w F (.slice (some ⟨b, o, none⟩) n c) l) (k m : Nat) (hk : k ≤ m) (hm : m ≤ l.length) (c' d : Nat) (hd : d = m - k) (hc : d ≤ c') :
    BRd w F (.slice (some ⟨b, o + k, none⟩) d c') ((l.take m).drop k) := by
  obtain ⟨h1, A, c0, hv, hc0, h2⟩ := hr
  injection hv with hA hn hcc
  subst hA hcc
  have hl : ((l.take m).drop k).length = d := by rw [List.length_drop, List.length_take, Nat.min_eq_left hm]; exact hd.symm
  refine ⟨by simp, _, c', by rw [hl], by rw [hl]; exact hc, fun hp => ?_⟩
  rw [hl] at hp
  obtain ⟨b', off, hb, hF, hlt, hx⟩ := h2 (by omega)
  injection hb with hb
  injection hb with hb hb2
  subst hb hb2
  refine ⟨b, o + k, rfl, hF, hlt, fun j u hu => ?_⟩
  rw [Nat.add_assoc]
  refine hx (k + j) u ?_
  rw [List.map_drop, List.getElem?_drop, List.map_take, List.getElem?_take] at hu
  split at hu
  · exact hu
  · cases hu
theorem num_two (b : List UInt8) (k : Nat) (h : k + 1 < b.length) : numB ((b.take (k + 2)).drop k) = two8 b k := by
  have e : (b.take (k + 2)).drop k = [b[k], b[k + 1]] := by
    apply List.ext_getElem
    · simp; omega
    · intro j h1 h2
      have hj : j = 0 ∨ j = 1 := by simp at h2; omega
      rcases hj with rfl | rfl <;> simp
  rw [e]
  simp [numB, two8, at8_eq b k (by omega), at8_eq b (k + 1) h]
theorem quiet_left {P : Program} {f : FuncId} {args : Array Value} {w : World} {n : Nat} {v : Value}
    (h : Calls P f args (w.drewN n) fun e w' => e = .returned v ∧ w.drewN n = w') : Calls P f args (w.drewN n) fun e w' => e = .returned v ∧ ∃ m, w' = w.drewN m :=
  h.mono fun _ _ ⟨he, hm⟩ => ⟨he, n, hm.symm⟩

/-- The leaf, its bytes copied up to k. -/
def partl (b : List UInt8) (k : Nat) : ALeaf := { decode b with load := b.take k ++ List.replicate (116 - k) 0 }
theorem partl_zero (b : List UInt8) : partl b 0 = bare b := by simp [partl, bare]
theorem partl_full (b : List UInt8) : partl b 116 = decode b := by simp [partl, decode]
theorem partl_ok {b : List UInt8} (h : b.length = 128) {k : Nat} (hk : k ≤ 116) : (partl b k).ok := by
  have h0 := decode_ok h
  refine ⟨?_, h0.kind, h0.file, h0.place, h0.next, h0.size⟩
  simp [partl, h]
  omega
theorem partl_succ {b : List UInt8} (h : b.length = 128) {k : Nat} (hk : k < 116) : (partl b k).cells.setIfInBounds (5 + k) (byt (b[k]'(by omega))) = (partl b (k + 1)).cells := by
  have hkb : k < b.length := by omega
  have e : (b.take k ++ List.replicate (116 - k) 0).set k (b[k]'hkb) = b.take (k + 1) ++ List.replicate (116 - (k + 1)) 0 := by
    have hl : (b.take k).length = k := by simp; omega
    rw [List.set_append_right _ _ (by omega), hl, Nat.sub_self, show 116 - k = (116 - (k + 1)) + 1 by omega, List.replicate_succ, List.set_cons_zero, List.take_succ_eq_append_getElem hkb, List.append_assoc]
    rfl
  unfold ALeaf.cells partl
  rw [show (5 + k) = k + 1 + 1 + 1 + 1 + 1 by omega]
  simp only [List.setIfInBounds_toArray, List.set_cons_succ]
  rw [← List.map_set, e]
set_option maxRecDepth 1000000 in
set_option maxHeartbeats 2000000 in
theorem GetLeaf_128 (bs : List UInt8) (v : Value) (w : World) {F : Nat → Prop} (hr : BRd w F v bs) (hl : bs.length = 128) :
    Calls Tryd.prog 12 #[v] w fun e w' => e = .returned (.tuple #[.agg (leafOf (getL bs)).cells, .bool (getL bs).isSome]) ∧ Frm NoB w w' := by
  obtain ⟨A, c, rfl, hc⟩ := hr.form
  rw [hl] at hc
  rw [show (.slice A bs.length c : Value) = .slice A 128 c from by rw [hl]] at hr ⊢
  obtain ⟨b1, o1, c1, e1, _, _, hlt1, hx1⟩ := Rd.byteAt hr (k := 0) (by omega)
  clear hx1
  injection e1 with hA1 hn1 hc1
  clear hn1
  subst hA1 hc1
  have q0 : ((128 : Int) != 128) = false := by simp
  have hc124 : ¬ c = 124 := by omega
  have hcI : (128 : Int) ≤ c := by omega
  go_enter Tryd.func12, Tryd.ntmps12
  go_upto_region 1 with (fail)
  obtain ⟨W, hW⟩ : ∃ W, w.alloc (.cells Tryd.zeroCells24 24) = W := ⟨_, rfl⟩
  obtain ⟨b0, hb0⟩ : ∃ b0, w.heap.size = b0 := ⟨_, rfl⟩
  have hF : Frm NoB w W := hW ▸ (Frm.refl NoB w).alloc _
  have hB0 : Blk W b0 24 Tryd.zeroCells24 := by rw [← hW, ← hb0]; exact Blk.new w _ _
  rw [hW, hb0]
  clear hW
  have hrW := hr.frm hF
  have rd : ∀ W', Frm NoB W W' → ∀ k m, k ≤ m → m ≤ 128 → ∀ c' d, d = m - k → d ≤ c' → BRd W' F (.slice (some ⟨b1, o1 + k, none⟩) d c') ((bs.take m).drop k) := fun W' hf k m h1 h2 c' d h3 h4 => BRd.piece (hrW.frm hf) k m h1 (by omega) c' d h3 h4
  have n1 : ∀ W', Frm NoB W W' → ∀ c', 4 ≤ c' → Calls Tryd.prog 35 #[.slice (some ⟨b1, o1 + 124, none⟩) 4 c'] W' fun e w' => e = .returned (.int .i64 (numB (bs.drop 124))) ∧ W' = w' := by
    intro W' hf c' h4
    have h := number_calls _ _ W' (rd W' hf 124 128 (by omega) (by omega) c' 4 rfl h4) (by simp; omega)
    rw [List.take_of_length_le (by omega)] at h
    exact h
  have n2 : ∀ W', Frm NoB W W' → ∀ c', 124 ≤ c' → Calls Tryd.prog 36 #[.slice (some ⟨b1, o1, none⟩) 124 c'] W' fun e w' => e = .returned (.int .u32 (crc (bs.take 124)).toNat) ∧ W' = w' := by
    intro W' hf c' h4
    have hx := rd W' hf 0 124 (by omega) (by omega) c' 124 rfl h4
    rw [List.drop_zero, Nat.add_zero] at hx
    exact Crc_calls (bs.take 124) _ W' hx (by simp; omega)
  obtain ⟨s, hs⟩ : ∃ s, numB (bs.drop 124) = s := ⟨_, rfl⟩
  obtain ⟨t, ht⟩ : ∃ t, (crc (bs.take 124)).toNat = t := ⟨_, rfl⟩
  rw [hs] at n1
  rw [ht] at n2
  have htl : (t : Int) < 4294967296 := by have := (crc (bs.take 124)).toNat_lt; omega
  have N1 := hide n1
  have N2 := hide n2
  have Hs := hide hs
  have Ht := hide ht
  have Hrw := hide hrW
  have Rdp := hide rd
  have HB0 := hide hB0
  have Hb0 := hide hb0
  clear n1 n2 hs ht hrW rd hB0 hb0 hr
  have hst : (IntKind.i64.wrap (t : Int)) = t := by rw [IntKind.wrap_i64]; omega
  go_quiet (first
    | (go_at_call 35; exact quiet_left (N1.out _ ((Frm.refl NoB W).drewN _) _ (by omega)))
    | (go_at_call 36; exact quiet_left (N2.out _ ((Frm.refl NoB W).drewN _) _ (by omega))))
  have hFq : Frm NoB W (W.drewN nq) := (Frm.refl NoB W).drewN nq
  obtain ⟨ne, hne⟩ : ∃ ne : Bool, ((s : Int) != (t : Int)) = ne := ⟨_, rfl⟩
  rw [hne]
  have Hne := hide hne
  clear hne hst
  cases ne with
  | false =>
    have Hst : Hid (s = t) := by have := Hne.out; simp at this; exact hide (by omega)
    have hc116 : ¬ c = 116 := by omega
    go_upto_region 4 with (fail)
    obtain ⟨k2, hk2⟩ : ∃ k2, c - 116 = k2 := ⟨_, rfl⟩
    rw [hk2]
    have hk2' : (2 : Int) ≤ (k2 : Int) := by omega
    have hk4' : (4 : Int) ≤ (k2 : Int) := by omega
    have hk6' : (6 : Int) ≤ (k2 : Int) := by omega
    have hk12n : 12 ≤ k2 := by omega
    have hka : ¬ k2 = 2 := by omega
    have hkb : ¬ k2 = 4 := by omega
    have hkc : ¬ k2 = 0 := by omega
    clear hk2
    obtain ⟨W1, hW1⟩ : ∃ W1, W.drewN nq = W1 := ⟨_, rfl⟩
    rw [hW1] at hFq ⊢
    clear hW1
    have dat : ∀ W', Frm NoB W W' → ∀ k, k < 128 → W'.cell? ⟨b1, o1 + k, none⟩ = some (.int .u8 (at8 bs k : Int)) := by
      intro W' hf k hk
      obtain ⟨b2, o2, c2, e2, _, _, _, d2⟩ := Rd.byteAt (Hrw.out.frm hf) (k := k) (by omega)
      injection e2 with hA2 _ hc2
      injection hA2 with hA2
      injection hA2 with hA2 hA3
      subst hA2 hA3
      rw [d2, at8_eq bs k (by omega)]
    have n3 : ∀ W', Frm NoB W W' → ∀ k, k + 1 < 128 → ∀ o c', o = o1 + k → 2 ≤ c' → Calls Tryd.prog 35 #[.slice (some ⟨b1, o, none⟩) 2 c'] W' fun e w' => e = .returned (.int .i64 (two8 bs k)) ∧ Frm NoB W w' ∧ Frm NoB W' w' := by
      intro W' hf k hk o c' ho h4
      subst ho
      have h := number_calls _ _ W' (Rdp.out W' hf k (k + 2) (by omega) (by omega) c' 2 (by omega) h4) (by simp; omega)
      rw [num_two bs k (by omega)] at h
      refine h.mono ?_
      rintro e w' ⟨rfl, rfl⟩
      exact ⟨rfl, hf, Frm.refl _ _⟩
    have keep : ∀ W', Frm NoB W W' → W'.cell? ⟨b1, o1 + 122, none⟩ = some (.int .u8 (at8 bs 122 : Int)) ∧ W'.cell? ⟨b1, o1 + 123, none⟩ = some (.int .u8 (at8 bs 123 : Int)) := fun W' hf => ⟨dat W' hf 122 (by omega), dat W' hf 123 (by omega)⟩
    have Keep := hide keep
    clear keep
    have N3 := hide n3
    have Hdat := hide dat
    clear n3 dat
    have hbok : (bare bs).ok := ⟨by simp [bare], (decode_ok hl).kind, (decode_ok hl).file, (decode_ok hl).place, (decode_ok hl).next, (decode_ok hl).size⟩
    go_cut [5] (fun pv W' => ∃ g, pv = .pointer (some ⟨g, 0, none⟩) ∧ Frm NoB W W' ∧ Blk W' g 24 (bare bs).cells ∧ W.heap.size ≤ g)
    case first =>
      have hF1d := hFq.drew
      have hs1 : W.heap.size ≤ W1.heap.size := hFq.size
      have c0 : W1.drew.cell? ⟨b1, o1 + 122, none⟩ = some (.int .u8 (at8 bs 122 : Int)) ∧ W1.drew.cell? ⟨b1, o1 + 123, none⟩ = some (.int .u8 (at8 bs 123 : Int)) := ⟨Hdat.out _ hFq.drew 122 (by omega), Hdat.out _ hFq.drew 123 (by omega)⟩
      have hszb := leaf_size (bare bs) hbok
      have h22 := at8_lt bs 122
      have h23 := at8_lt bs 123
      have w22 : IntKind.i64.wrap (at8 bs 122 : Int) = (at8 bs 122 : Int) := by rw [IntKind.wrap_i64]; omega
      have w23 : IntKind.i64.wrap (at8 bs 123 : Int) = (at8 bs 123 : Int) := by rw [IntKind.wrap_i64]; omega
      have hbuild : ∀ w : World, (Instr.build 24 #[(1, .int .i64 (two8 bs 116)), (2, .int .i64 (two8 bs 118)), (3, .int .i64 (two8 bs 120)), (4, .int .i64 (at8 bs 122)), (0, .int .i64 (at8 bs 123))]).run Tryd.prog w = .ok (.agg (bare bs).cells) w := fun w => run_build w 24 _ _ (by first | rfl | kernel_rfl)
      clear h22 h23
      refine wp_region_held_drew (S := fun w' => w'.cell? ⟨b1, o1 + 122, none⟩ = some (.int .u8 (at8 bs 122 : Int)) ∧ w'.cell? ⟨b1, o1 + 123, none⟩ = some (.int .u8 (at8 bs 123 : Int))) (by kernel_rfl) c0 (fun hS0 => ?_)
      refine wpAnyH_take (i := 0) (v := ?v0) rfl (by kernel_rfl) (by kernel_rfl) (by kernel_rfl) (fun _ _ _ h => h) (Or.inl ⟨by rfl, ?h0⟩) hS0 ?_
      case h0 =>
        intro w hSw
        go_simp
        with_reducible rfl
      simp only [List.getElem_toArray, List.getElem_cons_succ, List.getElem_cons_zero, Act.put, List.setIfInBounds_toArray, List.set_cons_zero, List.set_cons_succ]
      refine wpAnyH_take (i := 1) (v := ?v1) rfl (by kernel_rfl) (by kernel_rfl) (by kernel_rfl) (fun _ _ _ h => h) (Or.inl ⟨by rfl, ?h1⟩) hS0 ?_
      case h1 =>
        intro w hSw
        go_simp
        with_reducible rfl
      simp only [List.getElem_toArray, List.getElem_cons_succ, List.getElem_cons_zero, Act.put, List.setIfInBounds_toArray, List.set_cons_zero, List.set_cons_succ]
      refine wpAnyH_take (i := 3) (v := ?v3) rfl (by kernel_rfl) (by kernel_rfl) (by kernel_rfl) (fun _ _ _ h => h) (Or.inl ⟨by rfl, ?h3⟩) hS0 ?_
      case h3 =>
        intro w hSw
        go_simp
        with_reducible rfl
      simp only [List.getElem_toArray, List.getElem_cons_succ, List.getElem_cons_zero, Act.put, List.setIfInBounds_toArray, List.set_cons_zero, List.set_cons_succ]
      refine wpAnyH_take (i := 4) (v := ?v4) rfl (by kernel_rfl) (by kernel_rfl) (by kernel_rfl) (fun _ _ _ h => h) (Or.inl ⟨by rfl, ?h4⟩) hS0 ?_
      case h4 =>
        intro w hSw
        go_simp
        with_reducible rfl
      simp only [List.getElem_toArray, List.getElem_cons_succ, List.getElem_cons_zero, Act.put, List.setIfInBounds_toArray, List.set_cons_zero, List.set_cons_succ]
      refine wpAnyH_take (i := 6) (v := ?v6) rfl (by kernel_rfl) (by kernel_rfl) (by kernel_rfl) (fun _ _ _ h => h) (Or.inl ⟨by rfl, ?h6⟩) hS0 ?_
      case h6 =>
        intro w hSw
        go_simp
        with_reducible rfl
      simp only [List.getElem_toArray, List.getElem_cons_succ, List.getElem_cons_zero, Act.put, List.setIfInBounds_toArray, List.set_cons_zero, List.set_cons_succ]
      refine wpAnyH_take (i := 7) (v := ?v7) rfl (by kernel_rfl) (by kernel_rfl) (by kernel_rfl) (fun _ _ _ h => h) (Or.inl ⟨by rfl, ?h7⟩) hS0 ?_
      case h7 =>
        intro w hSw
        go_simp
        with_reducible rfl
      simp only [List.getElem_toArray, List.getElem_cons_succ, List.getElem_cons_zero, Act.put, List.setIfInBounds_toArray, List.set_cons_zero, List.set_cons_succ]
      refine wpAnyH_take (i := 9) (v := ?v9) rfl (by kernel_rfl) (by kernel_rfl) (by kernel_rfl) (fun _ _ _ h => h) (Or.inl ⟨by rfl, ?h9⟩) hS0 ?_
      case h9 =>
        intro w hSw
        go_simp
        with_reducible rfl
      simp only [List.getElem_toArray, List.getElem_cons_succ, List.getElem_cons_zero, Act.put, List.setIfInBounds_toArray, List.set_cons_zero, List.set_cons_succ]
      refine wpAnyH_take (i := 10) (v := ?v10) rfl (by kernel_rfl) (by kernel_rfl) (by kernel_rfl) (fun _ _ _ h => h) (Or.inl ⟨by rfl, ?h10⟩) hS0 ?_
      case h10 =>
        intro w hSw
        go_simp
        with_reducible rfl
      simp only [List.getElem_toArray, List.getElem_cons_succ, List.getElem_cons_zero, Act.put, List.setIfInBounds_toArray, List.set_cons_zero, List.set_cons_succ]
      refine wpAnyH_take (i := 11) (v := ?v11) rfl (by kernel_rfl) (by kernel_rfl) (by kernel_rfl) (fun _ _ _ h => h) (Or.inl ⟨by rfl, ?h11⟩) hS0 ?_
      case h11 =>
        intro w hSw
        go_simp
        with_reducible rfl
      simp only [List.getElem_toArray, List.getElem_cons_succ, List.getElem_cons_zero, Act.put, List.setIfInBounds_toArray, List.set_cons_zero, List.set_cons_succ]
      refine wpAnyH_take (i := 12) (v := ?v12) rfl (by kernel_rfl) (by kernel_rfl) (by kernel_rfl) (fun _ _ _ h => h) (Or.inl ⟨by rfl, ?h12⟩) hS0 ?_
      case h12 =>
        intro w hSw
        go_simp
        with_reducible rfl
      simp only [List.getElem_toArray, List.getElem_cons_succ, List.getElem_cons_zero, Act.put, List.setIfInBounds_toArray, List.set_cons_zero, List.set_cons_succ]
      refine wpAnyH_take (i := 13) (v := ?v13) rfl (by kernel_rfl) (by kernel_rfl) (by kernel_rfl) (fun _ _ _ h => h) (Or.inl ⟨by rfl, ?h13⟩) hS0 ?_
      case h13 =>
        intro w hSw
        go_simp
        with_reducible rfl
      simp only [List.getElem_toArray, List.getElem_cons_succ, List.getElem_cons_zero, Act.put, List.setIfInBounds_toArray, List.set_cons_zero, List.set_cons_succ]
      refine wpAnyH_take (i := 14) (v := ?v14) rfl (by kernel_rfl) (by kernel_rfl) (by kernel_rfl) (fun _ _ _ h => h) (Or.inl ⟨by rfl, ?h14⟩) hS0 ?_
      case h14 =>
        intro w hSw
        go_simp
        with_reducible rfl
      simp only [List.getElem_toArray, List.getElem_cons_succ, List.getElem_cons_zero, Act.put, List.setIfInBounds_toArray, List.set_cons_zero, List.set_cons_succ]
      refine wpAnyH_take (i := 15) (v := ?v15) rfl (by kernel_rfl) (by kernel_rfl) (by kernel_rfl) (fun _ _ _ h => h) (Or.inl ⟨by rfl, ?h15⟩) hS0 ?_
      case h15 =>
        intro w hSw
        go_simp
        with_reducible rfl
      simp only [List.getElem_toArray, List.getElem_cons_succ, List.getElem_cons_zero, Act.put, List.setIfInBounds_toArray, List.set_cons_zero, List.set_cons_succ]
      refine wpAnyH_take (i := 16) (v := ?v16) rfl (by kernel_rfl) (by kernel_rfl) (by kernel_rfl) (fun _ _ _ h => h) (Or.inl ⟨by rfl, ?h16⟩) hS0 ?_
      case h16 =>
        intro w hSw
        go_simp
        with_reducible rfl
      simp only [List.getElem_toArray, List.getElem_cons_succ, List.getElem_cons_zero, Act.put, List.setIfInBounds_toArray, List.set_cons_zero, List.set_cons_succ]
      refine wpAnyH_name (fun a0 ha0 => ?_)
      refine wpAnyH_hard (by kernel_rfl) [2, 5, 8, 17, 18, 19] (fun D a w => Frm NoB W w ∧ ∃ t25 t28 t31 t40 t5 : Value, a = (((((a0.put (some 25) t25).put (some 28) t28).put (some 31) t31).put (some 40) t40).put (some 5) t5) ∧
        (D 2 = true → t25 = .int .i64 (two8 bs 116)) ∧ (D 5 = true → t28 = .int .i64 (two8 bs 118)) ∧ (D 8 = true → t31 = .int .i64 (two8 bs 120)) ∧ (D 17 = true → t40 = .agg (bare bs).cells) ∧
        (D 18 = true → ∃ g, t5 = .pointer (some ⟨g, 0, none⟩) ∧ W.heap.size ≤ g ∧ Blk w g 24 (if D 19 then (bare bs).cells else Tryd.zeroCells24)) ∧ (D 19 = true → D 18 = true)) (by kernel_rfl) (by kernel_rfl) (fun D a w h => Keep.out w h.1) ?_ ?_
        (StepAll.cons rfl (fun D a w hDi hdep hI K hK => ?_) (StepAll.cons rfl (fun D a w hDi hdep hI K hK => ?_) (StepAll.cons rfl (fun D a w hDi hdep hI K hK => ?_) (StepAll.cons rfl (fun D a w hDi hdep hI K hK => ?_) (StepAll.cons rfl (fun D a w hDi hdep hI K hK => ?_) (StepAll.cons rfl (fun D a w hDi hdep hI K hK => ?_) StepAll.nil)))))) (by kernel_rfl)
      · refine ⟨hFq.drew, a0.tmps.getD 25 undef, a0.tmps.getD 28 undef, a0.tmps.getD 31 undef, a0.tmps.getD 40 undef, a0.tmps.getD 5 undef, ?_, ?_, ?_, ?_, ?_, ?_, ?_⟩
        · simp only [put_self]
        all_goals (intro h; exact absurd h (by rw [show doneOf _ _ = false from by kernel_rfl]; simp))
      · intro D a w hall hI
        obtain ⟨hFw, t25, t28, t31, t40, t5, hae, e25, e28, e31, e40, e5, e19⟩ := hI
        subst hae
        obtain ⟨g, rfl, hge, hb⟩ := e5 (hall 18 (by simp))
        rw [hall 19 (by simp), if_pos rfl] at hb
        subst ha0
        simp only [Act.put, List.setIfInBounds_toArray, List.set_cons_zero, List.set_cons_succ]
        clear c0 hS0 e25 e28 e31 e40 e5 e19 hall
        go_wp2
        go_meet
        exact ⟨g, rfl, hFw, hb, hge⟩
      · obtain ⟨hFw, t25, t28, t31, t40, t5, hae, e25, e28, e31, e40, e5, e19⟩ := hI
        subst hae
        subst ha0
        simp only [List.getElem_toArray, List.getElem_cons_succ, List.getElem_cons_zero, Act.put, List.setIfInBounds_toArray, List.set_cons_zero, List.set_cons_succ]
        clear c0 hS0
        clear hdep
        go_simp
        refine (N3.out _ hFw 116 (by omega) _ _ (by omega) (by omega)).mono ?_
        rintro e w1 ⟨rfl, hf1, hg1⟩
        refine hK.out _ _ ⟨hf1, .int .i64 (two8 bs 116), t28, t31, t40, t5, ?_, fun _ => rfl, e28, e31, e40, fun h18 => ?_, e19⟩
        · simp only [Act.put, List.setIfInBounds_toArray, List.set_cons_zero, List.set_cons_succ]
        · obtain ⟨g, ht5, hge, hb⟩ := e5 h18
          exact ⟨g, ht5, hge, hb.frm hg1 (fun h => h)⟩
      · obtain ⟨hFw, t25, t28, t31, t40, t5, hae, e25, e28, e31, e40, e5, e19⟩ := hI
        subst hae
        subst ha0
        simp only [List.getElem_toArray, List.getElem_cons_succ, List.getElem_cons_zero, Act.put, List.setIfInBounds_toArray, List.set_cons_zero, List.set_cons_succ]
        clear c0 hS0
        clear hdep
        go_simp
        refine (N3.out _ hFw 118 (by omega) _ _ (by omega) (by omega)).mono ?_
        rintro e w1 ⟨rfl, hf1, hg1⟩
        refine hK.out _ _ ⟨hf1, t25, .int .i64 (two8 bs 118), t31, t40, t5, ?_, e25, fun _ => rfl, e31, e40, fun h18 => ?_, e19⟩
        · simp only [Act.put, List.setIfInBounds_toArray, List.set_cons_zero, List.set_cons_succ]
        · obtain ⟨g, ht5, hge, hb⟩ := e5 h18
          exact ⟨g, ht5, hge, hb.frm hg1 (fun h => h)⟩
      · obtain ⟨hFw, t25, t28, t31, t40, t5, hae, e25, e28, e31, e40, e5, e19⟩ := hI
        subst hae
        subst ha0
        simp only [List.getElem_toArray, List.getElem_cons_succ, List.getElem_cons_zero, Act.put, List.setIfInBounds_toArray, List.set_cons_zero, List.set_cons_succ]
        clear c0 hS0
        clear hdep
        go_simp
        refine (N3.out _ hFw 120 (by omega) _ _ (by omega) (by omega)).mono ?_
        rintro e w1 ⟨rfl, hf1, hg1⟩
        refine hK.out _ _ ⟨hf1, t25, t28, .int .i64 (two8 bs 120), t40, t5, ?_, e25, e28, fun _ => rfl, e40, fun h18 => ?_, e19⟩
        · simp only [Act.put, List.setIfInBounds_toArray, List.set_cons_zero, List.set_cons_succ]
        · obtain ⟨g, ht5, hge, hb⟩ := e5 h18
          exact ⟨g, ht5, hge, hb.frm hg1 (fun h => h)⟩
      · obtain ⟨hFw, t25, t28, t31, t40, t5, hae, e25, e28, e31, e40, e5, e19⟩ := hI
        subst hae
        subst ha0
        simp only [List.getElem_toArray, List.getElem_cons_succ, List.getElem_cons_zero, Act.put, List.setIfInBounds_toArray, List.set_cons_zero, List.set_cons_succ]
        clear c0 hS0
        have h2 := dep_of hdep 2 (by kernel_rfl)
        have h5 := dep_of hdep 5 (by kernel_rfl)
        have h8 := dep_of hdep 8 (by kernel_rfl)
        obtain rfl := e25 h2
        obtain rfl := e28 h5
        obtain rfl := e31 h8
        rw [if_pos (by rfl)]
        refine wp_build 24 _ (by rfl) #[(1, .int .i64 (two8 bs 116)), (2, .int .i64 (two8 bs 118)), (3, .int .i64 (two8 bs 120)), (4, .int .i64 (at8 bs 122)), (0, .int .i64 (at8 bs 123))] (by simp [Act.eval]) (bare bs).cells (hbuild _) ?_
        refine hK.out _ _ ⟨hFw, _, _, _, .agg (bare bs).cells, t5, ?_, fun _ => rfl, fun _ => rfl, fun _ => rfl, fun _ => rfl, e5, e19⟩
        simp only [Act.put, List.setIfInBounds_toArray, List.set_cons_zero, List.set_cons_succ]
      · obtain ⟨hFw, t25, t28, t31, t40, t5, hae, e25, e28, e31, e40, e5, e19⟩ := hI
        subst hae
        subst ha0
        simp only [List.getElem_toArray, List.getElem_cons_succ, List.getElem_cons_zero, Act.put, List.setIfInBounds_toArray, List.set_cons_zero, List.set_cons_succ]
        clear c0 hS0
        clear hdep
        go_simp
        refine hK.out _ _ ⟨hFw.alloc _, t25, t28, t31, t40, .pointer (some ⟨w.heap.size, 0, none⟩), ?_, e25, e28, e31, e40, fun _ => ⟨_, rfl, hFw.size, ?_⟩, fun _ => rfl⟩
        · simp only [Act.put, List.setIfInBounds_toArray, List.set_cons_zero, List.set_cons_succ]
        · have h19 : D 19 = false := by
            cases h : D 19 with
            | false => rfl
            | true => rw [e19 h] at hDi; cases hDi
          rw [show also D 18 19 = D 19 from rfl, h19, if_neg (by simp)]
          exact Blk.new _ _ _
      · obtain ⟨hFw, t25, t28, t31, t40, t5, hae, e25, e28, e31, e40, e5, e19⟩ := hI
        subst hae
        subst ha0
        simp only [List.getElem_toArray, List.getElem_cons_succ, List.getElem_cons_zero, Act.put, List.setIfInBounds_toArray, List.set_cons_zero, List.set_cons_succ]
        clear c0 hS0
        have h17 := dep_of hdep 17 (by kernel_rfl)
        have h18 := dep_of hdep 18 (by kernel_rfl)
        obtain ⟨g, rfl, hge, hb⟩ := e5 h18
        obtain rfl := e40 h17
        rw [hDi, if_neg (by simp)] at hb
        have hszo : (Tryd.zeroCells24).size = (bare bs).cells.size := by rw [ALeaf.cells_size hbok]; rfl
        rw [if_pos (by rfl)]
        refine wp_store_row 24 (.tmp 5) (.tmp 40) (by rfl) g (bare bs).cells (by rfl) (by rfl) 24 Tryd.zeroCells24 hb hszb hszo (cells_one _) ?_
        refine hK.out _ _ ⟨hFw.setRow (fun h => absurd h (by omega)) _, t25, t28, t31, _, _, ?_, e25, e28, e31, fun _ => rfl, fun _ => ⟨g, rfl, hge, ?_⟩, fun _ => h18⟩
        · simp only [Act.put, List.setIfInBounds_toArray, List.set_cons_zero, List.set_cons_succ]
        · rw [show also D 19 19 = true from rfl, if_pos rfl]
          exact Blk.setRow_ hb _
    case rest =>
      obtain ⟨g, rfl, hF1, hb, hge⟩ := hcut
      have Hl := hide hl
      have HF := hide hF
      have hDl : Hid (∀ W', Frm NoB W W' → ∀ k (h : k < 128), W'.cell? ⟨b1, o1 + k, none⟩ = some (byt (bs[k]'(by rw [Hl.out]; exact h)))) := hide (fun W' hf k hk => by rw [Hdat.out W' hf k hk, at8_eq bs k (by rw [Hl.out]; exact hk)]; rfl)
      clear hl hF
      go_wp2_with fail
      go_loopw [41] (fun iv wr => ∃ k : Nat, k ≤ 116 ∧ iv = .int .i64 k ∧ Frm NoB W wr ∧ Blk wr g 24 (partl bs k).cells) (fun iv _ => 116 - (intOf iv).toNat)
      case atStart => exact ⟨0, by omega, rfl, hF1, by rw [partl_zero]; exact hb⟩
      case round =>
        obtain ⟨k, hk, rfl, hF2, hb2⟩ := hrel
        by_cases hlt : k < 116
        · have hk128 : (k : Int) < 128 := by omega
          have hk116 : (k : Int) < 116 := by omega
          have hk0 : (0 : Int) ≤ (k : Int) := by omega
          have d1 := hDl.out wr hF2 k (by omega)
          have hsz : (partl bs k).cells.size = 121 := ALeaf.cells_size (partl_ok Hl.out hk)
          obtain ⟨old, hold⟩ : ∃ old, wr.cell? ⟨g, 5 + k, none⟩ = some old := ⟨(partl bs k).cells[5 + k]'(by omega), by rw [hb2.cell]; exact Array.getElem?_eq_getElem (by omega)⟩
          have d3 := hb2.frozen (5 + k)
          have hb3 := hb2.put (5 + k) (byt (bs[k]'(by have := Hl.out; omega)))
          rw [partl_succ Hl.out hlt] at hb3
          have hF3 := hF2.setCell (p := ⟨g, 5 + k, none⟩) (fun h => absurd h (by show ¬ g < W.heap.size; omega)) (byt (bs[k]'(by have := Hl.out; omega)))
          simp only [byt] at d1 hb3 hF3
          obtain ⟨x, hx⟩ : ∃ x, (bs[k]'(by have := Hl.out; omega)).toNat = x := ⟨_, rfl⟩
          rw [hx] at d1 hb3 hF3
          clear hsz hx hb2 hF2 hb hF1 hc124 hcI q0 hc116 hkc hka hkb hk2' hk4' hk6' hk12n hFq hbok htl
          go_wp2_with fail
          refine ⟨⟨k + 1, by omega, by go_num, hF3, hb3⟩, by simp only [intOf]; omega⟩
        · obtain rfl : k = 116 := by omega
          rw [partl_full] at hb2
          have hok := decode_ok Hl.out
          have hli := leaf_size (decode bs) hok
          have hliz := leaf_size ALeaf.zero ALeaf.zero_ok
          have hsz0 : (Tryd.zeroCells24).size = (decode bs).cells.size := by rw [ALeaf.cells_size hok]; rfl
          have hszz : (Tryd.zeroCells24).size = ALeaf.zero.cells.size := by rw [zeroCells_leaf]
          have hbz : ∀ w : World, (Instr.build 24 #[]).run Tryd.prog w = .ok (.agg ALeaf.zero.cells) w := fun w => run_build w 24 _ _ (by rw [← zeroCells_leaf]; kernel_rfl)
          have Hb2 := hide hb2
          clear hb2 hF1 hb hc124 hcI q0 hc116 hkc hka hkb hk2' hk4' hk6' hk12n hFq hbok htl
          go_wp2_with (first | (refine wpList_load_row rfl 24 _ rfl g rfl 24 (decode bs).cells (0, 0) _ Hb2.out Tryd.underlying24 rfl hli ?_) | fail)
          refine (RightLeaf_calls (decode bs) hok _).mono ?_
          rintro e w5 ⟨rfl, hf5⟩
          have hF5 : Frm NoB W w5 := hF2.trans hf5 (fun _ _ h => h)
          have hFw : Frm NoB w w5 := HF.out.trans hF5 (fun _ _ h => h)
          have hB0 : Blk w5 b0 24 Tryd.zeroCells24 := HB0.out.frm hF5 (fun h => h)
          have hb6 : Blk w5 g 24 (decode bs).cells := Hb2.out.frm hf5 (fun h => h)
          have hge5 : w.heap.size ≤ b0 := Nat.le_of_eq Hb0.out
          obtain ⟨okb, hokb⟩ : ∃ b : Bool, decide (decode bs).Right = b := ⟨_, rfl⟩
          rw [hokb]
          have Hokb := hide hokb
          have Hb6 := hide hb6
          clear hokb hF5 hf5 hF2 hb6
          cases okb with
          | true =>
            have Hres : Hid (getL bs = some (decode bs)) := by
              unfold getL
              rw [if_pos ⟨Hl.out, (put_decode Hl.out).2 ⟨of_decide_eq_true Hokb.out, by rw [Hs.out, Ht.out, Hst.out]⟩⟩]
              exact hide rfl
            go_wp2_with (first
              | (refine wpList_load_row rfl 24 _ rfl g rfl 24 (decode bs).cells (0, 0) _ Hb6.out Tryd.underlying24 rfl hli ?_)
              | (refine wpList_store_row rfl 24 _ _ rfl b0 (decode bs).cells rfl rfl 24 Tryd.zeroCells24 hB0 hli hsz0 (cells_one _) ?_)
              | fail)
            refine bodyPost_ret (v := .tuple #[.agg (decode bs).cells, .bool true]) ?_ rfl ?_
            · exact results_row_tmp (p := 2) (t := 3) (by rfl) _ _ b0 (decode bs).cells (by rfl) (leaf_cells_eq (decode bs) hok _ _ (hB0.setRow_ (decode bs).cells))
            · rw [Hres.out]
              exact ⟨rfl, hFw.setRow (fun h => absurd h (by omega)) _⟩
          | false =>
            have Hres : Hid (getL bs = none) := by
              unfold getL
              rw [if_neg (fun h => of_decide_eq_false Hokb.out ((put_decode Hl.out).1 h.2).1)]
              exact hide rfl
            go_wp2_with (first
              | (refine wpList_store_row rfl 24 _ _ rfl b0 ALeaf.zero.cells rfl rfl 24 Tryd.zeroCells24 hB0 hliz hszz (cells_one _) ?_)
              | fail)
            refine bodyPost_ret (v := .tuple #[.agg ALeaf.zero.cells, .bool false]) ?_ rfl ?_
            · exact results_row_tmp (p := 2) (t := 3) (by rfl) _ _ b0 ALeaf.zero.cells (by rfl) (leaf_cells_eq ALeaf.zero ALeaf.zero_ok _ _ (hB0.setRow_ ALeaf.zero.cells))
            · rw [Hres.out]
              exact ⟨rfl, hFw.setRow (fun h => absurd h (by omega)) _⟩
  | true =>
    have Hres : Hid (getL bs = none) := by
      unfold getL
      rw [if_neg (fun h => ?_)]
      · exact hide rfl
      · have := ((put_decode hl).1 h.2).2
        rw [Hs.out, Ht.out] at this
        have h2 := Hne.out
        rw [this] at h2
        simp at h2
    have hliz := leaf_size ALeaf.zero ALeaf.zero_ok
    have hszz : (Tryd.zeroCells24).size = ALeaf.zero.cells.size := by rw [zeroCells_leaf]
    have hbz : ∀ w : World, (Instr.build 24 #[]).run Tryd.prog w = .ok (.agg ALeaf.zero.cells) w := fun w => run_build w 24 _ _ (by rw [← zeroCells_leaf]; kernel_rfl)
    have hB0 : Blk (W.drewN nq) b0 24 Tryd.zeroCells24 := HB0.out.drewN nq
    have hFw : Frm NoB w (W.drewN nq) := hF.drewN nq
    have hge5 : w.heap.size ≤ b0 := Nat.le_of_eq Hb0.out
    clear hl
    go_wp2_with (first
      | (refine wpList_store_row rfl 24 _ _ rfl b0 ALeaf.zero.cells rfl rfl 24 Tryd.zeroCells24 hB0 hliz hszz (cells_one _) ?_)
      | fail)
    refine bodyPost_ret (v := .tuple #[.agg ALeaf.zero.cells, .bool false]) ?_ rfl ?_
    · exact results_row_tmp (p := 2) (t := 3) (by rfl) _ _ b0 ALeaf.zero.cells (by rfl) (leaf_cells_eq ALeaf.zero ALeaf.zero_ok _ _ (hB0.setRow_ ALeaf.zero.cells))
    · rw [Hres.out]
      exact ⟨rfl, hFw.setRow (fun h => absurd h (by omega)) _⟩

set_option maxRecDepth 100000 in
theorem GetLeaf_other (bs : List UInt8) (v : Value) (w : World) {F : Nat → Prop} (hr : BRd w F v bs) (hl : bs.length ≠ 128) :
    Calls Tryd.prog 12 #[v] w fun e w' => e = .returned (.tuple #[.agg (leafOf (getL bs)).cells, .bool (getL bs).isSome]) ∧ Frm NoB w w' := by
  obtain ⟨A, c, rfl, hc⟩ := hr.form
  have q : ((bs.length : Int) != 128) = true := by simp; omega
  have Hres : Hid (getL bs = none) := by unfold getL; rw [if_neg (fun h => hl h.1)]; exact hide rfl
  obtain ⟨n, hn⟩ : ∃ n, bs.length = n := ⟨_, rfl⟩
  rw [hn] at hc q ⊢
  clear hl hr hn
  go_enter Tryd.func12, Tryd.ntmps12
  go_upto_region 1 with (fail)
  obtain ⟨W, hW⟩ : ∃ W, w.alloc (.cells Tryd.zeroCells24 24) = W := ⟨_, rfl⟩
  obtain ⟨b0, hb0⟩ : ∃ b0, w.heap.size = b0 := ⟨_, rfl⟩
  have hF : Frm NoB w W := hW ▸ (Frm.refl NoB w).alloc _
  have hB0 : Blk W b0 24 Tryd.zeroCells24 := by rw [← hW, ← hb0]; exact Blk.new w _ _
  have hge5 : w.heap.size ≤ b0 := Nat.le_of_eq hb0
  rw [hW, hb0]
  clear hW hb0
  go_quiet (fail)
  have hFq := hF.drewN nq
  have hB0q := hB0.drewN nq
  clear hF hB0
  have hszz : (Tryd.zeroCells24).size = ALeaf.zero.cells.size := by rw [zeroCells_leaf]
  have hliz := leaf_size ALeaf.zero ALeaf.zero_ok
  have hbz : ∀ w : World, (Instr.build 24 #[]).run Tryd.prog w = .ok (.agg ALeaf.zero.cells) w := fun w => run_build w 24 _ _ (by rw [← zeroCells_leaf]; kernel_rfl)
  go_wp2_with (first
    | (refine wpList_store_row rfl 24 _ _ rfl b0 ALeaf.zero.cells rfl rfl 24 Tryd.zeroCells24 hB0q hliz hszz (cells_one _) ?_)
    | fail)
  refine bodyPost_ret (v := .tuple #[.agg ALeaf.zero.cells, .bool false]) ?_ rfl ?_
  · exact results_row_tmp (p := 2) (t := 3) (by rfl) _ _ b0 ALeaf.zero.cells (by rfl) (leaf_cells_eq ALeaf.zero ALeaf.zero_ok _ _ (hB0q.setRow_ ALeaf.zero.cells))
  · rw [Hres.out]
    exact ⟨rfl, hFq.setRow (fun h => absurd h (by omega)) _⟩
theorem GetLeaf_calls (bs : List UInt8) (v : Value) (w : World) {F : Nat → Prop} (hr : BRd w F v bs) :
    Calls Tryd.prog 12 #[v] w fun e w' => e = .returned (.tuple #[.agg (leafOf (getL bs)).cells, .bool (getL bs).isSome]) ∧ Frm NoB w w' := by
  by_cases hl : bs.length = 128
  · exact GetLeaf_128 bs v w hr hl
  · exact GetLeaf_other bs v w hr hl
end Go.Proofs.YtablmgnhpciljaaDoor
