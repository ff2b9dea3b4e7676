/- The reference's PutLeaf. -/
import Derived.Test.YtablmgnhpciljaaDoorLfh
namespace Go.Proofs.YtablmgnhpciljaaDoor
open Go.RowKit

set_option maxRecDepth 100000 in
set_option maxHeartbeats 1000000 in
theorem PutLeaf_calls (l : ALeaf) (hl : l.ok) (w : World) : Calls Tryd.prog 16 #[.agg l.cells] w fun e w' => ∃ v', e = .returned v' ∧ BOwn w w' v' l.put ∧ Frm NoB w w' := by
  have hb0 := Blk.new w 24 l.cells
  have hF0 := (Frm.refl NoB w).alloc (.cells l.cells 24)
  have hs0 : w.heap.size ≤ (w.alloc (.cells l.cells 24)).heap.size := hF0.size
  go_enter Tryd.func16, Tryd.ntmps16
  go_upto_region 1 with (fail)
  obtain ⟨W, hW⟩ : ∃ W, w.alloc (.cells l.cells 24) = W := ⟨_, rfl⟩
  obtain ⟨b, hbe⟩ : ∃ b, w.heap.size = b := ⟨_, rfl⟩
  rw [hW] at hb0 hF0 ⊢
  rw [hbe] at hb0 ⊢
  clear hW hbe hs0
  have hsz := leaf_size l hl
  have Hb0 := hide hb0
  clear hb0
  go_wp2_with (first | (refine wpList_load_row rfl 24 _ rfl b rfl 24 l.cells (0, 0) _ Hb0.out Tryd.underlying24 rfl hsz ?_) | fail)
  refine (RightLeaf_calls l hl W).mono ?_
  rintro e W1 ⟨rfl, hf1⟩
  have hb1 := Hb0.out.frm hf1 (fun h => h)
  have hF1 := hF0.trans hf1 (fun _ _ h => h)
  clear hf1 Hb0 hsz
  by_cases hR : l.Right
  · rw [decide_eq_true hR]
    have hput : l.put = l.bytes := if_pos hR
    obtain ⟨⟨kf0, kf1⟩, ⟨kp0, kp1⟩, ⟨kn0, kn1⟩, ⟨kk0, kk1⟩, ⟨ks0, ks1⟩, -⟩ := hR
    obtain ⟨nf, hnf⟩ := Int.eq_ofNat_of_zero_le kf0
    obtain ⟨np, hnp⟩ := Int.eq_ofNat_of_zero_le kp0
    obtain ⟨nn, hnn⟩ := Int.eq_ofNat_of_zero_le kn0
    obtain ⟨nk, hnk⟩ := Int.eq_ofNat_of_zero_le (show 0 ≤ l.kind by omega)
    obtain ⟨ns, hns⟩ := Int.eq_ofNat_of_zero_le ks0
    have hbytes : l.bytes = (l.load ++ lowB nf 2 ++ lowB np 2 ++ lowB nn 2 ++ [UInt8.ofNat ns, UInt8.ofNat nk]) ++ lowB (crc (l.load ++ lowB nf 2 ++ lowB np 2 ++ lowB nn 2 ++ [UInt8.ofNat ns, UInt8.ofNat nk])).toNat 4 := by
      unfold ALeaf.bytes ALeaf.body
      rw [hnf, hnp, hnn, hnk, hns]
      rfl
    have Hput := hide (hput.trans hbytes)
    have ho2 := BOwn.lit0 (w0 := W1) (Nat.le_refl W1.heap.size)
    have hF2 := (Frm.refl NoB W1).alloc (.cells #[] 5)
    have hrd := (leaf_rest hb1 hl 0 (by omega) 5 (fun _ => rfl)).frm hF2
    rw [List.drop_zero, Nat.sub_zero] at hrd
    have h116 : ([] : List UInt8).length + l.load.length ≤ 140737488355328 := by rw [hl.load]; simp
    have Hb1 := hide hb1
    clear hput hbytes hb1 kf0 kf1 kp0 kp1 kn0 kn1 kk0 kk1 ks0 ks1
    go_upto_region 4 with (first | (at_builtin; refine wpList_bytes rfl (.tmp 7) (.tmp 9) rfl W1 hF2 (.slice (some ⟨W1.heap.size, 0, none⟩) 0 0) [] rfl ho2 _ (.slice (some ⟨b, 5, none⟩) 116 116) l.load rfl hrd h116 ?_; intro v3 w3 ho3 hF3 _) | fail)
    rw [List.nil_append] at ho3
    clear hrd hF2 ho2 h116
    have ycells : ∀ w', Frm NoB W1 w' → w'.cell? ⟨b, 1, none⟩ = some (.int .i64 nf) ∧ w'.cell? ⟨b, 2, none⟩ = some (.int .i64 np) ∧ w'.cell? ⟨b, 3, none⟩ = some (.int .i64 nn) := by
      intro w' hf
      have hb := Hb1.out.frm hf (fun h => h)
      exact ⟨(hb.cell 1).trans (by rw [← hnf]; rfl), (hb.cell 2).trans (by rw [← hnp]; rfl), (hb.cell 3).trans (by rw [← hnn]; rfl)⟩
    have hF3d := hF3.drew
    have ho3d : BOwn W1 w3.drew v3 l.load := ho3
    have c0 := ycells w3.drew hF3d
    have l0 : l.load.length ≤ 1099511627776 := by rw [hl.load]; simp
    have l1 : (l.load ++ lowB nf 2).length ≤ 1099511627776 := by simp [lowB_length, hl.load]
    have l2 : (l.load ++ lowB nf 2 ++ lowB np 2).length ≤ 1099511627776 := by simp [lowB_length, hl.load]
    have Hy := hide ycells
    clear ycells ho3 hF3
    go_region_held3 (fun w' => w'.cell? ⟨b, 1, none⟩ = some (.int .i64 nf) ∧ w'.cell? ⟨b, 2, none⟩ = some (.int .i64 np) ∧ w'.cell? ⟨b, 3, none⟩ = some (.int .i64 nn)) (first | exact c3 | exact c2 | exact c1 | exact c0)
      (first
        | (go_at_call_of 39 v3; refine (low_calls W1 w3.drew hF3d v3 l.load ho3d nf 2 (by omega) l0).mono ?_; rintro e w4 ⟨v4, rfl, ho4, hF4⟩; have c1 := Hy.out w4 hF4)
        | (go_at_call_of 39 v4; refine (low_calls W1 w4 hF4 v4 (l.load ++ lowB nf 2) ho4 np 2 (by omega) l1).mono ?_; rintro e w5 ⟨v5, rfl, ho5, hF5⟩; have c2 := Hy.out w5 hF5)
        | (go_at_call_of 39 v5; refine (low_calls W1 w5 hF5 v5 (l.load ++ lowB nf 2 ++ lowB np 2) ho5 nn 2 (by omega) l2).mono ?_; rintro e w6 ⟨v6, rfl, ho6, hF6⟩; have c3 := Hy.out w6 hF6))
    have hb6 := Hb1.out.frm hF6 (fun h => h)
    have z0 : w6.cell? ⟨b, 0, none⟩ = some (.int .i64 nk) := (hb6.cell 0).trans (by rw [← hnk]; rfl)
    have z4 : w6.cell? ⟨b, 4, none⟩ = some (.int .i64 ns) := (hb6.cell 4).trans (by rw [← hns]; rfl)
    obtain ⟨M, hM⟩ : ∃ M, l.load ++ lowB nf 2 ++ lowB np 2 ++ lowB nn 2 = M := ⟨_, rfl⟩
    have hMl : M.length = 122 := by rw [← hM]; simp [lowB_length, hl.load]
    rw [hM] at ho6
    have hfa := (Frm.refl NoB w6).alloc (.cells #[.int .u8 ((ns : Int) % 256), .int .u8 ((nk : Int) % 256)] 5)
    have hO1 := ho6.frm hfa
    have hlit := BRd.lit w6 [UInt8.ofNat ns, UInt8.ofNat nk] _ (lit11 ns nk)
    have hlen : M.length + [UInt8.ofNat ns, UInt8.ofNat nk].length ≤ 140737488355328 := by rw [hMl]; simp
    have hFa := hF6.alloc (.cells #[.int .u8 ((ns : Int) % 256), .int .u8 ((nk : Int) % 256)] 5)
    have HM := hide hM
    have HMl := hide hMl
    clear hM hMl c0 c1 c2 c3 hb6 hfa ho6 ho5 ho4 ho3d hF6 hF5 hF4 hF3d l0 l1 l2
    obtain ⟨A6, k6, rfl⟩ : ∃ A6 k6, v6 = .slice A6 M.length k6 := hO1.form
    go_wp2_with (first | (at_builtin; refine wpList_bytes rfl (.tmp 21) (.tmp 28) rfl W1 hFa (.slice A6 M.length k6) M rfl hO1 _ (.slice (some ⟨w6.heap.size, 0, none⟩) 2 2) [UInt8.ofNat ns, UInt8.ofNat nk] rfl hlit hlen ?_; intro v7 w7 hO7 hF7 _) | fail)
    have hB : (M ++ [UInt8.ofNat ns, UInt8.ofNat nk]).length ≤ 1099511627776 := by rw [List.length_append, HMl.out]; simp
    refine (Crc_calls _ v7 w7 hO7.rd (by omega)).mono ?_
    rintro e w8 ⟨rfl, rfl⟩
    obtain ⟨B, hBe⟩ : ∃ B, M ++ [UInt8.ofNat ns, UInt8.ofNat nk] = B := ⟨_, rfl⟩
    rw [hBe] at hO7 hB ⊢
    have hslt := (crc B).toNat_lt
    obtain ⟨s, hs⟩ : ∃ s, (crc B).toNat = s := ⟨_, rfl⟩
    rw [hs] at hslt ⊢
    have HBe := hide hBe
    have Hs := hide hs
    clear hBe hs
    go_wp2_with fail
    refine (low_calls W1 w7 hF7 v7 B hO7 s 4 (by omega) hB).mono ?_
    rintro e w9 ⟨v9, rfl, hO9, hF9⟩
    have hfin : Frm NoB w w9 := hF1.trans hF9 (fun _ _ h => h)
    have hsz6 : w.heap.size ≤ W1.heap.size := hF1.size
    rw [← Hs.out, ← HBe.out, ← HM.out] at hO9
    have Hfin := hide (show BOwn w w9 v9 l.put by rw [Hput.out]; exact hO9.mono fun g _ hg => Nat.le_trans hsz6 hg)
    clear hO9 hO7 hlit hO1
    go_wp2
    go_ret
    exact ⟨v9, rfl, Hfin.out, hfin⟩
  · have hput : Hid (l.put = []) := hide (if_neg hR)
    have HR := hide hR
    rw [decide_eq_false hR]
    clear hb1 hR
    go_wp2
    go_ret
    exact ⟨.slice none 0 0, rfl, by rw [hput.out]; exact BOwn.nil' w W1, hF1⟩
end Go.Proofs.YtablmgnhpciljaaDoor
