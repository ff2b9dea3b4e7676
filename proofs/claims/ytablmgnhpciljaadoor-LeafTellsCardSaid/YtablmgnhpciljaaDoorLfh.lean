/- leaf.Put and the reference's PutLeaf: the same bytes. -/
import Derived.Test.YtablmgnhpciljaaDoorLfg
namespace Go.Proofs.YtablmgnhpciljaaDoor
open Go.RowKit

def ALeaf.body (l : ALeaf) : List UInt8 := l.load ++ lowB l.file.toNat 2 ++ lowB l.place.toNat 2 ++ lowB l.next.toNat 2 ++ [UInt8.ofNat l.size.toNat, UInt8.ofNat l.kind.toNat]
def ALeaf.bytes (l : ALeaf) : List UInt8 := l.body ++ lowB (crc l.body).toNat 4
def ALeaf.put (l : ALeaf) : List UInt8 := if l.Right then l.bytes else []
theorem body_length {l : ALeaf} (h : l.ok) : l.body.length = 124 := by simp [ALeaf.body, lowB_length, h.load]
theorem bytes_length {l : ALeaf} (h : l.ok) : l.bytes.length = 128 := by simp [ALeaf.bytes, lowB_length, body_length h]
theorem BOwn.nil (w : World) : BOwn w w (.slice none 0 0) [] := ⟨⟨rfl, .inl ⟨rfl, rfl⟩⟩, fun g hg => by simp [Value.ownBlock] at hg⟩
theorem BOwn.nil' (w0 w : World) : BOwn w0 w (.slice none 0 0) [] := ⟨⟨rfl, .inl ⟨rfl, rfl⟩⟩, fun g hg => by simp [Value.ownBlock] at hg⟩
theorem lit2 (n : Nat) : #[.int .u8 ((n : Int) % 256), .int .u8 ((n : Int) / 256 % 256)] = ((lowB n 2).map byt).toArray := by
  simp [lowB, List.range_succ, byt_ofNat]
theorem lit11 (n m : Nat) : #[.int .u8 ((n : Int) % 256), .int .u8 ((m : Int) % 256)] = (([UInt8.ofNat n, UInt8.ofNat m]).map byt).toArray := by
  simp [byt_ofNat]
theorem load_leaf (w : World) (b : Nat) (l : ALeaf) (hl : l.ok) (h : Blk w b 24 l.cells) : (Instr.loadAt 24 (.pointer (some ⟨b, 0, none⟩))).run Tryd.prog w = .ok (.agg l.cells) w := by
  simp only [Instr.loadAt, Instr.sureAddr, Sem.run_bind, Sem.run_pure, Result.andThen_ok]
  exact run_loadVar_row w b 24 24 l.cells (0, 0) _ h Tryd.underlying24 rfl (by rw [ALeaf.cells_size hl]; kernel_rfl)

/-- append, with all that it may turn: the row's own block. -/
theorem wpList_bytes2 {w : World} {ops : Array Oper} {rest : List Oper} {o : Oper} {a : Act} {Q : Exit → Act → World → Prop} (hgd : o.guard = none) (s x : Operand)
    (ho : o.op = .call { callee := .builtin .append, args := #[s, x], argTypes := #[25, 25] }) (w0 : World) (hb : w0.heap.size ≤ w.heap.size)
    (v : Value) (l : List UInt8) (hs : a.eval s = v) (hown : BOwn w0 w v l)
    (G : Nat → Prop) (u : Value) (m : List UInt8) (hx : a.eval x = u) (hr : BRd w G u m) (hlen : l.length + m.length ≤ 140737488355328)
    (h : ∀ v' w', BOwn w0 w' v' (l ++ m) → Frm (fun g => v.ownBlock = some g) w w' → wpList Tryd.prog ops Q rest (a.put o.dst v') w') : wpList Tryd.prog ops Q (o :: rest) a w := by
  obtain ⟨i, hi, hz⟩ := Option.map_eq_some_iff.1 Tryd.infoByte
  injection hz with hz0 hz1
  injection hz1 with hz1 hz2
  refine wpList_app hgd s x 25 ho 5 i _ 1 1 Tryd.underlying25 hi hz0 hz1 hz2 rfl Nat.one_pos (fun g => v.ownBlock = some g) v l.length (l.map byt) hs (Own.at_ hown) G u m.length (m.map byt) hx hr (byt_one m) (by simp only [maxLen]; omega) (by omega) fun v' w' h1 h2 _ => h v' w' ?_ h2
  unfold BOwn
  rw [List.length_append, List.map_append]
  refine h1.mono fun g _ hg => ?_
  rcases hg with hg | hg
  · exact hown.2 g hg
  · exact Nat.le_trans hb hg.1
theorem BOwn.not {w0 w : World} {v : Value} {l : List UInt8} (h : BOwn w0 w v l) {g t : Nat} {cs : Array Value} (hb : Blk w g t cs) (ht : 5 ≠ t) : ¬ v.ownBlock = some g := fun hg => Own.ne h hb ht hg rfl
theorem leaf_size (l : ALeaf) (hl : l.ok) : (Tryd.prog.info? 24).map (·.size) = some l.cells.size := by rw [ALeaf.cells_size hl]; kernel_rfl

set_option maxRecDepth 100000 in
set_option maxHeartbeats 1000000 in
theorem Put_calls (l : ALeaf) (hl : l.ok) (w : World) : Calls Tryd.prog 8 #[.agg l.cells] w fun e w' => ∃ v', e = .returned v' ∧ BOwn w w' v' l.put ∧ Frm NoB w w' := by
  have hb0 := Blk.new w 24 l.cells
  have hF0 := (Frm.refl NoB w).alloc (.cells l.cells 24)
  have hs0 : w.heap.size ≤ (w.alloc (.cells l.cells 24)).heap.size := hF0.size
  go_enter Tryd.func8, Tryd.ntmps8
  go_upto_region 1 with (fail)
  obtain ⟨W, hW⟩ : ∃ W, w.alloc (.cells l.cells 24) = W := ⟨_, rfl⟩
  obtain ⟨b, hbe⟩ : ∃ b, w.heap.size = b := ⟨_, rfl⟩
  rw [hW] at hb0 hF0 ⊢
  rw [hbe] at hb0 ⊢
  clear hW hbe hs0
  have hsz := leaf_size l hl
  have Hb0 := hide hb0
  clear hb0
  go_wp2_with (first | (refine wpList_load_row rfl 24 _ rfl b rfl 24 l.cells (0, 0) _ Hb0.out Tryd.underlying24 rfl hsz ?_) | fail)
  refine (Right_calls l hl W).mono ?_
  rintro e W1 ⟨rfl, hf1⟩
  have hb1 := Hb0.out.frm hf1 (fun h => h)
  have hF1 := hF0.trans hf1 (fun _ _ h => h)
  clear hf1 Hb0 hsz
  by_cases hR : l.Right
  · rw [decide_eq_true hR]
    have hput : l.put = l.bytes := if_pos hR
    obtain ⟨⟨kf0, kf1⟩, ⟨kp0, kp1⟩, ⟨kn0, kn1⟩, ⟨kk0, kk1⟩, ⟨ks0, ks1⟩, -⟩ := hR
    obtain ⟨nf, hnf⟩ := Int.eq_ofNat_of_zero_le kf0
    obtain ⟨np, hnp⟩ := Int.eq_ofNat_of_zero_le kp0
    obtain ⟨nn, hnn⟩ := Int.eq_ofNat_of_zero_le kn0
    obtain ⟨nk, hnk⟩ := Int.eq_ofNat_of_zero_le (show 0 ≤ l.kind by omega)
    obtain ⟨ns, hns⟩ := Int.eq_ofNat_of_zero_le ks0
    have hbytes : l.bytes = (l.load ++ lowB nf 2 ++ lowB np 2 ++ lowB nn 2 ++ [UInt8.ofNat ns, UInt8.ofNat nk]) ++ lowB (crc (l.load ++ lowB nf 2 ++ lowB np 2 ++ lowB nn 2 ++ [UInt8.ofNat ns, UInt8.ofNat nk])).toNat 4 := by
      unfold ALeaf.bytes ALeaf.body
      rw [hnf, hnp, hnn, hnk, hns]
      rfl
    have Hput := hide (hput.trans hbytes)
    have hmk : ∀ w : World, (Instr.makeSlice 25 (.int .i64 0) (.int .i64 124)).run Tryd.prog w = .ok (.slice (some ⟨w.heap.size, 0, none⟩) 0 124) (w.alloc (.cells (madeCells #[.int .u8 0] 124) 5)) := make_bytes 0 124 (by omega) (by omega)
    have ho2 := own_made W1 0 124 (by omega) (by omega)
    rw [List.replicate_zero] at ho2
    have hF2 := (Frm.refl NoB W1).alloc (.cells (madeCells #[.int .u8 0] 124) 5)
    have hrd := (leaf_rest hb1 hl 0 (by omega) 5 (fun _ => rfl)).frm hF2
    rw [List.drop_zero, Nat.sub_zero] at hrd
    have h116 : ([] : List UInt8).length + l.load.length ≤ 140737488355328 := by rw [hl.load]; simp
    have Hb1 := hide hb1
    clear hput hbytes hb1 kf0 kf1 kp0 kp1 kn0 kn1 kk0 kk1 ks0 ks1
    go_upto_region 5 with (first | (at_builtin; refine wpList_bytes rfl (.tmp 10) (.tmp 12) rfl W1 hF2 (.slice (some ⟨W1.heap.size, 0, none⟩) 0 124) [] rfl ho2 _ (.slice (some ⟨b, 5, none⟩) 116 116) l.load rfl hrd h116 ?_; intro v3 w3 ho3 hF3 _) | fail)
    rw [List.nil_append] at ho3
    have hb3 := Hb1.out.frm hF3 (fun h => h)
    clear hrd hF2 ho2 hmk h116
    have y1 : w3.cell? ⟨b, 1, none⟩ = some (.int .i64 nf) := (hb3.cell 1).trans (by rw [← hnf]; rfl)
    have y2 : w3.cell? ⟨b, 2, none⟩ = some (.int .i64 np) := (hb3.cell 2).trans (by rw [← hnp]; rfl)
    have y3 : w3.cell? ⟨b, 3, none⟩ = some (.int .i64 nn) := (hb3.cell 3).trans (by rw [← hnn]; rfl)
    clear hb3
    have ho4 := ho3.frm ((Frm.refl NoB w3).alloc (.cells #[.int .i64 nf, .int .i64 np, .int .i64 nn] 3))
    have hF4 := hF3.alloc (.cells #[.int .i64 nf, .int .i64 np, .int .i64 nn] 3)
    have hc4 := Blk.new w3 3 #[.int .i64 nf, .int .i64 np, .int .i64 nn]
    clear ho3
    go_wp2_with fail
    obtain ⟨w4, hw4⟩ : ∃ w4, w3.alloc (.cells #[.int .i64 nf, .int .i64 np, .int .i64 nn] 3) = w4 := ⟨_, rfl⟩
    obtain ⟨g, hge⟩ : ∃ g, w3.heap.size = g := ⟨_, rfl⟩
    rw [hw4] at ho4 hF4 hc4 ⊢
    rw [hge] at hc4 ⊢
    clear hw4 hge y1 y2 y3 hF3
    obtain ⟨L, hL⟩ : ∃ L : List Nat, L = [nf, np, nn] := ⟨_, rfl⟩
    have hLl : Hid (L.length = 3) := hide (by rw [hL]; rfl)
    obtain ⟨cs, hcs⟩ : ∃ cs : Array Value, cs = #[.int .i64 nf, .int .i64 np, .int .i64 nn] := ⟨_, rfl⟩
    rw [← hcs] at hc4
    have hcell : Hid (∀ k (h : k < L.length), cs[k]? = some (.int .i64 (L[k] : Nat))) := hide (by
      intro k h
      subst hL hcs
      have : k < 3 := h
      match k, this with
      | 0, _ => rfl
      | 1, _ => rfl
      | 2, _ => rfl)
    have HL := hide hL
    clear hL hcs
    go_loopw [3, 22] (fun bv iv wr => ∃ k : Nat, k ≤ 3 ∧ iv = .int .i64 k ∧ BOwn W1 wr bv (l.load ++ ((L.take k).map fun n => lowB n 2).flatten) ∧ Frm NoB W1 wr ∧ Blk wr g 3 cs) (fun _ iv _ => 3 - (intOf iv).toNat)
    case atStart => exact ⟨0, by omega, rfl, by simpa using ho4, hF4, hc4⟩
    case round =>
      obtain ⟨k, hk, rfl, hO, hF, hC⟩ := hrel
      obtain ⟨M, hM⟩ : ∃ M, l.load ++ ((L.take k).map fun n => lowB n 2).flatten = M := ⟨_, rfl⟩
      rw [hM] at hO
      obtain ⟨A, c, rfl⟩ := hO.form
      by_cases hlt : k < 3
      · have hkl : k < L.length := by rw [hLl.out]; exact hlt
        have hck : wr.cell? ⟨g, k, none⟩ = some (.int .i64 (L[k] : Nat)) := (hC.cell k).trans (hcell.out k hkl)
        obtain ⟨n, hn⟩ : ∃ n, L[k] = n := ⟨_, rfl⟩
        rw [hn] at hck
        have hfa := (Frm.refl NoB wr).alloc (.cells #[.int .u8 ((n : Int) % 256), .int .u8 ((n : Int) / 256 % 256)] 5)
        have hO1 := hO.frm hfa
        have hlit := BRd.lit wr (lowB n 2) _ (lit2 n)
        rw [lowB_length] at hlit
        have hlen : M.length + (lowB n 2).length ≤ 140737488355328 := by
          rw [← hM, lowB_length, List.length_append, hl.load]
          have : (((L.take k).map fun n => lowB n 2).flatten).length = 2 * min k L.length := by
            simp [List.length_flatten, List.map_map, Function.comp_def, lowB_length, List.map_const']
            omega
          rw [this]
          omega
        have hsz := Nat.le_trans hF.size hfa.size
        have Hno := hide (hO1.not (hC.alloc (.cells #[.int .u8 ((n : Int) % 256), .int .u8 ((n : Int) / 256 % 256)] 5)) (by decide))
        have HC := hide (hC.alloc (.cells #[.int .u8 ((n : Int) % 256), .int .u8 ((n : Int) / 256 % 256)] 5))
        have HF := hide (hF.alloc (.cells #[.int .u8 ((n : Int) % 256), .int .u8 ((n : Int) / 256 % 256)] 5))
        have Hn := hide hn
        have HM := hide hM
        clear hO hC hfa hF hn hM
        go_wp2_with (first | (at_builtin; refine wpList_bytes2 rfl (.tmp 26) (.tmp 32) rfl W1 hsz (.slice A M.length c) M rfl hO1 _ (.slice (some ⟨wr.heap.size, 0, none⟩) 2 2) (lowB n 2) rfl hlit hlen ?_; intro v5 w5 hO5 hF5) | fail)
        have hL5 : l.load ++ ((L.take (k + 1)).map fun n => lowB n 2).flatten = M ++ lowB n 2 := by
          have e : L.take (k + 1) = L.take k ++ [n] := by rw [List.take_add_one, List.getElem?_eq_getElem hkl, Hn.out]; rfl
          rw [← HM.out, e, List.map_append, List.flatten_append, List.append_assoc]
          simp
        rw [← hL5] at hO5
        exact ⟨⟨k + 1, by omega, rfl, hO5, HF.out.trans hF5 (fun i hi hx => absurd (hO1.2 i hx) (Nat.not_le_of_lt hi)), HC.out.frm hF5 Hno.out⟩, by simp only [intOf]; omega⟩
      · obtain rfl : k = 3 := by omega
        have hb5 := Hb1.out.frm hF (fun h => h)
        have z0 : wr.cell? ⟨b, 0, none⟩ = some (.int .i64 nk) := (hb5.cell 0).trans (by rw [← hnk]; rfl)
        have z4 : wr.cell? ⟨b, 4, none⟩ = some (.int .i64 ns) := (hb5.cell 4).trans (by rw [← hns]; rfl)
        have hM3 : M = l.load ++ lowB nf 2 ++ lowB np 2 ++ lowB nn 2 := by
          rw [← hM, List.take_of_length_le (by rw [hLl.out]; exact Nat.le_refl _), HL.out]
          simp
        have hMl : M.length = 122 := by rw [hM3]; simp [lowB_length, hl.load]
        have hfa := (Frm.refl NoB wr).alloc (.cells #[.int .u8 ((ns : Int) % 256), .int .u8 ((nk : Int) % 256)] 5)
        have hO1 := hO.frm hfa
        have hlit := BRd.lit wr [UInt8.ofNat ns, UInt8.ofNat nk] _ (lit11 ns nk)
        have hlen : M.length + [UInt8.ofNat ns, UInt8.ofNat nk].length ≤ 140737488355328 := by rw [hMl]; simp
        have hFa := hF.alloc (.cells #[.int .u8 ((ns : Int) % 256), .int .u8 ((nk : Int) % 256)] 5)
        have HM3 := hide hM3
        have HMl := hide hMl
        clear hM hM3 hMl hO hC hb5 hfa hF
        go_wp2_with (first | (at_builtin; refine wpList_bytes rfl (.tmp 35) (.tmp 42) rfl W1 hFa (.slice A M.length c) M rfl hO1 _ (.slice (some ⟨wr.heap.size, 0, none⟩) 2 2) [UInt8.ofNat ns, UInt8.ofNat nk] rfl hlit hlen ?_; intro v6 w6 hO6 hF6 _) | fail)
        refine (Close_calls (M ++ [UInt8.ofNat ns, UInt8.ofNat nk]) v6 w6 hO6.rd (by rw [List.length_append, HMl.out]; simp)).mono ?_
        rintro e w7 ⟨v7, rfl, hO7, hF7⟩
        have hfin : Frm NoB w w7 := (hF1.trans hF6 (fun _ _ h => h)).trans hF7 (fun _ _ h => h)
        have hsz6 : w.heap.size ≤ w6.heap.size := Nat.le_trans hF1.size hF6.size
        rw [HM3.out] at hO7
        have Hfin := hide (show BOwn w w7 v7 l.put by rw [Hput.out]; exact hO7.mono fun g _ hg => Nat.le_trans hsz6 hg)
        clear hO7 hO6 hlit hO1
        go_wp2
        go_ret
        exact ⟨v7, rfl, Hfin.out, hfin⟩
  · have hput : Hid (l.put = []) := hide (if_neg hR)
    have HR := hide hR
    rw [decide_eq_false hR]
    clear hb1 hR
    go_wp2
    go_ret
    exact ⟨.slice none 0 0, rfl, by rw [hput.out]; exact BOwn.nil' w W1, hF1⟩
end Go.Proofs.YtablmgnhpciljaaDoor
