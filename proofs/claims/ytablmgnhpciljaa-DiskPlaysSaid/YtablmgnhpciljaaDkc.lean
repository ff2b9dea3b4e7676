/- Disk: Write. -/
import Derived.Test.YtablmgnhpciljaaDkb
import Derived.Deep.RegionWith
import Derived.Deep.RegionHeld3
import Derived.Deep.DeepFit
namespace Go.Proofs.Ytablmgnhpciljaa
open Go.RowKit

/-- Write a block: what becomes of the disk, and the status. -/
def ADisk.write (D : ADisk) (i : Int) (l : List Value) : ADisk × Int :=
  if 0 ≤ i ∧ i < D.blocks.length ∧ l.length = 128 then
    if D.can = true then ({ D.goes with wrote := wrap64 (D.wrote + 1), waits := D.waits ++ [(i.toNat, l)] }, 0) else (D.goes, 7)
  else (D, 1)

section
variable {w : World} {p : Nat} {S F G : Nat → Prop} {D : ADisk} {bv wv : Value} {bs ws : List Value}

/-- What waits is turned: a new array's value is stored into the disk. -/
theorem DiskIn.putWaits {w5 : World} (h : DiskIn w p S F D bv wv bs ws) {T : Nat → Prop} (hT : ∀ g, T g → wv.ownBlock = some g) (hf : Frm T w w5) (v' v'' : Value) (i : Nat) (l : List Value)
    (ho : Own w5 (OrB T (NewB w w5)) 57 2 v'' (D.waits.length + 1) (ws ++ [.int .i64 (i : Nat), v'])) (hv : BlockIs w5 (NewB w w5) v' (some l)) (hi : i < D.blocks.length) :
    DiskIn (w5.setCell ⟨p, 1, none⟩ v'') p (OrB S (NewB w w5)) (OrB F (NewB w w5)) { D with waits := D.waits ++ [(i, l)] } bv v'' bs (ws ++ [.int .i64 (i : Nat), v']) := by
  have hpT : ¬ T p := fun hp => (h.wt.ne h.blk (by decide) (hT p hp)) rfl
  have hb5 : Blk w5 p 53 #[bv, wv, .int .i64 D.fuse, .bool D.off, .int .i64 D.wrote] := h.blk.frm hf hpT
  have hcont : ∀ (v : Value) (o : Option (List Value)), BlockIs w F v o → BlockIs (w5.setCell ⟨p, 1, none⟩ v'') (OrB F (NewB w w5)) v o := by
    intro v o hv
    refine ((hv.keepAt (w' := w5) fun g cs hg => hf.block g (lt_of_heap hg) fun hg' => ?_).put hb5 (by decide) 1 v'').mono fun b _ hb => .inl hb
    exact (h.wt.ne hg (by decide) (hT g hg')) rfl
  have hwl : ws.length = 2 * D.waits.length := by rw [h.wt.1.1, Nat.mul_comm]
  refine ⟨?_, .inl h.own, ?_, ?_, ?_, ?_, ?_⟩
  · exact hb5.put 1 v''
  · refine ((h.bl.keepAt (w' := w5) fun g hg => hf.block g (h.bl.lt hg) fun hg' => ?_).keepAt fun g hg => ?_).mono fun b _ hb => .inl hb
    · exact h.bl.neOwn h.wt (by decide) hg (hT g hg')
    · exact Below.heap_setCell _ _ _ _ (h.bl.ne h.blk (by decide) hg)
  · rw [List.length_append, List.length_singleton]
    refine (ho.keepAt fun g hg => Below.heap_setCell _ _ _ _ (ho.ne hb5 (by decide) hg)).mono fun b _ hb => ?_
    rcases hb with hb | hb
    · exact .inl (h.wt.2 b (hT b hb))
    · exact .inr hb
  · intro j hj
    obtain ⟨v, e, hv⟩ := h.bls j hj
    exact ⟨v, e, hcont v _ hv⟩
  · intro j hj
    simp only [List.length_append, List.length_singleton] at hj
    rcases Nat.lt_or_ge j D.waits.length with hlt | hge
    · obtain ⟨e0, v, e, hv⟩ := h.wts j hlt
      refine ⟨?_, v, ?_, ?_⟩
      · rw [List.getElem?_append_left (by omega), List.getElem_append_left hlt]; exact e0
      · rw [List.getElem?_append_left (by omega)]; exact e
      · rw [List.getElem_append_left hlt]; exact hcont v _ hv
    · obtain rfl : j = D.waits.length := by omega
      refine ⟨?_, v', ?_, ?_⟩
      · rw [List.getElem?_append_right (by omega), hwl]
        simp
      · rw [List.getElem?_append_right (by omega), hwl]
        simp
      · simp only [List.getElem_append_right (Nat.le_refl _), Nat.sub_self, List.getElem_singleton]
        exact (hv.put hb5 (by decide) 1 v'').mono fun b _ hb => .inr hb
  · obtain ⟨k1, k2, k3, k4, k5⟩ := h.ok
    refine ⟨k1, k2, k3, k4, fun x hx => ?_⟩
    rcases List.mem_append.1 hx with hx | hx
    · exact k5 x hx
    · simp at hx; subst hx; exact hi

/-- The store behind the copy and the append. -/
theorem DiskIn.written {w2 w3 w5 : World} {T : Nat → Prop} (h : DiskIn w2 p S F D bv wv bs ws) (hT : ∀ g, T g → wv.ownBlock = some g) (o : Obj) (hf3 : Frm NoB w2 w3) (hf5 : Frm T (w3.alloc o) w5) (v' v'' : Value) (n i : Nat) (l : List Value) (hn : n = D.waits.length + 1)
    (h3 : Own w3 (NewB w2 w3) 5 1 v' 128 l) (hb : isBlock l) (h5 : Own w5 (OrB T (NewB (w3.alloc o) w5)) 57 2 v'' n (ws ++ [.int .i64 (i : Nat), v'])) (hi : i < D.blocks.length) :
    DiskAt (w5.setCell ⟨p, 1, none⟩ v'') p (OrB S (NewB w2 w5)) (OrB F (NewB w2 w5)) { D with waits := D.waits ++ [(i, l)] } ∧ Frm S w2 (w5.setCell ⟨p, 1, none⟩ v'') := by
  subst hn
  have hf : Frm T w2 w5 := ((hf3.alloc o).mono (fun _ _ h => h.elim)).trans hf5 (fun _ _ h => h)
  have hTS : ∀ g, T g → S g := fun g hg => h.wt.2 g (hT g hg)
  refine ⟨⟨_, _, _, _, h.putWaits hT hf v' v'' i l (h5.mono fun b _ hb => ?_) ⟨?_, hb⟩ hi⟩, (hf.mono fun g _ hg => hTS g hg).setCell (fun _ => h.own) _⟩
  · rcases hb with hb | hb
    · exact .inl hb
    · exact .inr ⟨by have := hb.1; have := hf3.size; simp at *; omega, hb.2⟩
  · refine ((h3.frm ((Frm.refl NoB w3).alloc o) (fun _ _ _ h => h)).frm hf5 (fun b hb hl hg => ?_)).mono fun b hl hb => ⟨hb.1, hl⟩
    exact absurd hb.1 (by have := h.wt.lt (hT b hg); omega)

set_option maxHeartbeats 400000 in
theorem Disk_Write_yes (h : DiskAt w p S F D) (i : Nat) (v : Value) (l : List Value) (hr : Rd w G 1 v 128 l) (hb : isBlock l) (hd : ∀ b, b < w.heap.size → G b → ¬ S b)
    (hi' : i < D.blocks.length) (hcan : D.can = true) (hlen : D.waits.length ≤ 1099511627776) :
    Calls Try.prog 7 #[.pointer (some ⟨p, 0, none⟩), .int .i64 (i : Nat), v] w fun e w' =>
      e = .returned (.int .i64 0) ∧ DiskAt w' p (OrB S (NewB w w')) (OrB F (NewB w w')) { D.goes with wrote := wrap64 (D.wrote + 1), waits := D.waits ++ [(i, l)] } ∧ Frm S w w' := by
  have hhas : decide (0 ≤ (i : Int) ∧ (i : Int) < D.blocks.length) = true := by simp [hi']
  obtain ⟨_, A, c, rfl, hc, _⟩ := id hr
  obtain ⟨i0, hi0, hz0, hz1, hz2⟩ := info_parts Try.info57
  go_enter Try.func7, Try.ntmps7
  go_wp2_with fail
  refine (Disk_has h i).mono ?_
  rintro e w' ⟨rfl, rfl⟩
  rw [hhas]
  clear hhas
  go_wp2_with fail
  refine (Disk_goes h).mono ?_
  rintro e w1 ⟨rfl, h1, hf1⟩
  rw [hcan]
  clear hcan
  obtain ⟨bv, wv, bs, ws, h1⟩ := h1
  have c4 := h1.blk.cell 4
  have f4 := h1.blk.frozen 4
  go_wp2_with fail
  have h2 := h1.put 4 (.int .i64 (wrap64 (D.goes.wrote + 1))) (D' := { D.goes with wrote := wrap64 (D.goes.wrote + 1) }) rfl rfl h1.ok rfl
  have hf2 := hf1.trans (h1.frmPut 4 (.int .i64 (wrap64 (D.goes.wrote + 1)))) (fun _ _ h => h)
  clear h1 hf1 c4 f4
  obtain ⟨w2, hw2⟩ : ∃ x, x = w1.setCell ⟨p, 4, none⟩ (.int .i64 (wrap64 (D.goes.wrote + 1))) := ⟨_, rfl⟩
  rw [← hw2] at h2 hf2 ⊢
  clear hw2
  have hr2 : Rd w2.drew G 1 (.slice A 128 c) 128 l := hr.frm hf2.drew (fun b hb hl => hd b hl hb)
  have c1 := h2.blk.cell 1
  have ho2 : Own w2.drew (fun g => wv.ownBlock = some g) 57 2 wv D.goes.waits.length ws := h2.wt.at_
  have hb1 : Blk w2.drew p 53 #[bv, wv, .int .i64 D.goes.fuse, .bool D.goes.off, .int .i64 (wrap64 (D.goes.wrote + 1))] := h2.blk
  have htp : ∀ g, wv.ownBlock = some g → g ≠ p := fun g hg => h2.wt.ne h2.blk (by decide) hg
  have hf2' : Frm NoB w2.drew w2.drew := Frm.refl _ _
  have hgw : D.goes.waits.length = D.waits.length := by rw [ADisk.goes_waits]
  have Hgw := hide hgw
  have hlen2 : D.goes.waits.length ≤ 1099511627776 := by omega
  clear hgw
  have hnn : ∀ c', Value.slice A 128 c = .slice none 128 c' → Value.slice A 128 c = .slice none 0 0 := by
    intro c' hA
    injection hA with hA
    subst hA
    obtain ⟨_, A2, c2, e2, _, h6⟩ := hr
    injection e2 with e2
    obtain ⟨b, off, h7, _⟩ := h6 (by omega)
    rw [← e2] at h7
    cases h7
  have hone : ∀ u ∈ l, u.oneCell' = true := by
    intro u hu
    obtain ⟨x, rfl⟩ := hb.2 u hu
    rfl
  clear hr
  go_region_law (first | (go_simp; go_at_call 27; refine (clone_bytes w2.drew G _ 128 l hr2 hone (by omega) hnn).mono ?_; rintro e w3 ⟨v', rfl, _, hown3, hf3⟩; have hb3 := hb1.frm hf3 (fun h => h); have c3 := hb3.cell 1; have hlt3 := hb3.lt; obtain ⟨A3, c3', rfl⟩ := hown3.form) | (refine step_app rfl (.tmp 30) (.tmp 35) 51 rfl 57 i0 _ 2 32 Try.underlying51 hi0 hz0 hz1 hz2 rfl (by omega) _ wv _ ws ?c1 ((ho2.frm hf3 (fun _ _ _ h => h)).frm ((Frm.refl NoB w3).alloc _) (fun _ _ _ h => h)) _ (.slice (some ⟨w3.heap.size, 0, none⟩) 1 1) 1 [.int .i64 (i : Nat), .slice A3 128 c3'] ?c2 (rd_lit w3 _ 2 1 #[.int .i64 (i : Nat), .slice A3 128 c3'] rfl) ?c3 ?c4 ?c5 ?_; (case c1 => go_simp); (case c2 => go_simp); (case c3 => simp [Value.oneCell']); (case c4 => simp only [maxLen]; omega); (case c5 => omega); intro v'' w5 hown5 hf5 hnil5; have hb5 := ((hb1.frm hf3 (fun h => h)).alloc _).frm hf5 (fun h => htp p h rfl); have c5 := hb5.cell 1; have f5 := hb5.frozen 1; obtain ⟨A5, c5', rfl⟩ := hown5.form))
  all_goals
    go_wp2
    go_ret
    obtain ⟨g1, g2⟩ := DiskIn.written (w2 := w2.drew) (p := p) (S := S) (F := F) (T := fun g => wv.ownBlock = some g) h2.drew (fun _ h => h) _ hf3 hf5 _ _ _ i l rfl hown3 hb hown5 (by rw [ADisk.goes_blocks]; exact hi')
    refine ⟨rfl, ?_, hf2.drew.trans g2 (fun _ _ h => h)⟩
    rw [show ({ D.goes with wrote := wrap64 (D.wrote + 1), waits := D.waits ++ [(i, l)] } : ADisk) = { ({ D.goes with wrote := wrap64 (D.goes.wrote + 1) } : ADisk) with waits := D.goes.waits ++ [(i, l)] } from by simp only [ADisk.goes_waits, ADisk.goes_wrote]]
    refine g1.mono (fun b _ hb => ?_) (fun b _ hb => ?_)
    · rcases hb with hb | hb
      · exact .inl hb
      · exact .inr ⟨Nat.le_trans hf2.size hb.1, by simpa using hb.2⟩
    · rcases hb with hb | hb
      · exact .inl hb
      · exact .inr ⟨Nat.le_trans hf2.size hb.1, by simpa using hb.2⟩

/-- Write of a block that can't be: nothing is done. -/
theorem Disk_Write_bad (h : DiskAt w p S F D) (i : Int) (v : Value) (n : Nat) (l : List Value) (hr : Rd w G 1 v n l) (hno : ¬ (0 ≤ i ∧ i < D.blocks.length ∧ n = 128)) :
    Calls Try.prog 7 #[.pointer (some ⟨p, 0, none⟩), .int .i64 i, v] w fun e w' => e = .returned (.int .i64 1) ∧ w = w' := by
  obtain ⟨_, A, c, rfl, hc, _⟩ := id hr
  clear hr
  by_cases hh : 0 ≤ i ∧ i < D.blocks.length
  · have hhas : decide (0 ≤ i ∧ i < D.blocks.length) = true := by simpa using hh
    have h128 : ((n : Int) != 128) = true := by simp; omega
    clear hno hc
    go_enter Try.func7, Try.ntmps7
    go_wp2_with fail
    refine (Disk_has h i).mono ?_
    rintro e w' ⟨rfl, rfl⟩
    rw [hhas]
    clear hhas
    go_wp2
    go_ret
    exact ⟨rfl, rfl⟩
  · have hhas : decide (0 ≤ i ∧ i < D.blocks.length) = false := by simpa using hh
    clear hno hc
    go_enter Try.func7, Try.ntmps7
    go_wp2_with fail
    refine (Disk_has h i).mono ?_
    rintro e w' ⟨rfl, rfl⟩
    rw [hhas]
    clear hhas
    go_wp2
    go_ret
    exact ⟨rfl, rfl⟩

/-- Write where the power is gone. -/
theorem Disk_Write_down (h : DiskAt w p S F D) (i : Int) (v : Value) (l : List Value) (hr : Rd w G 1 v 128 l) (hi : 0 ≤ i) (hi' : i < D.blocks.length) (hcan : D.can = false) :
    Calls Try.prog 7 #[.pointer (some ⟨p, 0, none⟩), .int .i64 i, v] w fun e w' => e = .returned (.int .i64 7) ∧ DiskAt w' p S F D.goes ∧ Frm S w w' := by
  obtain ⟨_, A, c, rfl, hc, _⟩ := id hr
  clear hr
  have hhas : decide (0 ≤ i ∧ i < D.blocks.length) = true := by simp [hi, hi']
  go_enter Try.func7, Try.ntmps7
  go_wp2_with fail
  refine (Disk_has h i).mono ?_
  rintro e w' ⟨rfl, rfl⟩
  rw [hhas]
  clear hhas
  go_wp2_with fail
  refine (Disk_goes h).mono ?_
  rintro e w1 ⟨rfl, h1, hf1⟩
  rw [hcan]
  clear hcan
  go_wp2
  go_ret
  exact ⟨rfl, h1, hf1⟩

/-- Write, whatever comes. -/
theorem Disk_Write (h : DiskAt w p S F D) (i : Int) (v : Value) (n : Nat) (l : List Value) (hr : Rd w G 1 v n l) (hb : ∀ u ∈ l, isByte u) (hd : ∀ b, b < w.heap.size → G b → ¬ S b) (hlen : D.waits.length ≤ 1099511627776) :
    Calls Try.prog 7 #[.pointer (some ⟨p, 0, none⟩), .int .i64 i, v] w fun e w' =>
      e = .returned (.int .i64 (D.write i l).2) ∧ DiskAt w' p (OrB S (NewB w w')) (OrB F (NewB w w')) (D.write i l).1 ∧ Frm S w w' := by
  have hl : l.length = n := by have := hr.1; omega
  by_cases hg : 0 ≤ i ∧ i < D.blocks.length ∧ n = 128
  · obtain ⟨h0, h1, rfl⟩ := hg
    cases hc : D.can with
    | true =>
      have e : D.write i l = ({ D.goes with wrote := wrap64 (D.wrote + 1), waits := D.waits ++ [(i.toNat, l)] }, 0) := by
        unfold ADisk.write; rw [if_pos ⟨h0, h1, hl⟩, if_pos hc]
      rw [e]
      obtain ⟨k, rfl⟩ := Int.eq_ofNat_of_zero_le h0
      exact Disk_Write_yes h k v l hr ⟨hl, hb⟩ hd (by omega) hc hlen
    | false =>
      have e : D.write i l = (D.goes, 7) := by
        unfold ADisk.write; rw [if_pos ⟨h0, h1, hl⟩, if_neg (by simp [hc])]
      rw [e]
      refine (Disk_Write_down h i v l hr h0 h1 hc).mono ?_
      rintro e w' ⟨rfl, h2, h3⟩
      exact ⟨rfl, h2.mono (fun _ _ h => .inl h) (fun _ _ h => .inl h), h3⟩
  · have e : D.write i l = (D, 1) := by unfold ADisk.write; rw [if_neg (by rw [hl]; exact hg)]
    rw [e]
    refine (Disk_Write_bad h i v n l hr hg).mono ?_
    rintro e w' ⟨rfl, rfl⟩
    exact ⟨rfl, h.mono (fun _ _ h => .inl h) (fun _ _ h => .inl h), Frm.refl _ _⟩
end
end Go.Proofs.Ytablmgnhpciljaa
