/- Rows of bytes that grow: append at bytes; the reference's low. -/
import Derived.Test.YtablmgnhpciljaaDoorLfa
import Derived.WalkLawsBesides
import Derived.WalkSpells
import Derived.BigQuiet
namespace Go.Proofs.YtablmgnhpciljaaDoor
open Go.RowKit

theorem Tryd.infoByte : (Tryd.prog.info? 5).map (fun i => (i.zero, i.size, i.bytes)) = some (some (.int .u8 0), 1, 1) := by kernel_rfl
/-- A row of bytes made since w0; a row of bytes that reads. -/
def BOwn (w0 w : World) (v : Value) (l : List UInt8) : Prop := Own w (GeB w0) 5 1 v l.length (l.map byt)
def BRd (w : World) (F : Nat → Prop) (v : Value) (l : List UInt8) : Prop := Rd w F 1 v l.length (l.map byt)
theorem byt_one (l : List UInt8) : ∀ u ∈ l.map byt, u.oneCell' = true := by
  intro u hu
  obtain ⟨x, _, rfl⟩ := List.mem_map.1 hu
  rfl
section
variable {w0 w w' : World} {F S : Nat → Prop} {v u : Value} {l m : List UInt8}
theorem BOwn.rd (h : BOwn w0 w v l) : BRd w (GeB w0) v l := Own.rd h
theorem BOwn.frm (h : BOwn w0 w v l) (hf : Frm NoB w w') : BOwn w0 w' v l := Own.frm h hf (fun _ _ _ h => h)
theorem BOwn.form (h : BOwn w0 w v l) : ∃ A c, v = .slice A l.length c := Own.form h
theorem BRd.frm (h : BRd w F v l) (hf : Frm NoB w w') : BRd w' F v l := Rd.frm h hf (fun _ _ _ h => h)
theorem BRd.form (h : BRd w F v l) : ∃ A c, v = .slice A l.length c ∧ l.length ≤ c := Rd.byteAt' h
theorem BRd.nil (w : World) (F : Nat → Prop) : BRd w F (.slice none 0 0) [] := ⟨rfl, none, 0, rfl, Nat.le_refl _, fun h => absurd h (by simp)⟩
theorem BOwn.lit0 (h : w0.heap.size ≤ w.heap.size) : BOwn w0 (w.alloc (.cells #[] 5)) (.slice (some ⟨w.heap.size, 0, none⟩) 0 0) [] := own_lit0G h 5 1
theorem BRd.lit (w : World) (l : List UInt8) (cs : Array Value) (h : cs = (l.map byt).toArray) : BRd (w.alloc (.cells cs 5)) (NewB w (w.alloc (.cells cs 5))) (.slice (some ⟨w.heap.size, 0, none⟩) l.length l.length) l := by
  subst h
  have := rd_lit w 5 1 l.length (l.map byt).toArray (by simp)
  simpa [BRd] using this
end

theorem wpList_bytes {w : World} {ops : Array Oper} {rest : List Oper} {o : Oper} {a : Act} {Q : Exit → Act → World → Prop} (hgd : o.guard = none) (s x : Operand)
    (ho : o.op = .call { callee := .builtin .append, args := #[s, x], argTypes := #[25, 25] }) (w0 : World) (hb : Frm NoB w0 w)
    (v : Value) (l : List UInt8) (hs : a.eval s = v) (hown : BOwn w0 w v l)
    (G : Nat → Prop) (u : Value) (m : List UInt8) (hx : a.eval x = u) (hr : BRd w G u m) (hlen : l.length + m.length ≤ 140737488355328)
    (h : ∀ v' w', BOwn w0 w' v' (l ++ m) → Frm NoB w0 w' → (v' = .slice none 0 0 ↔ v = .slice none 0 0 ∧ m.length = 0) → wpList Tryd.prog ops Q rest (a.put o.dst v') w') : wpList Tryd.prog ops Q (o :: rest) a w := by
  obtain ⟨i, hi, hz⟩ := Option.map_eq_some_iff.1 Tryd.infoByte
  injection hz with hz0 hz1
  injection hz1 with hz1 hz2
  refine wpList_new hgd s x 25 ho w0 hb 5 i _ 1 1 Tryd.underlying25 hi hz0 hz1 hz2 rfl Nat.one_pos v l.length (l.map byt) hs hown G u m.length (m.map byt) hx hr (byt_one m) (by simp only [maxLen]; omega) (by omega) fun v' w' h1 h2 h3 => h v' w' ?_ h2 h3
  unfold BOwn
  rw [List.length_append, List.map_append]
  exact h1
theorem step_bytes {w : World} {ops : Array Oper} {o : Oper} {a : Act} {K : Act → World → Prop} {Q : Exit → Act → World → Prop} {E : Prop} (hgd : o.guard = none) (s x : Operand)
    (ho : o.op = .call { callee := .builtin .append, args := #[s, x], argTypes := #[25, 25] }) (w0 : World) (hb : Frm NoB w0 w)
    (v : Value) (l : List UInt8) (hs : a.eval s = v) (hown : BOwn w0 w v l)
    (G : Nat → Prop) (u : Value) (m : List UInt8) (hx : a.eval x = u) (hr : BRd w G u m) (hlen : l.length + m.length ≤ 140737488355328)
    (h : ∀ v' w', BOwn w0 w' v' (l ++ m) → Frm NoB w0 w' → (v' = .slice none 0 0 ↔ v = .slice none 0 0 ∧ m.length = 0) → K (a.put o.dst v') w') :
    if Region.wanted o (yielded ops a.tmps) = true then Oper.wp Tryd.prog o a w K Q else E := by
  obtain ⟨i, hi, hz⟩ := Option.map_eq_some_iff.1 Tryd.infoByte
  injection hz with hz0 hz1
  injection hz1 with hz1 hz2
  refine step_new hgd s x 25 ho w0 hb 5 i _ 1 1 Tryd.underlying25 hi hz0 hz1 hz2 rfl Nat.one_pos v l.length (l.map byt) hs hown G u m.length (m.map byt) hx hr (byt_one m) (by simp only [maxLen]; omega) (by omega) fun v' w' h1 h2 h3 => h v' w' ?_ h2 h3
  unfold BOwn
  rw [List.length_append, List.map_append]
  exact h1

/-- A number's lowest bytes. -/
def lowB (n : Nat) (k : Nat) : List UInt8 := (List.range k).map fun j => UInt8.ofNat (n / 2 ^ (8 * j))
theorem lowB_length (n k : Nat) : (lowB n k).length = k := by simp [lowB]
theorem lowB_succ (n k : Nat) : lowB n (k + 1) = lowB n k ++ [UInt8.ofNat (n / 2 ^ (8 * k))] := by simp [lowB, List.range_succ]
theorem byt_ofNat (n : Nat) : byt (UInt8.ofNat n) = .int .u8 ((n % 256 : Nat) : Int) := by
  simp [byt, UInt8.toNat_ofNat']

set_option maxHeartbeats 1000000 in
theorem low_calls (w0 w : World) (hb : Frm NoB w0 w) (v : Value) (l : List UInt8) (ho : BOwn w0 w v l) (n k : Nat) (hk : k ≤ 4) (hl : l.length ≤ 1099511627776) :
    Calls Tryd.prog 39 #[v, .int .i64 n, .int .i64 k] w fun e w' => ∃ v', e = .returned v' ∧ BOwn w0 w' v' (l ++ lowB n k) ∧ Frm NoB w0 w' := by
  go_enter Tryd.func39, Tryd.ntmps39
  go_wp2_with fail
  go_loopw [0, 9] (fun bv iv wr => ∃ j : Nat, j ≤ k ∧ iv = .int .i64 j ∧ BOwn w0 wr bv (l ++ lowB n j) ∧ Frm NoB w0 wr) (fun _ iv _ => k - (intOf iv).toNat)
  case atStart => exact ⟨0, Nat.zero_le _, rfl, by simpa [lowB] using ho, hb⟩
  case round =>
    obtain ⟨j, hj, rfl, hO, hF⟩ := hrel
    obtain ⟨L, hL⟩ : ∃ L, l ++ lowB n j = L := ⟨_, rfl⟩
    have hLl : L.length ≤ 1099511627776 + 4 := by rw [← hL, List.length_append, lowB_length]; omega
    rw [hL] at hO
    obtain ⟨A, c, rfl⟩ := hO.form
    by_cases hlt : j < k
    · have hfa := (Frm.refl NoB wr).alloc (.cells #[.int .u8 ((n : Int) / 2 ^ (8 * j) % 256)] 5)
      have hO1 := hO.frm hfa
      have hlit := BRd.lit wr [UInt8.ofNat (n / 2 ^ (8 * j))] #[.int .u8 ((n : Int) / 2 ^ (8 * j) % 256)] (by rw [List.map_cons, byt_ofNat]; simp)
      have hF1 := hF.alloc (.cells #[.int .u8 ((n : Int) / 2 ^ (8 * j) % 256)] 5)
      have hlen : L.length + [UInt8.ofNat (n / 2 ^ (8 * j))].length ≤ 140737488355328 := by simp; omega
      clear hO hfa
      go_wp2_with (at_builtin; refine wpList_bytes rfl (.tmp 12) (.tmp 18) rfl w0 hF1 (.slice A L.length c) L rfl hO1 _ (.slice (some ⟨wr.heap.size, 0, none⟩) 1 1) [UInt8.ofNat (n / 2 ^ (8 * j))] rfl hlit hlen ?_; intro v' w' hO2 hF2 _)
      rw [← hL, List.append_assoc, ← lowB_succ] at hO2
      exact ⟨⟨j + 1, by omega, rfl, hO2, hF2⟩, by simp only [intOf]; omega⟩
    · go_wp2
      go_ret
      have : j = k := by omega
      subst this
      exact ⟨_, rfl, hL ▸ hO, hF⟩
end Go.Proofs.YtablmgnhpciljaaDoor
