/- bytes.Equal, bytes.Trim with one byte to trim. -/
import Derived.Test.YtablmgnhpciljaaDoorLfc
import Derived.Laws.BytesString
import Derived.Laws.CopyOwn
import Derived.Deep.DeepCutAuto
import Derived.Deep.CutBlock
import Derived.Deep.RegionHeld3
namespace Go.Proofs.YtablmgnhpciljaaDoor
open Go.RowKit

theorem push_all : ∀ (l : List UInt8) (acc : ByteArray), (l.map fun x => (x.toNat : Int)).foldl (fun (r : ByteArray) n => r.push (UInt8.ofNat n.toNat)) acc = ⟨acc.data ++ l.toArray⟩
  | [], acc => by simp
  | x :: l, acc => by
    have h := push_all l (acc.push x)
    simp only [List.map_cons, List.foldl_cons]
    rw [show UInt8.ofNat ((x.toNat : Int)).toNat = x by simp, h]
    apply ByteArray.ext
    simp [ByteArray.push]
theorem convert_bytes {w : World} {F : Nat → Prop} {A : Option Addr} {c : Nat} {l : List UInt8} (hr : BRd w F (.slice A l.length c) l) :
    (convert 25 9 (.slice A l.length c)).run Tryd.prog w = .ok (.string ⟨l.toArray⟩) w := by
  rw [run_convert_bytes_string w 25 9 5 A l.length c Tryd.underlying25 Tryd.underlying5 Tryd.underlying9]
  obtain ⟨_, A', c', hv, _, h2⟩ := hr
  injection hv with hA _ hcc
  subst hA hcc
  by_cases h0 : l.length = 0
  · obtain rfl : l = [] := List.eq_nil_of_length_eq_zero h0
    cases A with
    | none => rfl
    | some a =>
      have := run_bytesToString (P := Tryd.prog) w a 0 c [] (by simpa using run_loadCells_list (P := Tryd.prog) w a [] (fun j v h => by simp at h))
      exact this
  · obtain ⟨b, off, rfl, _, _, hx⟩ := h2 (by omega)
    have hl := run_loadCells_list (P := Tryd.prog) w ⟨b, off, none⟩ (l.map byt) (fun j v h => by
      rw [show (⟨b, off, none⟩ : Addr).add j = ⟨b, off + j, none⟩ by unfold Addr.add; split <;> simp_all]
      exact hx j v h)
    rw [List.length_map] at hl
    have he : l.map byt = (l.map fun x => (x.toNat : Int)).map (Value.int .u8) := by rw [List.map_map]; rfl
    rw [he] at hl
    rw [run_bytesToString (P := Tryd.prog) w _ l.length c _ hl, push_all]
    simp

theorem Equal_calls (la lb : List UInt8) (va vb : Value) (w : World) {F G : Nat → Prop} (ha : BRd w F va la) (hb : BRd w G vb lb) :
    Calls Tryd.prog 34 #[va, vb] w fun e w' => e = .returned (.bool (decide (la = lb))) ∧ w = w' := by
  obtain ⟨A, c, rfl, hc⟩ := ha.form
  obtain ⟨B, d, rfl, hd⟩ := hb.form
  have h1 := convert_bytes ha
  have h2 := convert_bytes hb
  clear ha hb
  go_enter Tryd.func34, Tryd.ntmps34
  go_wp2
  go_ret
  exact ⟨by by_cases h : la = lb <;> simp [h], rfl⟩

/-- Right, the byte x has been trimmed. -/
theorem trimRight_calls (l : List UInt8) (x : UInt8) (A : Option Addr) (c : Nat) (w : World) {F : Nat → Prop} (hr : BRd w F (.slice A l.length c) l) (hl : l.length ≤ 140737488355328) :
    Calls Tryd.prog 51 #[.slice A l.length c, .int .u8 (x.toNat : Int)] w fun e w' =>
      (∃ m, m ≤ l.length ∧ e = .returned (.slice A m c) ∧ (∀ j (h : j < l.length), m ≤ j → l[j] = x) ∧ (∀ h : m - 1 < l.length, 0 < m → l[m - 1] ≠ x)) ∧ w = w' := by
  have Hr := hide hr
  have hc := hr.form
  have hc : l.length ≤ c := by obtain ⟨_, _, h, h2⟩ := hc; injection h with _ _ h; omega
  clear hr
  go_enter Tryd.func51, Tryd.ntmps51
  go_wp2_with fail
  go_loopw [0] (fun sv wr => ∃ m : Nat, m ≤ l.length ∧ sv = .slice A m c ∧ Hid (∀ j (h : j < l.length), m ≤ j → l[j] = x) ∧ wr = w) (fun sv _ => (match sv with | .slice _ m _ => m | _ => 0))
  case atStart => exact ⟨l.length, Nat.le_refl _, rfl, hide (fun j h h2 => by omega), rfl⟩
  case round =>
    obtain ⟨m, hm, rfl, hz, rfl⟩ := hrel
    by_cases h0 : 0 < m
    · obtain ⟨k, rfl⟩ : ∃ k, m = k + 1 := ⟨m - 1, by omega⟩
      have hlt : k < l.length := by omega
      obtain ⟨b, off, c', hv, _, _, _, hcell⟩ := Rd.byteAt Hr.out hlt
      injection hv with hA _ hcc
      subst hA hcc
      have hg : decide ((0 : Int) < ((k + 1 : Nat) : Int)) = true := decide_eq_true (by omega)
      by_cases hx : l[k] = x
      · have hq : ((l[k].toNat : Int) == (x.toNat : Int)) = true := by simp [hx]
        go_wp2_with fail
        refine ⟨⟨k, by omega, rfl, hide (fun j h h2 => ?_), by first | rfl | trivial⟩, by simp⟩
        by_cases hjk : j = k
        · subst hjk; exact hx
        · exact hz.out j h (by omega)
      · have hq : ((l[k].toNat : Int) == (x.toNat : Int)) = false := by
          simp only [beq_eq_false_iff_ne, ne_eq]
          intro h
          exact hx (UInt8.toNat_inj.1 (by omega))
        go_wp2_with fail
        go_ret
        exact ⟨⟨k + 1, hm, rfl, hz.out, fun _ _ => hx⟩, rfl⟩
    · obtain rfl : m = 0 := by omega
      go_wp2
      go_ret
      exact ⟨⟨0, hm, rfl, hz.out, fun _ h => absurd h (by omega)⟩, rfl⟩

/-- Left, the byte x has been trimmed: is anything left? -/
theorem trimLeft_calls (l : List UInt8) (x : UInt8) (A : Option Addr) (c : Nat) (w : World) {F : Nat → Prop} (hr : BRd w F (.slice A l.length c) l) (hl : l.length ≤ 140737488355328) :
    Calls Tryd.prog 50 #[.slice A l.length c, .int .u8 (x.toNat : Int)] w fun e w' =>
      (∃ A' m c', e = .returned (.slice A' m c') ∧ (m = 0 ↔ ∀ u ∈ l, u = x)) ∧ w = w' := by
  have Hr := hide hr
  have hc := hr.form
  have hc : l.length ≤ c := by obtain ⟨_, _, h, h2⟩ := hc; injection h with _ _ h; omega
  clear hr
  by_cases hp : 0 < l.length
  · obtain ⟨b, off, c', hv, _, _, _, _⟩ := Rd.byteAt Hr.out hp
    injection hv with hA _ hcc
    subst hA hcc
    go_enter Tryd.func50, Tryd.ntmps50
    go_wp2_with fail
    go_loopw [0] (fun sv wr => ∃ k o : Nat, k ≤ l.length ∧ sv = .slice (some ⟨b, o, none⟩) (l.length - k) (c - k) ∧ Hid (k < l.length → o = off + k) ∧ Hid (∀ j (h : j < l.length), j < k → l[j] = x) ∧ wr = w) (fun sv _ => (match sv with | .slice _ m _ => m | _ => 0))
    case atStart => exact ⟨0, off, Nat.zero_le _, rfl, hide (fun _ => rfl), hide (fun j h h2 => by omega), rfl⟩
    case round =>
      obtain ⟨k, o, hk, rfl, ho, hz, rfl⟩ := hrel
      by_cases h0 : k < l.length
      · obtain ⟨b', off', c', hv, _, _, _, hcell⟩ := Rd.byteAt Hr.out h0
        injection hv with hA _ hcc
        injection hA with hA
        injection hA with hA1 hA2
        subst hA1 hA2 hcc
        obtain rfl := ho.out h0
        clear ho
        obtain ⟨m, hm⟩ : ∃ m, l.length - k = m + 1 := ⟨l.length - k - 1, by omega⟩
        have hg : decide ((0 : Int) < ((m + 1 : Nat) : Int)) = true := decide_eq_true (by omega)
        by_cases hx : l[k] = x
        · have hq : ((l[k].toNat : Int) == (x.toNat : Int)) = true := by simp [hx]
          rw [hm]
          go_wp2_with fail
          have hz2 : Hid (∀ j (h : j < l.length), j < k + 1 → l[j] = x) := hide (fun j h h2 => by
            by_cases hjk : j = k
            · subst hjk; exact hx
            · exact hz.out j h (by omega))
          have em : m = l.length - (k + 1) := by omega
          have ec : c - k - 1 = c - (k + 1) := by omega
          by_cases h1 : c - k = 1
          · rw [if_pos h1]
            exact ⟨⟨k + 1, off + k, by omega, by rw [em, ec], hide (fun h => by omega), hz2, by first | rfl | trivial⟩, by simp⟩
          · rw [if_neg h1]
            exact ⟨⟨k + 1, off + k + 1, by omega, by rw [em, ec], hide (fun h => by omega), hz2, by first | rfl | trivial⟩, by simp⟩
        · have hq : ((l[k].toNat : Int) == (x.toNat : Int)) = false := by
            simp only [beq_eq_false_iff_ne, ne_eq]
            intro h
            exact hx (UInt8.toNat_inj.1 (by omega))
          rw [hm]
          go_wp2_with fail
          go_ret
          exact ⟨⟨_, m + 1, ⟨_, rfl⟩, ⟨fun h => absurd h (by omega), fun h => absurd (h l[k] (List.getElem_mem h0)) hx⟩⟩, rfl⟩
      · obtain rfl : k = l.length := by omega
        rw [Nat.sub_self]
        go_wp2
        go_ret
        exact ⟨⟨_, 0, _, rfl, ⟨fun _ u hu => by obtain ⟨j, hj, rfl⟩ := List.mem_iff_getElem.1 hu; exact hz.out j hj hj, fun _ => rfl⟩⟩, rfl⟩
  · obtain rfl : l = [] := List.eq_nil_of_length_eq_zero (by omega)
    go_enter Tryd.func50, Tryd.ntmps50
    go_wp2_with fail
    go_loopw [0] (fun sv wr => sv = .slice A 0 c ∧ wr = w) (fun _ _ => 0)
    case atStart => exact ⟨rfl, rfl⟩
    case round =>
      obtain ⟨rfl, rfl⟩ := hrel
      go_wp2
      go_ret
      exact ⟨⟨_, 0, _, rfl, by simp⟩, rfl⟩

theorem BRd.take {w : World} {F : Nat → Prop} {A : Option Addr} {c n : Nat} {l : List UInt8} (hr : BRd w F (.slice A n c) l) (m : Nat) (hm : m ≤ l.length) : BRd w F (.slice A m c) (l.take m) := by
  obtain ⟨h1, A', c', hv, hc, h2⟩ := hr
  injection hv with hA hn hcc
  subst hA hcc
  have hl : (l.take m).length = m := by simp; omega
  refine ⟨by simp, A, c, by rw [hl], by rw [hl]; omega, fun hp => ?_⟩
  rw [hl] at hp
  obtain ⟨b, off, hb, hF, hlt, hx⟩ := h2 (by omega)
  refine ⟨b, off, hb, hF, hlt, fun j u hu => hx j u ?_⟩
  rw [List.map_take, List.getElem?_take] at hu
  split at hu
  · exact hu
  · cases hu

theorem trimLeft_any (l : List UInt8) (x : UInt8) (A : Option Addr) (c m : Nat) (w : World) {F : Nat → Prop} (hr : BRd w F (.slice A l.length c) l) (hl : l.length ≤ 140737488355328) (hm : m ≤ l.length) :
    Calls Tryd.prog 50 #[.slice A m c, .int .u8 (x.toNat : Int)] w fun e w' => (∃ A' m' c', e = .returned (.slice A' m' c') ∧ (m' = 0 ↔ ∀ u ∈ l.take m, u = x)) ∧ w = w' := by
  have h := trimLeft_calls (l.take m) x A c w (F := F)
  have e : (l.take m).length = m := by simp; omega
  rw [e] at h
  exact h (hr.take m hm) (by omega)
set_option maxRecDepth 100000 in
/-- Trim by one noughts' byte: is anything left? -/
theorem Trim_calls (l : List UInt8) (A : Option Addr) (c : Nat) (w : World) {F : Nat → Prop} (hr : BRd w F (.slice A l.length c) l) (hl : l.length ≤ 140737488355328) :
    Calls Tryd.prog 38 #[.slice A l.length c, .string ⟨#[0]⟩] w fun e w' =>
      (∃ A' m c', e = .returned (.slice A' m c') ∧ (m = 0 ↔ ∀ u ∈ l, u = 0)) ∧ Frm NoB w w' := by
  by_cases hp : l.length = 0
  · obtain rfl : l = [] := List.eq_nil_of_length_eq_zero hp
    have hq : (((([] : List UInt8).length : Nat) : Int) == 0) = true := by simp
    go_enter Tryd.func38, Tryd.ntmps38
    go_wp2
    go_ret
    exact ⟨⟨none, 0, 0, rfl, by simp⟩, Frm.refl _ _⟩
  · have hq : ((l.length : Int) == 0) = false := by simp only [beq_eq_false_iff_ne, ne_eq]; omega
    have c1 := trimRight_calls l 0 A c w.drew hr hl
    rw [show (((0 : UInt8).toNat : Nat) : Int) = 0 from rfl] at c1
    have c2 := fun m hm => trimLeft_any l 0 A c m w.drew hr hl hm
    rw [show (((0 : UInt8).toNat : Nat) : Int) = 0 from rfl] at c2
    have ctrue : True := trivial
    go_enter Tryd.func38, Tryd.ntmps38
    go_upto_region 6 with (fail)
    go_region_held3 (fun _ => True) (first | exact ctrue) (first | (go_at_call 51; refine c1.mono ?_; rintro e w1 ⟨⟨m, hm, rfl, hz, hnz⟩, rfl⟩) | (go_at_call 50; refine (c2 m hm).mono ?_; rintro e w1 ⟨⟨A', m', c', rfl, hiff⟩, rfl⟩))
    all_goals (
      have hall : m' = 0 ↔ ∀ u ∈ l, u = 0 := hiff.trans ⟨fun h u hu => by
        obtain ⟨j, hj, rfl⟩ := List.mem_iff_getElem.1 hu
        by_cases hjm : j < m
        · exact h _ (by rw [List.mem_take_iff_getElem]; exact ⟨j, by omega, rfl⟩)
        · exact hz j hj (by omega), fun h u hu => h u (List.mem_of_mem_take hu)⟩
      clear c1 c2 hiff hz hnz
      go_wp2
      go_ret
      exact ⟨⟨A', m', c', rfl, hall⟩, (Frm.refl NoB w).drew⟩)
end Go.Proofs.YtablmgnhpciljaaDoor
