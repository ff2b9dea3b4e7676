/- The reference's number of bytes; numbers brought into bounds. -/
import Derived.Test.YtablmgnhpciljaaDoorLfb
namespace Go.Proofs.YtablmgnhpciljaaDoor
open Go.RowKit

def numB : List UInt8 → Nat
  | [] => 0
  | x :: l => x.toNat + 256 * numB l
theorem numB_lt : ∀ l : List UInt8, numB l < 256 ^ l.length
  | [] => by simp [numB]
  | x :: l => by
    have h1 := numB_lt l
    have h2 := x.toNat_lt
    simp only [numB, List.length_cons, Nat.pow_succ]
    omega
theorem cast256 (a : Nat) : ((a : Int) * 256) = ((a * 256 : Nat) : Int) := by omega
set_option maxRecDepth 100000 in
theorem or_i64 (a x : Nat) (ha : a * 256 + 255 < 9223372036854775808) (hx : x < 256) : bits .or .i64 ((a : Int) * 256) (x : Int) = ((x + 256 * a : Nat) : Int) := by
  show IntKind.i64.wrap ((BitVec.ofInt 64 ((a : Int) * 256) ||| BitVec.ofInt 64 (x : Int)).toNat : Int) = _
  have e0 : a <<< 8 = a * 256 := by rw [Nat.shiftLeft_eq]
  have p64 : (2 : Nat) ^ 64 = 18446744073709551616 := rfl
  rw [cast256, BitVec.ofInt_natCast, BitVec.ofInt_natCast, BitVec.toNat_or, BitVec.toNat_ofNat, BitVec.toNat_ofNat, p64,
    Nat.mod_eq_of_lt (show a * 256 < 18446744073709551616 by omega), Nat.mod_eq_of_lt (show x < 18446744073709551616 by omega), ← e0,
    ← Nat.shiftLeft_add_eq_or_of_lt (show x < 2 ^ 8 from hx), e0, IntKind.wrap_i64]
  omega

set_option maxHeartbeats 1000000 in
theorem number_calls (l : List UInt8) (v : Value) (w : World) {F : Nat → Prop} (hr : BRd w F v l) (hl : l.length ≤ 7) :
    Calls Tryd.prog 35 #[v] w fun e w' => e = .returned (.int .i64 (numB l)) ∧ w = w' := by
  obtain ⟨A, c, rfl, hc⟩ := hr.form
  have Hr := hide hr
  clear hr
  go_enter Tryd.func35, Tryd.ntmps35
  go_wp2_with fail
  go_loopw [3, 4] (fun nv iv wr => ∃ k : Nat, k ≤ l.length ∧ nv = .int .i64 (numB (l.drop k)) ∧ iv = .int .i64 ((k : Int) - 1) ∧ wr = w) (fun _ iv _ => (intOf iv + 1).toNat)
  case atStart => exact ⟨l.length, Nat.le_refl _, by simp [numB], rfl, rfl⟩
  case round =>
    obtain ⟨k, hk, rfl, rfl, rfl⟩ := hrel
    by_cases h0 : 0 < k
    · obtain ⟨j, rfl⟩ : ∃ j, k = j + 1 := ⟨k - 1, by omega⟩
      have hlt : j < l.length := by omega
      obtain ⟨b, off, c', hv, _, _, _, hcell⟩ := Rd.byteAt Hr.out hlt
      injection hv with hA _ hcc
      subst hA hcc
      have hnb := numB_lt (l.drop (j + 1))
      have hpow : 256 ^ (l.drop (j + 1)).length ≤ 256 ^ 6 := Nat.pow_le_pow_right (by omega) (by simp; omega)
      rw [show 256 ^ 6 = 281474976710656 from rfl] at hpow
      have hx := l[j].toNat_lt
      have hnum : numB (l.drop j) = l[j].toNat + 256 * numB (l.drop (j + 1)) := by rw [List.drop_eq_getElem_cons hlt]; rfl
      obtain ⟨a, ha⟩ : ∃ a, numB (l.drop (j + 1)) = a := ⟨_, rfl⟩
      rw [ha] at hnb hnum ⊢
      have hor := or_i64 a l[j].toNat (by omega) hx
      rw [show (((j + 1 : Nat) : Int) - 1) = (j : Int) from by omega]
      go_wp2
      exact ⟨⟨j, by omega, by rw [hnum]; first | rfl | (congr 1; omega), rfl, by first | rfl | trivial⟩, by simp only [intOf]; omega⟩
    · go_wp2
      go_ret
      have : k = 0 := by omega
      subst this
      exact ⟨rfl, rfl⟩

theorem within_calls (n lo hi : Int) (w : World) : Calls Tryd.prog 37 #[.int .i64 n, .int .i64 lo, .int .i64 hi] w fun e w' => e = .returned (.bool (decide (lo ≤ n ∧ n ≤ hi))) ∧ w = w' := by
  by_cases h1 : lo ≤ n
  · go_enter Tryd.func37, Tryd.ntmps37
    go_wp2
    go_ret
    exact ⟨by simp [h1], rfl⟩
  · go_enter Tryd.func37, Tryd.ntmps37
    go_wp2
    go_ret
    exact ⟨by simp; omega, rfl⟩

/-- A number brought into 0 .. hi. -/
theorem Within_calls (n hi : Int) (h0 : 0 ≤ hi) (h1 : hi ≤ 1099511627776) (w : World) :
    Calls Tryd.prog 9 #[.int .i64 n, .int .i64 0, .int .i64 hi] w fun e w' => ∃ k : Nat, (k : Int) ≤ hi ∧ e = .returned (.int .i64 k) ∧ w = w' := by
  have hne : (hi + 1 == 0) = false := by simp; omega
  have ht1 := Int.tmod_lt_of_pos n (show 0 < hi + 1 by omega)
  have ht2 := Int.lt_tmod_of_pos n (show 0 < hi + 1 by omega)
  obtain ⟨t, ht⟩ : ∃ t, n.tmod (hi + 1) = t := ⟨_, rfl⟩
  rw [ht] at ht1 ht2
  by_cases hneg : t < 0
  · go_enter Tryd.func9, Tryd.ntmps9
    go_wp2
    go_ret
    exact ⟨(t + hi + 1).toNat, by omega, by rw [Int.toNat_of_nonneg (by omega)]; rfl, rfl⟩
  · go_enter Tryd.func9, Tryd.ntmps9
    go_wp2
    go_ret
    exact ⟨t.toNat, by omega, by rw [Int.toNat_of_nonneg (by omega)]; rfl, rfl⟩
end Go.Proofs.YtablmgnhpciljaaDoor
