/- The sum of bytes, bit by bit: burst.Sum and the reference's Crc compute one function. -/
import Derived.Test.YtablmgnhpciljaaDoorChecked
import Derived.Test.YtablmgnhpciljaaDoorByt
namespace Go.Proofs.YtablmgnhpciljaaDoor
open Go.RowKit

theorem u32_bv (c : UInt32) : BitVec.ofInt 32 (c.toNat : Int) = c.toBitVec := by
  rw [BitVec.ofInt_natCast]
  apply BitVec.eq_of_toNat_eq
  rw [BitVec.toNat_ofNat]
  exact Nat.mod_eq_of_lt c.toNat_lt
theorem xor_u32 (a b : UInt32) : bits .xor .u32 (a.toNat : Int) (b.toNat : Int) = ((a ^^^ b).toNat : Int) := by
  show IntKind.u32.wrap ((BitVec.ofInt 32 (a.toNat : Int) ^^^ BitVec.ofInt 32 (b.toNat : Int)).toNat : Int) = _
  rw [u32_bv, u32_bv]
  have h2 := (a ^^^ b).toNat_lt
  have h3 : (a.toBitVec ^^^ b.toBitVec).toNat = (a ^^^ b).toNat := rfl
  rw [h3]
  simp only [IntKind.wrap_u32]
  omega
theorem and_u32 (a b : UInt32) : bits .and .u32 (a.toNat : Int) (b.toNat : Int) = ((a &&& b).toNat : Int) := by
  show IntKind.u32.wrap ((BitVec.ofInt 32 (a.toNat : Int) &&& BitVec.ofInt 32 (b.toNat : Int)).toNat : Int) = _
  rw [u32_bv, u32_bv]
  have h2 := (a &&& b).toNat_lt
  have h3 : (a.toBitVec &&& b.toBitVec).toNat = (a &&& b).toNat := rfl
  rw [h3]
  simp only [IntKind.wrap_u32]
  omega

theorem u32_of_u8 (x : UInt8) : ((UInt32.ofNat x.toNat).toNat : Int) = (x.toNat : Int) := by
  have := x.toNat_lt
  rw [UInt32.toNat_ofNat']
  omega
theorem and1_u32 (a : UInt32) : bits .and .u32 (a.toNat : Int) 1 = ((a.toNat % 2 : Nat) : Int) := by
  have h := and_u32 a 1
  rw [show ((1 : UInt32).toNat : Int) = 1 from rfl] at h
  rw [h, UInt32.toNat_and, show (1 : UInt32).toNat = 1 from rfl, Nat.and_one_is_mod]
theorem not_u32 (a : UInt32) : bits .xor .u32 IntKind.u32.max (a.toNat : Int) = ((~~~ a).toNat : Int) := by
  have h := xor_u32 4294967295 a
  rw [show ((4294967295 : UInt32).toNat : Int) = IntKind.u32.max from rfl] at h
  rw [h]
  refine congrArg (fun z : UInt32 => (z.toNat : Int)) (UInt32.toBitVec_inj.1 ?_)
  rw [UInt32.toBitVec_xor, UInt32.toBitVec_not]
  first | done | exact BitVec.allOnes_xor

/-- One bit of the sum. -/
def crcBit (c : UInt32) : UInt32 := if c.toNat % 2 = 1 then (c >>> 1) ^^^ 3988292384 else c >>> 1
theorem shr1_u32 (c : UInt32) : ((c >>> 1).toNat : Int) = (c.toNat : Int) / 2 := by
  rw [UInt32.toNat_shiftRight, show (1 : UInt32).toNat % 32 = 1 from rfl, Nat.shiftRight_eq_div_pow]
  omega
theorem crcBit_even {c : UInt32} (h : c.toNat % 2 = 0) : ((crcBit c).toNat : Int) = bits .xor .u32 ((c.toNat : Int) / 2) 0 := by
  have e : crcBit c = c >>> 1 := if_neg (by omega)
  have h2 := xor_u32 (c >>> 1) 0
  rw [shr1_u32, show ((0 : UInt32).toNat : Int) = 0 from rfl, UInt32.xor_zero] at h2
  rw [e, h2]
theorem crcBit_half {c : UInt32} (h : c.toNat % 2 = 0) : ((crcBit c).toNat : Int) = (c.toNat : Int) / 2 := by
  have e : crcBit c = c >>> 1 := if_neg (by omega)
  rw [e, shr1_u32]
theorem crcBit_odd {c : UInt32} (h : c.toNat % 2 = 1) : ((crcBit c).toNat : Int) = bits .xor .u32 ((c.toNat : Int) / 2) 3988292384 := by
  have e : crcBit c = (c >>> 1) ^^^ 3988292384 := if_pos h
  have h2 := xor_u32 (c >>> 1) 3988292384
  rw [shr1_u32, show ((3988292384 : UInt32).toNat : Int) = 3988292384 from rfl] at h2
  rw [e, h2]
def crcBits (c : UInt32) : Nat → UInt32
  | 0 => c
  | k + 1 => crcBit (crcBits c k)
def crcByte (c : UInt32) (x : UInt8) : UInt32 := crcBits (c ^^^ UInt32.ofNat x.toNat) 8
def crcTo (l : List UInt8) (k : Nat) : UInt32 := (l.take k).foldl crcByte 4294967295
theorem crcTo_succ (l : List UInt8) (k : Nat) (h : k < l.length) : crcTo l (k + 1) = crcByte (crcTo l k) l[k] := by
  have e : l.take (k + 1) = l.take k ++ [l[k]] := by rw [List.take_add_one, List.getElem?_eq_getElem h]; rfl
  rw [crcTo, crcTo, e, List.foldl_append]
  rfl
def crc (l : List UInt8) : UInt32 := ~~~ (crcTo l l.length)

set_option maxHeartbeats 1000000 in
theorem Sum_calls (l : List UInt8) (v : Value) (w : World) {F : Nat → Prop} (hr : Rd w F 1 v l.length (l.map byt)) (hl : l.length ≤ 140737488355328) :
    Calls Tryd.prog 49 #[v] w fun e w' => e = .returned (.int .u32 ((crc l).toNat : Int)) ∧ w = w' := by
  obtain ⟨A, c, rfl, hc⟩ := hr.byteAt'
  have Hr := hide hr
  clear hr
  go_enter Tryd.func49, Tryd.ntmps49
  go_wp2_with fail
  go_loopw [3, 9] (fun rv iv wr => ∃ k : Nat, k ≤ l.length ∧ rv = .int .u32 ((crcTo l k).toNat : Int) ∧ iv = .int .i64 k ∧ wr = w) (fun _ iv _ => l.length - (intOf iv).toNat)
  case atStart => exact ⟨0, Nat.zero_le _, rfl, rfl, rfl⟩
  case round =>
    obtain ⟨k, hk, rfl, rfl, rfl⟩ := hrel
    by_cases hlt : k < l.length
    · obtain ⟨b, off, c', hv, hc', _, _, hcell⟩ := Hr.out.byteAt hlt
      injection hv with hA _ hcc
      subst hA hcc
      go_wp2_with fail
      go_loopw [3, 17] (fun rv jv wx => ∃ j : Nat, j ≤ 8 ∧ rv = .int .u32 ((crcBits (crcTo l k ^^^ UInt32.ofNat l[k].toNat) j).toNat : Int) ∧ jv = .int .i64 j ∧ wx = wr) (fun _ jv _ => 8 - (intOf jv).toNat)
      case atStart =>
        refine ⟨0, by omega, ?_, rfl, rfl⟩
        rw [crcBits, ← xor_u32, u32_of_u8, Int.emod_eq_of_lt (by omega) (by have := l[k].toNat_lt; omega)]
      case round =>
        obtain ⟨j, hj, rfl, rfl, rfl⟩ := hrel
        by_cases h8 : j < 8
        · generalize hcc : crcBits (crcTo l k ^^^ UInt32.ofNat l[k].toNat) j = cc
          have hand : bits .and .u32 (cc.toNat : Int) 1 = ((cc.toNat % 2 : Nat) : Int) := and1_u32 cc
          rcases Nat.mod_two_eq_zero_or_one cc.toNat with hm | hm
          · rw [hm] at hand
            go_wp2
            refine ⟨⟨j + 1, by omega, ?_, rfl, by first | rfl | trivial⟩, by simp only [intOf]; omega⟩
            first | (rw [crcBits, hcc, crcBit_even hm]; done) | (rw [crcBits, hcc, crcBit_half hm]; done)
          · rw [hm] at hand
            go_wp2
            refine ⟨⟨j + 1, by omega, ?_, rfl, by first | rfl | trivial⟩, by simp only [intOf]; omega⟩
            rw [crcBits, hcc, crcBit_odd hm]
        · go_wp2
          have : j = 8 := by omega
          subst this
          refine ⟨⟨k + 1, by omega, ?_, rfl, by first | rfl | trivial⟩, by simp only [intOf]; omega⟩
          rw [crcTo_succ l k hlt, crcByte]
    · go_wp2
      go_ret
      have : k = l.length := by omega
      subst this
      refine ⟨?_, rfl⟩
      rw [crc, ← not_u32]
      rfl
set_option maxHeartbeats 1000000 in
theorem Crc_calls (l : List UInt8) (v : Value) (w : World) {F : Nat → Prop} (hr : Rd w F 1 v l.length (l.map byt)) (hl : l.length ≤ 140737488355328) :
    Calls Tryd.prog 36 #[v] w fun e w' => e = .returned (.int .u32 ((crc l).toNat : Int)) ∧ w = w' := by
  obtain ⟨A, c, rfl, hc⟩ := hr.byteAt'
  have Hr := hide hr
  clear hr
  go_enter Tryd.func36, Tryd.ntmps36
  go_wp2_with fail
  go_loopw [3, 8] (fun rv iv wr => ∃ k : Nat, k ≤ l.length ∧ rv = .int .u32 ((crcTo l k).toNat : Int) ∧ iv = .int .i64 k ∧ wr = w) (fun _ iv _ => l.length - (intOf iv).toNat)
  case atStart => exact ⟨0, Nat.zero_le _, rfl, rfl, rfl⟩
  case round =>
    obtain ⟨k, hk, rfl, rfl, rfl⟩ := hrel
    by_cases hlt : k < l.length
    · obtain ⟨b, off, c', hv, hc', _, _, hcell⟩ := Hr.out.byteAt hlt
      injection hv with hA _ hcc
      subst hA hcc
      go_wp2_with fail
      go_loopw [3, 16] (fun rv jv wx => ∃ j : Nat, j ≤ 8 ∧ rv = .int .u32 ((crcBits (crcTo l k ^^^ UInt32.ofNat l[k].toNat) j).toNat : Int) ∧ jv = .int .i64 j ∧ wx = wr) (fun _ jv _ => 8 - (intOf jv).toNat)
      case atStart =>
        refine ⟨0, by omega, ?_, rfl, rfl⟩
        rw [crcBits, ← xor_u32, u32_of_u8, Int.emod_eq_of_lt (by omega) (by have := l[k].toNat_lt; omega)]
      case round =>
        obtain ⟨j, hj, rfl, rfl, rfl⟩ := hrel
        by_cases h8 : j < 8
        · generalize hcc : crcBits (crcTo l k ^^^ UInt32.ofNat l[k].toNat) j = cc
          have hand : bits .and .u32 (cc.toNat : Int) 1 = ((cc.toNat % 2 : Nat) : Int) := and1_u32 cc
          rcases Nat.mod_two_eq_zero_or_one cc.toNat with hm | hm
          · rw [hm] at hand
            go_wp2
            refine ⟨⟨j + 1, by omega, ?_, rfl, by first | rfl | trivial⟩, by simp only [intOf]; omega⟩
            first | (rw [crcBits, hcc, crcBit_even hm]; done) | (rw [crcBits, hcc, crcBit_half hm]; done)
          · rw [hm] at hand
            go_wp2
            refine ⟨⟨j + 1, by omega, ?_, rfl, by first | rfl | trivial⟩, by simp only [intOf]; omega⟩
            rw [crcBits, hcc, crcBit_odd hm]
        · go_wp2
          have : j = 8 := by omega
          subst this
          refine ⟨⟨k + 1, by omega, ?_, rfl, by first | rfl | trivial⟩, by simp only [intOf]; omega⟩
          rw [crcTo_succ l k hlt, crcByte]
    · go_wp2
      go_ret
      have : k = l.length := by omega
      subst this
      refine ⟨?_, rfl⟩
      rw [crc, ← not_u32]
      rfl
end Go.Proofs.YtablmgnhpciljaaDoor
