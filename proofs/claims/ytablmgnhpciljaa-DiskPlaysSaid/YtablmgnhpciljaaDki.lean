/- slices.Backward over what waits: the iterator's contract. -/
import Derived.Test.YtablmgnhpciljaaDkh
import Derived.RangeFuncNested
import Derived.RangeFuncBound
import Derived.RangeFuncCalls
import Derived.RangeFuncLeaves
import Derived.Shelf.Abstract
import Derived.Shelf.RegionOpen
import Derived.OwnWalkIn
import Derived.TacticsInMore
import Derived.LoopNIn
import Derived.LoopIn
namespace Go.Proofs.Ytablmgnhpciljaa
open Go.RowKit Go.Shelf
attribute [local go_sem] Oper.semAt_some

/-- The last k of n places, from the last on. -/
def backs (n k : Nat) : List Nat := (List.range k).map fun j => n - 1 - j
theorem backs_succ (n k : Nat) : backs n (k + 1) = backs n k ++ [n - 1 - k] := by simp [backs, List.range_succ]
theorem backs_length (n k : Nat) : (backs n k).length = k := by simp [backs]

theorem Backward_calls (A : Option Addr) (m c : Nat) (w : World) : Calls Try.prog 33 #[.slice A m c] w fun e w' =>
    e = .returned (.func (.func 35) #[] #[.pointer (some ⟨w.heap.size, 0, none⟩)]) ∧ w' = w.alloc (.cells #[.slice A m c] 51) := by
  go_enter Try.func33, Try.ntmps33
  go_wp2
  go_ret
  exact ⟨rfl, rfl⟩

abbrev Wr (n : Nat) := { j : Nat // j < n }
def wcell (ws : List Value) (i : Nat) : Value := ws[i]?.getD (.int .i64 0)
theorem wcell_of {ws : List Value} {i : Nat} {v : Value} (h : ws[i]? = some v) : wcell ws i = v := by simp [wcell, h]
def wrEnc (ws : List Value) (n : Nat) (x : Wr n) : Array Value := #[.int .i64 (x.1 : Nat), .agg #[wcell ws (x.1 * 2), wcell ws (x.1 * 2 + 1)]]

set_option maxRecDepth 100000 in
set_option maxHeartbeats 2000000 in
theorem Backward_stops (w : World) (Bs n₀ : Nat) (A : Option Addr) (c n : Nat) (ws : List Value) (hBs : Bs < w.heap.size) (hn₀ : n₀ ≤ w.heap.size) (hbox : w.cell? ⟨Bs, 0, none⟩ = some (.slice A n c)) (hBn : Bs < n₀)
    (hc : n ≤ c) (hnn : n ≤ 1099511627776) (hA : 0 < n → ∃ g, A = some ⟨g, 0, none⟩ ∧ g < n₀ ∧ ∀ j, j < n * 2 → w.cell? ⟨g, j, none⟩ = some (wcell ws j)) (m : Nat) (hm : 1 ≤ m) :
    SeqStopsK Fence.wide m Try.prog 35 #[.pointer (some ⟨Bs, 0, none⟩)] (wrEnc ws n) (Below n₀) (fun ys => ys.map (·.1) = backs n n) (fun pre => ∃ k, k ≤ n ∧ pre.map (·.1) = backs n k) n w := by
  intro l J Jx W hW hJ hJx hY h0
  have hbox' := (hW.cell (p := ⟨Bs, 0, none⟩) hBs).trans hbox
  have hA' : 0 < n → ∃ g, A = some ⟨g, 0, none⟩ ∧ g < n₀ ∧ ∀ j, j < n * 2 → W.cell? ⟨g, j, none⟩ = some (wcell ws j) := fun h => by
    obtain ⟨g, e, hg, hcells⟩ := hA h
    exact ⟨g, e, hg, fun j h => (hW.cell (p := ⟨g, j, none⟩) (by show g < _; omega)).trans (hcells j h)⟩
  clear hA
  refine callsIn_of_wp Try.func35 rfl trivial ?_ rfl
  simp only [Try.ntmps35, List.size_toArray, List.length_cons, List.length_nil, Nat.reduceAdd, Nat.reduceSub, Array.replicate_succ, Array.replicate_zero, List.push_toArray, List.append_toArray, List.nil_append, List.cons_append]
  gi_wp2
  gi_loopw [3] (fun i wr => ∃ (k : Nat) (pre : List (Wr n)), k ≤ n ∧ i = .int .i64 ((n : Int) - 1 - k) ∧ pre.map (·.1) = backs n k ∧ J pre wr ∧ Below n₀ W wr)
    (fun i _ => (intOf i + 1).toNat)
  case atStart => exact ⟨0, [], Nat.zero_le _, by go_num, rfl, h0, Below.refl _ _⟩
  case round =>
    obtain ⟨k, pre, hk, rfl, hpre, hJs, hnx⟩ := hrel
    by_cases hlt : k < n
    · obtain ⟨g, rfl, hg, hcl⟩ := hA' (by omega)
      have hlen : pre.length = k := by have := congrArg List.length hpre; simpa [backs_length] using this
      obtain ⟨x, hx⟩ : ∃ x : Wr n, x.1 = n - 1 - k := ⟨⟨n - 1 - k, by omega⟩, rfl⟩
      obtain ⟨fn, tmps, assign, body, hy, hR⟩ := hY pre x wr hJs (by omega)
      have hb0 := (hnx.cell (p := ⟨Bs, 0, none⟩) hBn).trans hbox'
      have hxl := x.2
      have d0 := (hnx.cell (p := ⟨g, x.1 * 2, none⟩) hg).trans (hcl (x.1 * 2) (by omega))
      have d1 := (hnx.cell (p := ⟨g, x.1 * 2 + 1, none⟩) hg).trans (hcl (x.1 * 2 + 1) (by omega))
      dsimp only [wrEnc] at hy
      have hn1 : (n : Int) - 1 - k = (x.1 : Int) := by omega
      rw [hn1]
      have Hx := hide hx
      have Hp := hide hpre
      clear hn1 hx hpre hlen
      clear hcl
      gi_wp2
      refine hR.mono ?_
      have hm2 : (pre ++ [x]).map (·.1) = backs n (k + 1) := by
        rw [backs_succ, List.map_append, Hp.out, ← Hx.out]
        rfl
      have Hm2 := hide hm2
      clear hm2
      rintro e W3 (⟨rfl, hJ3, hk3⟩ | ⟨rfl, hJx3⟩)
      · gi_wp2
        go_roundw
        case rel => exact ⟨k + 1, pre ++ [x], by omega, by have := Hx.out; go_num, Hm2.out, hJ3, hnx.trans hk3⟩
        case measure => simp [intOf]
      · gi_wp2
        refine bodyPost_ret (results_none rfl _ _ _) rfl ?_
        exact ⟨⟨_, rfl⟩, .inr ⟨pre ++ [x], ⟨k + 1, by omega, Hm2.out⟩, hJx3⟩⟩
    · clear hA'
      obtain rfl : k = n := by omega
      have q : decide ((0 : Int) ≤ (k : Int) - 1 - k) = false := by simp; omega
      gi_wp2
      go_end0
      exact ⟨⟨_, rfl⟩, .inl ⟨pre, hpre, hJs⟩⟩
end Go.Proofs.Ytablmgnhpciljaa
