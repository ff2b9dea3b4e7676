/- DiskPlays: any calls, in any order, on both disks. -/
import Derived.Test.YtablmgnhpciljaaDsc
import Derived.Deep.DeepCutAuto
import Derived.Deep.CutBlock
import Derived.Deep.RegionHeld3
import Derived.BigQuiet
namespace Go.Proofs.Ytablmgnhpciljaa
open Go.RowKit

set_option maxRecDepth 100000 in
set_option maxHeartbeats 4000000 in
theorem DiskPlays_calls (w : World) (n m c : Nat) (A : Option Addr) (h1 : 1 ≤ n) (h2 : n ≤ 512) (hA : Asks w A m) :
    Calls Try.prog 3 #[.int .i64 (n : Nat), .slice A m c] w fun e w' => e = .returned (.bool true) ∧ Frm NoB w w' := by
  have hn1 : ∀ (p : Nat) (w : World), (binOp .eql 23 (.pointer (some ⟨p, 0, none⟩)) (.pointer none)).run Try.prog w = .ok (.bool false) w := fun _ _ => rfl
  have hn2 : ∀ (p : Nat) (w : World), (binOp .eql 25 (.pointer (some ⟨p, 0, none⟩)) (.pointer none)).run Try.prog w = .ok (.bool false) w := fun _ _ => rfl
  have hn3 : ∀ (p : Nat) (w : World), (binOp .neq 23 (.pointer (some ⟨p, 0, none⟩)) (.pointer none)).run Try.prog w = .ok (.bool true) w := fun _ _ => rfl
  go_enter Try.func3, Try.ntmps3
  go_wp2_with fail
  refine (Disk_New n h1 h2).mono ?_
  rintro e w0 ⟨d, rfl, hd, f0⟩
  go_wp2_with fail
  refine (Ref_New n h1 h2).mono ?_
  rintro e w1 ⟨r, rfl, hr, f1⟩
  have hduo : Duo w w1 d r (ADisk.new n) (NewB w w0) (NewB w w0) (NewB w0 w1) := by
    have z0 := f0.size
    have z1 := f1.size
    exact ⟨hd.frm f1 (fun _ _ _ h => h), hr, fun b hb => by rcases hb with hb | hb <;> exact hb.1, fun b hb => Nat.le_trans z0 hb.1, fun b hb => by rcases hb with hb | hb <;> exact Nat.lt_of_lt_of_le hb.2 z1, fun b hb => hb.2,
      fun b hb hT => by have := hT.1; rcases hb with hb | hb <;> (have := hb.2; omega), f0.trans f1 (fun _ _ h => h)⟩
  clear hd hr f0 f1
  go_wp2_with fail
  go_loopw [5, 7] (fun dv iv wr => ∃ (k d' : Nat) (D : ADisk), k ≤ m ∧ k ≤ 40 ∧ dv = .pointer (some ⟨d', 0, none⟩) ∧ iv = .int .i64 k ∧ D.blocks.length = n ∧ D.waits.length ≤ k ∧ ∃ S F T, Duo w wr d' r D S F T) (fun _ iv _ => 40 - (intOf iv).toNat)
  case atStart => exact ⟨0, d, ADisk.new n, Nat.zero_le _, Nat.zero_le _, rfl, rfl, by simp [ADisk.new], by simp [ADisk.new], _, _, _, hduo⟩
  case round =>
    obtain ⟨k, d', D, hk, hk40, rfl, rfl, hbl, hwt, S, F, T, hD⟩ := hrel
    by_cases hlt : k < m
    · by_cases h40 : k < 40
      · obtain ⟨b, off, rfl, hb, hq⟩ := hA (by omega)
        obtain ⟨⟨kind, qi, qat, qn, qx, qby, how, hv, short⟩, hok, hcl⟩ := hq k hlt
        have hcell : ∀ j v, (AskV.cells ⟨kind, qi, qat, qn, qx, qby, how, hv, short⟩)[j]? = some v → wr.cell? ⟨b, off + k * 8 + j, none⟩ = some v := fun j v hj => (hD.frm.cell (p := ⟨b, off + k * 8 + j, none⟩) hb (fun h => h)).trans (hcl j v hj)
        obtain ⟨_, Ah, ch, hhv, _⟩ := id hok.how
        dsimp only at hhv
        subst hhv
        have a0 := hcell 0 (.int .i64 kind) rfl
        have a1 := hcell 1 (.int .i64 qi) rfl
        have a2 := hcell 2 (.int .i64 qat) rfl
        have a3 := hcell 3 (.int .i64 qn) rfl
        have a4 := hcell 4 (.int .u8 (qx.toNat : Int)) rfl
        have a5 := hcell 5 (.int .u32 (qby.toNat : Int)) rfl
        have a6 := hcell 6 (.slice Ah how.length ch) rfl
        have a7 := hcell 7 (.bool short) rfl
        rw [Nat.add_zero] at a0
        have hrd := hok.how.frm hD.frm (fun _ _ _ h => h)
        have hS8 := hD.highS
        have hT8 := hD.highT
        have hkind := hok.kind
        have hqn := hok.n
        clear hok
        dsimp only at hrd hkind hqn
        have Hbl := hide hbl
        clear hcell hcl hq hbl hduo
        have hb8 := Blk.new wr 30 #[.int .i64 kind, .int .i64 qi, .int .i64 qat, .int .i64 qn, .int .u8 (qx.toNat : Int), .int .u32 (qby.toNat : Int), .slice Ah how.length ch, .bool short]
        have hD1 := hD.frm' ((Frm.refl NoB wr).alloc (.cells #[.int .i64 kind, .int .i64 qi, .int .i64 qat, .int .i64 qn, .int .u8 (qx.toNat : Int), .int .u32 (qby.toNat : Int), .slice Ah how.length ch, .bool short] 30))
        have hrd1 := hrd.frm ((Frm.refl NoB wr).alloc (.cells #[.int .i64 kind, .int .i64 qi, .int .i64 qat, .int .i64 qn, .int .u8 (qx.toNat : Int), .int .u32 (qby.toNat : Int), .slice Ah how.length ch, .bool short] 30)) (fun _ _ _ h => h)
        have Hkind := hide hkind
        have Hqn := hide hqn
        clear hrd hkind hqn
        go_upto_region 9 with (fail)
        obtain ⟨W, hW⟩ : ∃ W, wr.alloc (.cells #[.int .i64 kind, .int .i64 qi, .int .i64 qat, .int .i64 qn, .int .u8 (qx.toNat : Int), .int .u32 (qby.toNat : Int), .slice Ah how.length ch, .bool short] 30) = W := ⟨_, rfl⟩
        rw [hW] at hb8 hD1 hrd1 ⊢
        obtain ⟨b8, hb8e⟩ : ∃ x, wr.heap.size = x := ⟨_, rfl⟩
        rw [hb8e] at hb8 hS8 hT8 ⊢
        clear hW hb8e a0 a1 a2 a3 a4 a5 a6 a7 hD
        have y0 := hb8.cell 0
        go_upto_block 2 with (fail)
        go_cut [5, 9] (fun dv okv W' => ∃ (d2 : Nat) (D2 : ADisk), dv = .pointer (some ⟨d2, 0, none⟩) ∧ okv = .bool true ∧ D2.blocks.length = n ∧ D2.waits.length ≤ k + 1 ∧ ∃ S F T, Duo w W' d2 r D2 S F T)
        case first =>
          have y1 := hb8.cell 1
          have y2 := hb8.cell 2
          have y3 := hb8.cell 3
          have y4 := hb8.cell 4
          have y5 := hb8.cell 5
          have y6 := hb8.cell 6
          have y7 := hb8.cell 7
          have hlen : D.waits.length ≤ 1099511627776 := by omega
          have hlt8 := hb8.lt
          have hn8S : ¬ S b8 := fun h => absurd (hS8 b8 (.inl h)) (Nat.lt_irrefl _)
          have hn8T : ¬ T b8 := fun h => absurd (hT8 b8 h) (Nat.lt_irrefl _)
          by_cases q1 : kind = 1
          · subst q1
            go_wp2_with fail
            refine (fill_calls qx W).mono ?_
            rintro e W1 ⟨g, rfl, ho, hf1⟩
            have y7 := (hb8.frm hf1 (fun h => h)).cell 7
            have hDd := hD1.frm' hf1.drew
            have hb8d := (hb8.frm hf1 (fun h => h)).drew
            have c0 := hb8d.cell 1
            have hsepS : ∀ b, b < W1.drew.heap.size → NewB W W1 b → ¬ S b := fun b _ hb h => absurd (hS8 b (.inl h)) (Nat.not_lt_of_le (Nat.le_trans (Nat.le_of_lt hlt8) hb.1))
            have hsepT : ∀ (X : World) b, b < X.heap.size → NewB W W1 b → ¬ T b := fun _ b _ hb h => absurd (hT8 b h) (Nat.not_lt_of_le (Nat.le_trans (Nat.le_of_lt hlt8) hb.1))
            clear hD1 y0 y1 y2 y3 y4 y5 y6
            cases short with
            | false =>
                have hrd' : Rd W1.drew (NewB W W1) 1 (.slice (some ⟨g, 0, none⟩) 128 128) 128 ((fillB qx).map byt) := ho.rd
                have hbs : ∀ u ∈ (fillB qx).map byt, isByte u := fun u hu => (fillB_is qx).2 u hu
                clear hrd1 hf1
                go_upto_region 14 with (fail)
                have c0 : W1.drew.cell? ⟨b8, 1, none⟩ = some (.int .i64 qi) := hb8d.cell 1
                go_region_held3 (fun w' => w'.cell? ⟨b8, 1, none⟩ = some (.int .i64 qi)) (first | exact c2 | exact c1 | exact c0) (first | (go_at_call 7; refine (Duo_Write hDd qi (.slice (some ⟨g, 0, none⟩) 128 128) 128 ((fillB qx).map byt) hrd' hbs hsepS hlen).mono ?_; rintro e W2 ⟨rfl, hH, hf2⟩; have hb8e := hb8d.frm hf2 hn8S; have c1 : W2.cell? ⟨b8, 1, none⟩ = some (.int .i64 qi) := hb8e.cell 1; have hrd2 := hrd'.frm hf2 (fun b hb hl => hsepS b hl hb)) | (go_at_call 8; refine (Half_Write hH (.slice (some ⟨g, 0, none⟩) 128 128) 128 hrd2 hbs (hsepT W2) hlen).mono ?_; rintro e W3 ⟨rfl, hD2, hf3⟩; have c2 : W3.cell? ⟨b8, 1, none⟩ = some (.int .i64 qi) := (hb8e.frm hf3 hn8T).cell 1))
                go_wp2
                go_meet
                exact ⟨d', (D.write qi ((fillB qx).map byt)).1, rfl, rfl, (write_blocks _ _ _).trans Hbl.out, Nat.le_trans (write_waits _ _ _) (Nat.succ_le_succ hwt), _, _, _, hD2⟩
            | true =>
                have hrd' : Rd W1.drew (NewB W W1) 1 (.slice (some ⟨g, 1, none⟩) 127 127) 127 (((fillB qx).map byt).drop 1) := ho.rd.drop1
                have hbs : ∀ u ∈ ((fillB qx).map byt).drop 1, isByte u := fun u hu => (fillB_is qx).2 u (List.mem_of_mem_drop hu)
                clear hrd1 hf1
                go_upto_region 14 with (fail)
                have c0 : W1.drew.cell? ⟨b8, 1, none⟩ = some (.int .i64 qi) := hb8d.cell 1
                go_region_held3 (fun w' => w'.cell? ⟨b8, 1, none⟩ = some (.int .i64 qi)) (first | exact c2 | exact c1 | exact c0) (first | (go_at_call 7; refine (Duo_Write hDd qi (.slice (some ⟨g, 1, none⟩) 127 127) 127 (((fillB qx).map byt).drop 1) hrd' hbs hsepS hlen).mono ?_; rintro e W2 ⟨rfl, hH, hf2⟩; have hb8e := hb8d.frm hf2 hn8S; have c1 : W2.cell? ⟨b8, 1, none⟩ = some (.int .i64 qi) := hb8e.cell 1; have hrd2 := hrd'.frm hf2 (fun b hb hl => hsepS b hl hb)) | (go_at_call 8; refine (Half_Write hH (.slice (some ⟨g, 1, none⟩) 127 127) 127 hrd2 hbs (hsepT W2) hlen).mono ?_; rintro e W3 ⟨rfl, hD2, hf3⟩; have c2 : W3.cell? ⟨b8, 1, none⟩ = some (.int .i64 qi) := (hb8e.frm hf3 hn8T).cell 1))
                go_wp2
                go_meet
                exact ⟨d', (D.write qi (((fillB qx).map byt).drop 1)).1, rfl, rfl, (write_blocks _ _ _).trans Hbl.out, Nat.le_trans (write_waits _ _ _) (Nat.succ_le_succ hwt), _, _, _, hD2⟩
          · have e1 : (kind == 1) = false := by simpa using q1
            by_cases q2 : kind = 2
            · subst q2
              go_wp2_with fail
              refine (Duo_Flush hD1 hlen).mono ?_
              rintro e W1 ⟨rfl, hH, hf1⟩
              clear hf1
              go_wp2_with fail
              refine (Half_Flush hH hlen).mono ?_
              rintro e W2 ⟨rfl, hD2, hf2⟩
              clear hf2
              go_wp2
              go_meet
              exact ⟨d', D.flush.1, rfl, rfl, (flush_blocks D).trans Hbl.out, Nat.le_succ_of_le (Nat.le_trans (flush_waits D) hwt), _, _, _, hD2⟩
            · have e2 : (kind == 2) = false := by simpa using q2
              by_cases q3 : kind = 3
              · subst q3
                have hsS : ∀ b, b < W.heap.size → b < w.heap.size → ¬ S b := fun b _ hb h => absurd (hD1.lowS b (.inl h)) (Nat.not_le_of_lt hb)
                have hsT : ∀ (X : World) b, b < X.heap.size → b < w.heap.size → ¬ T b := fun _ b _ hb h => absurd (hD1.lowT b h) (Nat.not_le_of_lt hb)
                go_wp2_with fail
                refine (Duo_Boot hD1 _ how hrd1 hsS hlen).mono ?_
                rintro e W1 ⟨rfl, hH, hf1⟩
                have y6 := (hb8.frm hf1 hn8S).cell 6
                have hrd2 := hrd1.frm hf1 (fun b hb hl => hsS b hl hb)
                clear hf1 hrd1 hD1 y0 y1 y2 y3 y4 y5 y7
                go_wp2_with fail
                refine (Half_Boot hH _ hrd2 (hsT _) hlen).mono ?_
                rintro e W2 ⟨rfl, hD2, hf2⟩
                clear hf2
                go_wp2
                go_meet
                exact ⟨d', D.boot how, rfl, rfl, (boot_blocks D how).trans Hbl.out, Nat.zero_le _, _, _, _, hD2⟩
              · have e3 : (kind == 3) = false := by simpa using q3
                by_cases q4 : kind = 4
                · subst q4
                  go_wp2_with fail
                  refine (Duo_Arm hD1 qn Hqn.out.1 Hqn.out.2).mono ?_
                  rintro e W1 ⟨rfl, hH, hf1⟩
                  have y3 := (hb8.frm hf1 hn8S).cell 3
                  obtain ⟨z1, z2, hD2⟩ := hH.fuse Hqn.out.2
                  clear hf1 hrd1 hD1 y0 y1 y2 y4 y5 y6 y7
                  by_cases hq : -1 ≤ qn
                  · rw [show (D.arm qn).fuse = qn from if_pos hq] at hD2
                    go_wp2
                    go_meet
                    exact ⟨d', D.arm qn, rfl, rfl, Hbl.out, Nat.le_succ_of_le hwt, _, _, _, hD2⟩
                  · rw [show (D.arm qn).fuse = -1 from if_neg hq] at hD2
                    go_wp2
                    go_meet
                    exact ⟨d', D.arm qn, rfl, rfl, Hbl.out, Nat.le_succ_of_le hwt, _, _, _, hD2⟩
                · have e4 : (kind == 4) = false := by simpa using q4
                  by_cases q5 : kind = 5
                  · subst q5
                    have hDd := hD1.frm' (Frm.refl NoB W).drew
                    have hb8d := hb8.drew
                    have c0 : W.drew.cell? ⟨b8, 1, none⟩ = some (.int .i64 qi) ∧ W.drew.cell? ⟨b8, 2, none⟩ = some (.int .i64 qat) ∧ W.drew.cell? ⟨b8, 5, none⟩ = some (.int .u32 (qby.toNat : Int)) := ⟨hb8d.cell 1, hb8d.cell 2, hb8d.cell 5⟩
                    clear hrd1 hD1 y0 y1 y2 y3 y4 y5 y6 y7
                    go_upto_region 24 with (fail)
                    go_region_held3 (fun w' => w'.cell? ⟨b8, 1, none⟩ = some (.int .i64 qi) ∧ w'.cell? ⟨b8, 2, none⟩ = some (.int .i64 qat) ∧ w'.cell? ⟨b8, 5, none⟩ = some (.int .u32 (qby.toNat : Int))) (first | exact c2 | exact c1 | exact c0) (first | (go_at_call 14; refine (Duo_Burst hDd qi qat qby hlen).mono ?_; rintro e W2 ⟨rfl, hH, hf2⟩; have hb8e := hb8d.frm hf2 hn8S; have c1 : W2.cell? ⟨b8, 1, none⟩ = some (.int .i64 qi) ∧ W2.cell? ⟨b8, 2, none⟩ = some (.int .i64 qat) ∧ W2.cell? ⟨b8, 5, none⟩ = some (.int .u32 (qby.toNat : Int)) := ⟨hb8e.cell 1, hb8e.cell 2, hb8e.cell 5⟩) | (go_at_call 15; refine (Half_Burst hH hlen).mono ?_; rintro e W3 ⟨rfl, hD2, hf3⟩; have hb8f := hb8e.frm hf3 hn8T; have c2 : W3.cell? ⟨b8, 1, none⟩ = some (.int .i64 qi) ∧ W3.cell? ⟨b8, 2, none⟩ = some (.int .i64 qat) ∧ W3.cell? ⟨b8, 5, none⟩ = some (.int .u32 (qby.toNat : Int)) := ⟨hb8f.cell 1, hb8f.cell 2, hb8f.cell 5⟩))
                    go_wp2
                    go_meet
                    exact ⟨d', (D.burst qi qat qby).1, rfl, rfl, (burst_blocks _ _ _ _).trans Hbl.out, Nat.le_succ_of_le (Nat.le_trans (Nat.le_of_eq (congrArg List.length (burst_waits D qi qat qby))) hwt), _, _, _, hD2⟩
                  · have e5 : (kind == 5) = false := by simpa using q5
                    by_cases q6 : kind = 6
                    · subst q6
                      go_wp2_with fail
                      refine (Disk_Twin hD1.dk hlen).mono ?_
                      rintro e W1 ⟨t, rfl, ht, hf1⟩
                      obtain ⟨O, hP⟩ := hD1.pair ht hf1
                      clear hD1 ht hf1 hrd1 y0 y1 y2 y3 y4 y5 y6 y7
                      go_wp2_with fail
                      refine (fill_calls 77 W1).mono ?_
                      rintro e W2 ⟨g, rfl, ho, hf2⟩
                      have hP2 := hP.frm' hf2
                      have hsO : ∀ b, b < W2.heap.size → NewB W1 W2 b → ¬ O b := fun b _ hb h => absurd (hP.high b h) (Nat.not_lt_of_le hb.1)
                      clear hP hf2
                      go_wp2_with fail
                      refine (Pair_Write hP2 0 _ 128 ((fillB 77).map byt) ho.rd (fun u hu => (fillB_is 77).2 u hu) hsO hlen).mono ?_
                      rintro e W3 ⟨rfl, hP3⟩
                      clear hP2 hsO
                      have ra : Rd (W3.alloc (.cells #[.int .u8 1] 5)) (NewB W3 (W3.alloc (.cells #[.int .u8 1] 5))) 1 (.slice (some ⟨W3.heap.size, 0, none⟩) 1 1) ([1] : List UInt8).length (([1] : List UInt8).map byt) := rd_lit W3 5 1 1 #[.int .u8 1] rfl
                      have hP4 := hP3.frm' ((Frm.refl NoB W3).alloc (.cells #[.int .u8 1] 5))
                      have hs4 : ∀ b, b < (W3.alloc (.cells #[.int .u8 1] 5)).heap.size → NewB W3 (W3.alloc (.cells #[.int .u8 1] 5)) b → ¬ OrB O (NewB W2 W3) b := fun b _ hb h => absurd (hP3.high b h) (Nat.not_lt_of_le hb.1)
                      have hl4 : (D.write 0 ((fillB 77).map byt)).1.waits.length ≤ 1099511627776 := by have := write_waits D 0 ((fillB 77).map byt); omega
                      go_wp2_with fail
                      refine (Pair_Boot hP4 _ [1] ra hs4 hl4).mono ?_
                      rintro e W5 ⟨rfl, Do', O', hP5⟩
                      go_wp2
                      go_meet
                      exact ⟨t, D, rfl, rfl, Hbl.out, Nat.le_succ_of_le hwt, _, _, _, hP5.duo⟩
                    · have e6 : (kind == 6) = false := by simpa using q6
                      go_wp2
                      go_meet
                      exact ⟨d', D, rfl, rfl, Hbl.out, Nat.le_succ_of_le hwt, _, _, _, hD1⟩
        case rest =>
          obtain ⟨d2, D2, rfl, rfl, hbl2, hwt2, S2, F2, T2, hD2⟩ := hcut
          have hlen2 : D2.waits.length ≤ 1099511627776 := by omega
          have cLen : ∀ k, Calls Try.prog 20 #[.pointer (some ⟨d2, 0, none⟩)] (wc.drewN k) fun e w' => e = .returned (.int .i64 (n : Nat)) ∧ wc.drewN k = w' := fun k => hbl2 ▸ Disk_Len (hD2.dk.drewN k)
          obtain ⟨bv, dv, av, wv, bs, ds, as_, ws, hri⟩ := id hD2.rf
          obtain ⟨Aa, ca, rfl⟩ := hri.at_.form
          have z2 := hri.blk.cell 2
          have z5 := hri.blk.cell 5
          have z6 := hri.blk.cell 6
          clear hri
          have Hbl2 := hide hbl2
          clear hbl2 hb hA
          go_upto_region 32 with (fail)
          go_quiet (first
            | (go_at_call 17; exact quiet_left (Disk_Waits (hD2.dk.drewN _)))
            | (go_at_call 18; exact quiet_left (Disk_Off (hD2.dk.drewN _)))
            | (go_at_call 19; exact quiet_left (Disk_Wrote (hD2.dk.drewN _)))
            | (go_at_call 20; exact quiet_left (cLen _)))
          have hD3 := hD2.frm' ((Frm.refl NoB wc).drewN nq)
          clear hD2 cLen z2 z5 z6
          go_wp2_with fail
          go_loopw [12] (fun kv wx => ∃ j : Nat, j ≤ 13 ∧ kv = .int .i64 ((j : Int) - 1) ∧ Duo w wx d2 r D2 S2 F2 T2) (fun kv _ => 13 - (intOf kv + 1).toNat)
          case atStart => exact ⟨0, Nat.zero_le _, rfl, hD3⟩
          case round =>
            obtain ⟨j, hj, rfl, hDj⟩ := hrel
            by_cases c1 : (j : Int) - 1 ≤ n
            · have e1 : decide ((j : Int) - 1 ≤ n) = true := decide_eq_true c1
              by_cases c2 : (j : Int) - 1 < 12
              · have e2 : decide ((j : Int) - 1 < 12) = true := decide_eq_true c2
                clear hD3
                go_wp2_with fail
                refine (Disk_Read hDj.dk ((j : Int) - 1) hlen2).mono ?_
                rintro e W1 ⟨va, rfl, ha, hf1⟩
                have hD1 := hDj.frm' hf1
                clear hDj
                go_wp2_with fail
                refine (Ref_Read hD1.rf ((j : Int) - 1) hlen2).mono ?_
                rintro e W2 ⟨vb, rfl, hb, hf2⟩
                have hD2 := hD1.frm' hf2
                obtain ⟨la, ra, rb, hla⟩ := read_both ha hb
                have ra2 := ra.frm hf2 (fun _ _ _ h => h)
                clear hD1 ha hb hf1 ra
                obtain ⟨o, ho⟩ : ∃ o, (D2.read ((j : Int) - 1)).isSome = o := ⟨_, rfl⟩
                rw [ho]
                have e3 : (o != o) = false := by cases o <;> rfl
                go_wp2_with fail
                refine (Same_calls _ _ la la W2 ra2 rb hla).mono ?_
                rintro e W3 ⟨rfl, hf3⟩
                simp only [decide_true]
                have hD3 := hD2.frm' hf3
                clear hD2 hf2 hf3 ra2 rb hla
                go_wp2
                exact ⟨⟨j + 1, by omega, by rw [show ((j + 1 : Nat) : Int) - 1 = j from by omega], hD3⟩, by simp only [intOf]; omega⟩
              · have e2 : decide ((j : Int) - 1 < 12) = false := decide_eq_false c2
                go_wp2_with fail
                exact ⟨⟨k + 1, d2, D2, by omega, by omega, rfl, rfl, Hbl2.out, hwt2, S2, F2, T2, hDj⟩, by simp only [intOf]; omega⟩
            · have e1 : decide ((j : Int) - 1 ≤ n) = false := decide_eq_false c1
              go_wp2_with fail
              exact ⟨⟨k + 1, d2, D2, by omega, by omega, rfl, rfl, Hbl2.out, hwt2, S2, F2, T2, hDj⟩, by simp only [intOf]; omega⟩
      · have e1 : decide ((k : Int) < m) = true := decide_eq_true (by omega)
        have e2 : decide ((k : Int) < 40) = false := decide_eq_false (by omega)
        go_wp2_with fail
        refine (DiskRuns_calls wr).mono ?_
        rintro e W' ⟨rfl, hf⟩
        go_wp2
        go_ret
        exact ⟨rfl, hD.frm.trans hf (fun _ _ h => h)⟩
    · have e1 : decide ((k : Int) < m) = false := decide_eq_false (by omega)
      go_wp2_with fail
      refine (DiskRuns_calls wr).mono ?_
      rintro e W' ⟨rfl, hf⟩
      go_wp2
      go_ret
      exact ⟨rfl, hD.frm.trans hf (fun _ _ h => h)⟩

set_option maxRecDepth 100000 in
set_option maxHeartbeats 4000000 in
theorem DiskPlays_nil (w : World) (n : Int) (m c : Nat) (A : Option Addr) (h : n < 1 ∨ 512 < n) :
    Calls Try.prog 3 #[.int .i64 n, .slice A m c] w fun e w' => e = .returned (.bool true) ∧ Frm NoB w w' := by
  have hn1 : ∀ (w : World), (binOp .eql 23 (.pointer none) (.pointer none)).run Try.prog w = .ok (.bool true) w := fun _ => rfl
  have hn2 : ∀ (w : World), (binOp .eql 25 (.pointer none) (.pointer none)).run Try.prog w = .ok (.bool true) w := fun _ => rfl
  have hn3 : ∀ (w : World), (binOp .neq 23 (.pointer none) (.pointer none)).run Try.prog w = .ok (.bool false) w := fun _ => rfl
  go_enter Try.func3, Try.ntmps3
  go_wp2_with fail
  refine (Disk_New_nil n h).mono ?_
  rintro e w' ⟨rfl, rfl⟩
  go_wp2_with fail
  refine (Ref_New_nil n h).mono ?_
  rintro e w' ⟨rfl, rfl⟩
  go_wp2_with fail
  go_loopw [5, 7] (fun dv iv wr => dv = .pointer none ∧ iv = .int .i64 0 ∧ wr = w) (fun _ _ _ => 0)
  case atStart => exact ⟨rfl, rfl, rfl⟩
  case round =>
    obtain ⟨rfl, rfl, rfl⟩ := hrel
    by_cases hm : 0 < m
    · have e1 : decide ((0 : Int) < m) = true := decide_eq_true (by omega)
      go_wp2_with fail
      refine (DiskRuns_calls wr).mono ?_
      rintro e W' ⟨rfl, hf⟩
      go_wp2
      go_ret
      exact ⟨rfl, hf⟩
    · have e1 : decide ((0 : Int) < m) = false := decide_eq_false (by omega)
      go_wp2_with fail
      refine (DiskRuns_calls wr).mono ?_
      rintro e W' ⟨rfl, hf⟩
      go_wp2
      go_ret
      exact ⟨rfl, hf⟩
end Go.Proofs.Ytablmgnhpciljaa
