/- CeilLong: the walk of the statement. -/
import Derived.Test.YtehmolbalfefjaaQCeil5
import Derived.Test.YtehmolbalfefjaaQRows
import Derived.Deep.RegionLaw
namespace Go.Proofs.Ytehmolbalfefjaa.Q
open Go.RowKit Go.Proofs.YtehmolbalfefjaaW.PrintWords Go.Proofs.YtehmolbalfefjaaW.PrintLast Go.Proofs.YtehmolbalfefjaaW.PrintMore Go.Proofs.YtehmolbalfefjaaH
attribute [local go_sem] max2_int min2_int max_two min_two max_three min_three max_four min_four
set_option linter.unusedVariables false
theorem alloc_drew_out (W : World) (o : Obj) : (W.alloc o).drew = W.drew.alloc o := rfl
theorem long_step {w wr w10 : World} {U m9 c9 : Nat} {A9 : Option Addr} {cs0 cs1 v2 u6 : Value} {xs ys : List Int} {os : List S37} (hU : w.heap.size ≤ U) (hBK : wr.heap[U]? = some (.cells #[cs0, cs1, v2] 37 (0, 0))) (hR2 : Kd.R (Kd.int .i64) 3 wr (U + 1) (fun _ => True) v2 xs) (hO5 : Kd.R (Kd.int .i64) 3 w10 (U + 1) (fun _ => True) (.slice A9 m9 c9) ys) (hN1 : Kd.N k37 37 wr w.heap.size (fun k => k < U) u6 os) (hB1 : Below w.heap.size w wr) (hB5 : Below (U + 1) wr.drew w10) (hG5 : wr.drew.grownBy w10 v2.ownBlock) :
    (w10.setCell ⟨U, 2, none⟩ (.slice A9 m9 c9)).heap[U]? = some (.cells #[cs0, cs1, .slice A9 m9 c9] 37 (0, 0)) ∧ Kd.R (Kd.int .i64) 3 (w10.setCell ⟨U, 2, none⟩ (.slice A9 m9 c9)) (U + 1) (fun _ => True) (.slice A9 m9 c9) ys ∧ Kd.N k37 37 (w10.setCell ⟨U, 2, none⟩ (.slice A9 m9 c9)) w.heap.size (fun k => k < U) u6 os ∧ Below w.heap.size w (w10.setCell ⟨U, 2, none⟩ (.slice A9 m9 c9)) := by
  have hb : w10.heap[U]? = some (.cells #[cs0, cs1, v2] 37 (0, 0)) := (hB5.block U (by omega)).trans hBK
  refine ⟨by simpa using blk_set hb 2 (.slice A9 m9 c9), ?_, ?_, ?_⟩
  · exact Kd.R_mono (Kd.R_far (p := ⟨U, 2, none⟩) (Kd.R_bound hO5) (fun k hk => by have := hk.2.1; show k ≠ U; omega) _) (fun _ _ => trivial)
  · refine Kd.N_far (p := ⟨U, 2, none⟩) (Kd.N_grown (Kd.N_drew hN1) hG5 (fun k hk e => ?_)) (fun k hk => by show k ≠ U; omega) _
    have := ((Kd.R_bound hR2).1 k e.symm).2.1
    omega
  · exact ((hB1.drew.trans (Below.mono hB5 (by omega))).setCell (p := ⟨U, 2, none⟩) hU _)
set_option maxHeartbeats 8000000 in
set_option maxRecDepth 100000 in
theorem camshaftlaw13_CeilLong_walk (blocks : Int) (A : Option Addr) (cap : Nat) (l : List S37) (w : World) (hr : Kd.C k37 w A l.length l) (hc : l.length ≤ cap) (_ : ok3 blocks) (_ : ok22 l) :
    Calls Try.prog 8 #[.int .i64 blocks, .slice A l.length cap] w fun e w' => e = .returned (.bool true) ∧ Below w.heap.size w w' := by
  have hu37 := Try.underlying37
  have HR := Aside0.mk hr
  have HC := Aside0.mk hc
  clear hr hc
  cases hL : lightB l with
  | false =>
    have HL := Aside0.mk hL
    clear hL
    go_enter Try.func8, Try.ntmps8
    go_wp2_with (first | (go_at_call 15; refine (light_calls _ _ _ _ HR.out HC.out).mono ?_; rintro e w1 ⟨rfl, hb1⟩; rw [HL.out]; have HB1 : Aside0 (Below w.heap.size w w1) := ⟨hb1⟩; clear hb1) | (go_at_call 16; refine (known_calls _).mono ?_; rintro e w2 ⟨rfl, hb2⟩; have HB2 : Aside0 (Below w.heap.size w w2) := ⟨below_then HB1.out HB1.out.size hb2⟩; clear hb2))
    go_ret
    exact ⟨rfl, HB2.out⟩
  | true =>
    have HL := Aside0.mk hL
    have HSM : Aside0 (Small l) := ⟨lightB_parts hL⟩
    clear hL
    cases hk : ceilOk blocks l with
    | false =>
      have HK := Aside0.mk hk
      clear hk
      go_enter Try.func8, Try.ntmps8
      go_wp2_with (first | (go_at_call 15; refine (light_calls _ _ _ _ HR.out HC.out).mono ?_; rintro e w1 ⟨rfl, hb1⟩; rw [HL.out]; have HB1 : Aside0 (Below w.heap.size w w1) := ⟨hb1⟩; clear hb1) | (go_at_call 17; refine (right_calls _ _ _ _ _ (Kd.C_below HR.out HB1.out) HC.out HSM.out).mono ?_; rintro e w2 ⟨rfl, hb2⟩; rw [HK.out]; have HB2 : Aside0 (Below w.heap.size w w2) := ⟨below_then HB1.out HB1.out.size hb2⟩; clear hb2) | (go_at_call 16; refine (known_calls _).mono ?_; rintro e w3 ⟨rfl, hb3⟩; have HB3 : Aside0 (Below w.heap.size w w3) := ⟨below_then HB2.out HB2.out.size hb3⟩; clear hb3))
      go_ret
      exact ⟨rfl, HB3.out⟩
    | true =>
      have HK := Aside0.mk hk
      obtain ⟨hu, hb0, hb8, hl8⟩ := ceilOk_parts hk
      have HU := Aside0.mk hu
      clear hk hu
      go_enter Try.func8, Try.ntmps8
      go_wp2_with (first | (go_at_call 15; refine (light_calls _ _ _ _ HR.out HC.out).mono ?_; rintro e w1 ⟨rfl, hb1⟩; rw [HL.out]; have HB1 : Aside0 (Below w.heap.size w w1) := ⟨hb1⟩; clear hb1) | (go_at_call 17; refine (right_calls _ _ _ _ _ (Kd.C_below HR.out HB1.out) HC.out HSM.out).mono ?_; rintro e w2 ⟨rfl, hb2⟩; rw [HK.out]; have HB2 : Aside0 (Below w.heap.size w w2) := ⟨below_then HB1.out HB1.out.size hb2⟩; clear hb2))
      go_loopg [5, 6, 7] l.length (fun q v5 v6 v7 W => ∃ (i y : Int), v5 = .int .i64 y ∧ v7 = .int .i64 i ∧ Aside0 (0 ≤ i ∧ i + q = l.length) ∧ Aside0 (0 ≤ y ∧ y ≤ 1099511627776 ∧ ∀ u ∈ l.take i.toNat, ∀ n ∈ u.f2, n ≤ y) ∧ Aside0 (Kd.N k37 37 W w.heap.size (fun _ => True) v6 ((l.take i.toNat).map tw)) ∧ Aside0 (Below w.heap.size w W))
      case atStart => exact ⟨0, 0, rfl, rfl, ⟨by omega⟩, ⟨by simp⟩, ⟨Kd.N_nil _ _ _ _ _⟩, HB2⟩
      case round =>
        clear HB1 HB2
        obtain ⟨i, y, rfl, rfl, HQ, HY, HO, HB⟩ := hrel
        obtain ⟨h0, hq0⟩ := HQ.out
        cases gk with
        | zero =>
          have hd : decide (i < (l.length : Int)) = false := decide_eq_false (by omega)
          have HY2 : Aside0 (0 ≤ y ∧ y ≤ 1099511627776 ∧ ∀ u ∈ l, ∀ n ∈ u.f2, n ≤ y) := ⟨by have := HY.out; rwa [List.take_of_length_le (by omega)] at this⟩
          have HO0 : Aside0 (Kd.N k37 37 wr w.heap.size (fun _ => True) u6 (l.map tw)) := ⟨by have := HO.out; rwa [List.take_of_length_le (by omega)] at this⟩
          have HST := Aside0.mk (small_tw HSM.out)
          clear hq0 HO HY
          have HRV : Aside0 (waitsR blocks l = waitsP blocks l ∧ (waitsP blocks l).length = l.length ∧ (l.map tw).length = l.length ∧ (∀ i, 0 ≤ i → i < (l.length : Int) → 0 ≤ rd (waitsP blocks l) i ∧ rd (waitsP blocks l) i ≤ y)) := ⟨by
            refine ⟨by unfold waitsR; rw [if_pos HK.out], waitsP_length _ _, by simp, fun i h0 h1 => ⟨waits_nn blocks l HK.out i h0 h1, waits_most blocks l HK.out y HY2.out.1 HY2.out.2.2 i h0 h1⟩⟩⟩
          have HW8 : Aside0 ((ceilOk blocks (l.map tw) = true ∧ (waitsR blocks (l.map tw)).length = l.length ∧ ∀ i, 0 ≤ i → i < (l.length : Int) → rd (waitsR blocks (l.map tw)) i = 2 * rd (waitsP blocks l) i) ∨ (ceilOk blocks (l.map tw) = false ∧ waitsR blocks (l.map tw) = [])) := ⟨by
            cases h2 : ceilOk blocks (l.map tw) with
            | true =>
              left
              unfold waitsR
              rw [if_pos h2]
              exact ⟨rfl, by rw [waitsP_length]; simp, fun i h0 h1 => waits_tw blocks l HK.out h2 i h0 h1⟩
            | false =>
              right
              unfold waitsR
              rw [if_neg (by simp [h2])]
              exact ⟨rfl, rfl⟩⟩
          have hyy := HY2.out.2.1
          generalize l.map tw = tl at HO0 HRV HST HW8
          obtain ⟨B, cb, rfl, hcb, hrb⟩ := Kd.N_reads HO0.out
          have htl : tl.length = l.length := HRV.out.2.2.1
          have HTL := Aside0.mk htl
          have HCB := Aside0.mk hcb
          have HRB := Aside0.mk hrb
          clear hrb hcb HO0 htl
          go_wp2_with fail
          refine (waits_calls _ _ _ _ _ (Kd.C_below HR.out HB.out) HC.out HSM.out).mono ?_
          rintro e w3 ⟨v7, rfl, ho7, hb3⟩
          rw [HRV.out.1] at ho7
          have HO7 := Aside0.mk ho7
          have HB3 : Aside0 (Below w.heap.size w w3) := ⟨below_then HB.out HB.out.size hb3⟩
          have HRB3 := Aside0.mk (Kd.C_below HRB.out hb3)
          clear ho7 hb3
          go_wp2_with fail
          refine (waits_calls _ _ _ _ _ HRB3.out HCB.out HST.out).mono ?_
          rintro e w4 ⟨v8, rfl, ho8, hb4⟩
          have HB4 : Aside0 (Below w.heap.size w w4) := ⟨below_then HB3.out HB3.out.size hb4⟩
          have HRB4 := Aside0.mk (Kd.C_below HRB3.out hb4)
          obtain ⟨A7, c7, rfl, _, hr7⟩ := Kd.R_reads (Kd.R_below HO7.out hb4)
          obtain ⟨A8, c8, rfl, _, hr8⟩ := Kd.R_reads ho8
          have HR7 := Aside0.mk hr7
          have HR8 := Aside0.mk hr8
          have HL7 := Aside0.mk HRV.out.2.1
          clear ho8 hb4 HRB HRB3 hr7 hr8 HO7
          generalize waitsP blocks l = w7 at *
          generalize waitsR blocks tl = w8 at *
          rw [HL7.out]
          rcases HW8.out with ⟨hk8, hl8, hw8⟩ | ⟨hk8, rfl⟩
          · skip
            have HK8 := Aside0.mk hk8
            have HWX := Aside0.mk hw8
            have HL8 := Aside0.mk hl8
            rw [hl8]
            clear hk8 hl8 hw8
            go_wp2
            go_loopg [12] l.length (fun q v12 W => ∃ (j : Int), v12 = .int .i64 j ∧ Aside0 (0 ≤ j ∧ j + q = l.length) ∧ Drawn0 w4 W)
            case atStart => exact ⟨0, rfl, ⟨by omega⟩, Drawn0.refl _⟩
            case round =>
              obtain ⟨j, rfl, HJ, ⟨⟨nd, rfl⟩⟩⟩ := hrel
              obtain ⟨j0, hjq⟩ := HJ.out
              cases gk with
              | zero =>
                have hdj : decide (j < (l.length : Int)) = false := decide_eq_false (by omega)
                have HB5 : Aside0 (Below w.heap.size w (w4.drewN nd)) := ⟨pw_below_drewN HB4.out nd⟩
                have HRB5 : Aside0 (Kd.C k37 (w4.drewN nd) B tl.length tl) := ⟨Kd.C_drewN HRB4.out nd⟩
                clear HRB4 HB4 HR7 HR8 hjq
                generalize w4.drewN nd = w5 at *
                have hll : (((l.length : Int)) == (l.length : Int)) = true := by simp
                go_wp2_with (go_at_call 16; refine (known_calls _).mono ?_; rintro e w9 ⟨rfl, hb9⟩; have HB9 : Aside0 (Below w.heap.size w w9) := ⟨below_then HB5.out HB5.out.size hb9⟩; clear hb9)
                go_ret
                exact ⟨rfl, HB9.out⟩
              | succ q =>
                have hjl : j < l.length := by omega
                have hdj : decide (j < (l.length : Int)) = true := decide_eq_true hjl
                obtain ⟨ad7, rfl, hy7⟩ := Kd.at_int HR7.out j j0 (by have := HL7.out; omega)
                obtain ⟨hb1', hb2'⟩ := HRV.out.2.2.2 j j0 hjl
                have HQ2 : Aside0 (0 ≤ j + 1 ∧ j + 1 + q = l.length) := ⟨by omega⟩
                have h91 : j < 8 := by omega
                obtain ⟨ad8, rfl, hy8⟩ := Kd.at_int HR8.out j j0 (by have := HL8.out; omega)
                rw [HWX.out j j0 hjl] at hy8
                generalize rd w7 j = x at *
                have hdy : decide (y < x) = false := decide_eq_false (by omega)
                have hmul : IntKind.i64.wrap (2 * x) = 2 * x := IntWalk.i64_in _ (by omega)
                have hln : decide (0 < (l.length : Int)) = true := decide_eq_true (by omega)
                have hln2 : decide (0 < l.length) = true := decide_eq_true (by omega)
                clear hjq HJ
                go_wp2
                go_quiet (fail)
                go_wp2
                go_roundg q
                case measure => omega
                case rel => exact ⟨j + 1, rfl, HQ2, by repeat (first | exact Drawn0.refl _ | apply Drawn0.step)⟩
          · skip
            have HK8 := Aside0.mk hk8
            clear hk8
            go_wp2
            go_loopg [12] l.length (fun q v12 W => ∃ (j : Int), v12 = .int .i64 j ∧ Aside0 (0 ≤ j ∧ j + q = l.length) ∧ Drawn0 w4 W)
            case atStart => exact ⟨0, rfl, ⟨by omega⟩, Drawn0.refl _⟩
            case round =>
              obtain ⟨j, rfl, HJ, ⟨⟨nd, rfl⟩⟩⟩ := hrel
              obtain ⟨j0, hjq⟩ := HJ.out
              cases gk with
              | zero =>
                have hdj : decide (j < (l.length : Int)) = false := decide_eq_false (by omega)
                have HB5 : Aside0 (Below w.heap.size w (w4.drewN nd)) := ⟨pw_below_drewN HB4.out nd⟩
                have HRB5 : Aside0 (Kd.C k37 (w4.drewN nd) B tl.length tl) := ⟨Kd.C_drewN HRB4.out nd⟩
                clear HRB4 HB4 HR7 HR8 hjq
                generalize w4.drewN nd = w5 at *
                by_cases hz : l.length = 0
                · have hz2 : ((0 : Int) == (l.length : Int)) = true := by simp [hz]
                  have HZ := Aside0.mk hz
                  clear hz
                  go_wp2_with (go_at_call 16; refine (known_calls _).mono ?_; rintro e w9 ⟨rfl, hb9⟩; have HB9 : Aside0 (Below w.heap.size w w9) := ⟨below_then HB5.out HB5.out.size hb9⟩; clear hb9)
                  go_ret
                  exact ⟨rfl, HB9.out⟩
                · have hz2 : ((0 : Int) == (l.length : Int)) = false := by simp; omega
                  go_wp2_with (first | (go_at_call 17; refine (right_calls _ _ _ _ _ HRB5.out HCB.out HST.out).mono ?_; rintro e w8 ⟨rfl, hb8⟩; rw [HK8.out]; have HB8 : Aside0 (Below w.heap.size w w8) := ⟨below_then HB5.out HB5.out.size hb8⟩; clear hb8) | (go_at_call 16; refine (known_calls _).mono ?_; rintro e w9 ⟨rfl, hb9⟩; have HB9 : Aside0 (Below w.heap.size w w9) := ⟨below_then HB8.out HB8.out.size hb9⟩; clear hb9))
                  go_ret
                  exact ⟨rfl, HB9.out⟩
              | succ q =>
                have hjl : j < l.length := by omega
                have hdj : decide (j < (l.length : Int)) = true := decide_eq_true hjl
                obtain ⟨ad7, rfl, hy7⟩ := Kd.at_int HR7.out j j0 (by have := HL7.out; omega)
                obtain ⟨hb1', hb2'⟩ := HRV.out.2.2.2 j j0 hjl
                have HQ2 : Aside0 (0 ≤ j + 1 ∧ j + 1 + q = l.length) := ⟨by omega⟩
                have h91 : j < 8 := by omega
                generalize rd w7 j = x at *
                have hdy : decide (y < x) = false := decide_eq_false (by omega)
                clear hjq HJ
                go_wp2
                go_quiet (fail)
                go_wp2
                go_roundg q
                case measure => omega
                case rel => exact ⟨j + 1, rfl, HQ2, by repeat (first | exact Drawn0.refl _ | apply Drawn0.step)⟩
        | succ q =>
          have hlt : i < l.length := by omega
          have hd : decide (i < (l.length : Int)) = true := decide_eq_true hlt
          obtain ⟨ad, A1, c1, A2, c2, rfl, hx0, hx1, hx2, hl1, hi1, hl2, hi2⟩ := at_T37 HR.out i h0 hlt
          have HMEM : Aside0 (rd_T37 l i ∈ l) := ⟨rd_use_mem l i h0 hlt⟩
          have HTK := Aside0.mk (take_use l i h0 hlt)
          have HLNS := Aside0.mk (useOk_lens (HU.out _ HMEM.out))
          have h50 := (HSM.out.2 _ HMEM.out).2
          have HI1 := Aside0.mk hi1
          have HI2 := Aside0.mk hi2
          have HLL := Aside0.mk hl1
          generalize rd_T37 l i = u at *
          have HX2 := Aside0.mk hx2
          replace hx0 := (HB.out.cell (World.block_lt_of_cell? w _ hx0)).trans hx0
          replace hx1 := (HB.out.cell (World.block_lt_of_cell? w _ hx1)).trans hx1
          replace hx2 := (HB.out.cell (World.block_lt_of_cell? w _ hx2)).trans hx2
          have HQ2 : Aside0 (0 ≤ i + 1 ∧ i + 1 + q = l.length) := ⟨by omega⟩
          have HLN : Aside0 (((l.take i.toNat).map tw).length ≤ 8) := ⟨by simp; omega⟩
          have hi8 : i < 8 := by omega
          clear hq0 HQ hi1 hi2 hl1 hl2
          go_wp2
          have hbl0 := World.block_lt_of_cell? wr _ hx0
          go_region
          all_goals go_wp2
          have HG0 : Aside0 (w.heap.size ≤ wr.heap.size) := ⟨HB.out.size⟩
          have HW1 : ∀ W1 : World, W1 = ((wr.alloc (.cells #[.int .i64 u.f0, .slice A1 u.f1.length c1, .slice none 0 0] 37)).drew) → Below w.heap.size w W1 ∧ W1.heap[wr.heap.size]? = some (.cells #[.int .i64 u.f0, .slice A1 u.f1.length c1, .slice none 0 0] 37 (0, 0)) ∧ Kd.N k37 37 W1 w.heap.size (fun k => k < wr.heap.size) u6 ((l.take i.toNat).map tw) := by
            rintro W1 rfl
            refine ⟨(below_alloc HB.out _).drew, heap_alloc_new wr _, ?_⟩
            exact Kd.N_drew (Kd.N_alloc (Kd.N_mono (Kd.N_bound HO.out) (fun k hk => hk.2)) _)
          obtain ⟨g1, g2, g3⟩ := HW1 _ rfl
          have HB1 := Aside0.mk g1
          have HBK := Aside0.mk g2
          have HN1 := Aside0.mk g3
          clear HW1 g1 g2 g3 HB HO hx0 hx1 hx2 hbl0
          have hUlt := blk_lt HBK.out
          generalize (wr.alloc (.cells #[.int .i64 u.f0, .slice A1 u.f1.length c1, .slice none 0 0] 37)).drew = W1 at *
          generalize wr.heap.size = U at *
          go_loopg [5, 9] u.f2.length (fun q2 v5 v9 W => ∃ (j y2 : Int) (v2 : Value), v5 = .int .i64 y2 ∧ v9 = .int .i64 j ∧ Aside0 (0 ≤ j ∧ j + q2 = u.f2.length) ∧ Aside0 (y ≤ y2 ∧ y2 ≤ 1099511627776 ∧ ∀ n ∈ u.f2.take j.toNat, n ≤ y2) ∧ Aside0 (W.heap[U]? = some (.cells #[.int .i64 u.f0, .slice A1 u.f1.length c1, v2] 37 (0, 0))) ∧ Aside0 (Kd.R (Kd.int .i64) 3 W (U + 1) (fun _ => True) v2 ((u.f2.take j.toNat).map dbl)) ∧ Aside0 (Kd.N k37 37 W w.heap.size (fun k => k < U) u6 ((l.take i.toNat).map tw)) ∧ Aside0 (Below w.heap.size w W))
          case atStart => exact ⟨0, y, .slice none 0 0, rfl, rfl, ⟨by omega⟩, ⟨by have := HY.out.2.1; simpa using this⟩, HBK, ⟨Kd.R_nil _ _ _ _ _⟩, HN1, HB1⟩
          case round =>
            clear HBK HN1 HB1
            obtain ⟨j, y2, v2, rfl, rfl, HQ3, HY3, HBK, HR2, HN1, HB1⟩ := hrel
            obtain ⟨j0, hj0⟩ := HQ3.out
            have hx2 := (HB1.out.cell (World.block_lt_of_cell? w _ HX2.out)).trans HX2.out
            cases gk with
            | zero =>
              have hdj : decide (j < (u.f2.length : Int)) = false := decide_eq_false (by omega)
              have hz0 : wr.cell? ⟨U, 0, none⟩ = some (.int .i64 u.f0) := (blk_cell HBK.out 0).trans rfl
              have hz1 : wr.cell? ⟨U, 1, none⟩ = some (.slice A1 u.f1.length c1) := (blk_cell HBK.out 1).trans rfl
              have hz2 : wr.cell? ⟨U, 2, none⟩ = some v2 := (blk_cell HBK.out 2).trans rfl
              have HR3 : Aside0 (Kd.R (Kd.int .i64) 3 wr (U + 1) (fun _ => True) v2 (u.f2.map dbl)) := ⟨by have := HR2.out; rwa [List.take_of_length_le (by omega)] at this⟩
              have HY4 : Aside0 (y ≤ y2 ∧ y2 ≤ 1099511627776 ∧ ∀ n ∈ u.f2, n ≤ y2) := ⟨by have := HY3.out; rwa [List.take_of_length_le (by omega)] at this⟩
              clear HR2 HY3 hj0
              obtain ⟨A3, c3, rfl, hc3, hr3⟩ := Kd.R_reads HR3.out
              have HC3 := Aside0.mk hc3
              clear hc3 hr3
              have hUlt := blk_lt HBK.out
              have HFK : Aside0 (Kd.FK k37 wr (fun k => k < w.heap.size ∨ U + 1 ≤ k) (tw u) [.int .i64 u.f0, .slice A1 u.f1.length c1, .slice A3 u.f2.length c3]) := ⟨by rw [show u.f2.length = (u.f2.map dbl).length by simp]; exact k37_mkF wr _ (tw u) HLL.out (Kd.F_mono (Kd.F_below (Kd.C_F (Kd.heap_int .i64) HI1.out) HB1.out) (fun k hk => .inl hk)) HC3.out (Kd.F_mono (Kd.R_F (Kd.R_bound HR3.out)) (fun k hk => .inr hk.2.1))⟩
              have HTKM : Aside0 ((l.take (i + 1).toNat).map tw = (l.take i.toNat).map tw ++ [tw u]) := ⟨by rw [HTK.out, List.map_append]; rfl⟩
              have HYN : Aside0 (0 ≤ y2 ∧ y2 ≤ 1099511627776 ∧ ∀ v ∈ l.take (i + 1).toNat, ∀ n ∈ v.f2, n ≤ y2) := ⟨by
                refine ⟨by have := HY.out.1; have := HY4.out.1; omega, HY4.out.2.1, fun v hv n hn => ?_⟩
                rw [HTK.out] at hv
                rcases List.mem_append.1 hv with hv | hv
                · have := HY.out.2.2 v hv n hn
                  have := HY4.out.1
                  omega
                · rw [List.mem_singleton] at hv
                  subst hv
                  exact HY4.out.2.2 n hn⟩
              generalize (l.take i.toNat).map tw = os at *
              go_wp2_with ((with_reducible refine gate_builtin (b := .append) (xs := #[.tmp 74, .tmp 76]) rfl ?_); at_builtin; refine Kd.N_append k37 (w0 := w) w.heap.size rfl (.tmp 74) (.tmp 76) 22 37 (.agg #[(.int .i64 0), (.slice none 0 0), (.slice none 0 0)]) 56 rfl Try.underlying22 info37 rfl (by decide) (by omega) u6 os (tw u) [.int .i64 u.f0, .slice A1 u.f1.length c1, .slice A3 u.f2.length c3] (fun _ => True) (fun k => k < w.heap.size ∨ U + 1 ≤ k) rfl rfl ?aP ?aK ?aF ?aO ?aB ?aS ?aL ?_; (case aP => exact HFK.out); (case aK => exact fun k hk => ⟨trivial, fun e => by have h1 := Kd.N_base HN1.out k e.symm; have h2 := HN1.out.1 k e.symm; omega⟩); (case aB => exact HB1.out); (case aF => exact (fun k hk => trivial)); (case aO => exact Kd.N_mono HN1.out (fun _ _ => trivial)); (case aS => exact HB1.out.size); (case aL => have := HLN.out; omega); intro v1 w10 ho hb hg hat; have HO3 := Aside0.mk ho; have HB3 := Aside0.mk hb; clear ho hb hg hat)
              go_roundg q
              case measure => omega
              case rel => exact ⟨i + 1, y2, by first | rfl | simp, by first | rfl | simp, HQ2, HYN, ⟨by rw [HTKM.out]; exact HO3.out⟩, HB3⟩
            | succ q2 =>
              have hjl : j < u.f2.length := by omega
              have hdj : decide (j < (u.f2.length : Int)) = true := decide_eq_true hjl
              have hz2 : wr.cell? ⟨U, 2, none⟩ = some v2 := (blk_cell HBK.out 2).trans rfl
              have hf2 := blk_frozen HBK.out 2
              obtain ⟨ad2, rfl, hy2⟩ := Kd.at_int HI2.out j j0 hjl
              replace hy2 := (HB1.out.cell (World.block_lt_of_cell? w _ hy2)).trans hy2
              have HTK2 := Aside0.mk (take_rd u.f2 j j0 hjl)
              have hln := HLNS.out (rd u.f2 j) (rd_mem u.f2 j j0 hjl)
              generalize rd u.f2 j = n at *
              have HQ4 : Aside0 (0 ≤ j + 1 ∧ j + 1 + q2 = u.f2.length) := ⟨by omega⟩
              have hj50 : j < 50 := by omega
              clear hj0 HQ3
              have hUlt := blk_lt HBK.out
              have hmul : IntKind.i64.wrap (2 * n) = 2 * n := IntWalk.i64_in _ (by omega)
              have HLN2 : Aside0 (((u.f2.take j.toNat).map dbl).length ≤ 50) := ⟨by simp; omega⟩
              have HTK3 : Aside0 ((u.f2.take (j + 1).toNat).map dbl = (u.f2.take j.toNat).map dbl ++ [2 * n]) := ⟨by rw [HTK2.out, List.map_append]; rfl⟩
              have HNX : Aside0 (∀ y', y2 ≤ y' → n ≤ y' → y' ≤ 1099511627776 → y ≤ y' ∧ y' ≤ 1099511627776 ∧ ∀ m ∈ u.f2.take (j + 1).toNat, m ≤ y') := ⟨fun y' h1 h2 h3 => ⟨by have := HY3.out.1; omega, h3, fun m hm => by
                rw [HTK2.out] at hm
                rcases List.mem_append.1 hm with hm | hm
                · have := HY3.out.2.2 m hm; omega
                · rw [List.mem_singleton] at hm; omega⟩⟩
              generalize (u.f2.take j.toNat).map dbl = xs at *
              go_wp2
              all_goals go_region_law (rw [alloc_drew_out]; refine Kd.R_append_step (Kd.int .i64) (w0 := wr.drew) (U + 1) (by rfl) (.tmp 61) (.tmp 71) 30 3 (.int .i64 0) 8 rfl Try.underlying30 info3 rfl (by decide) (by omega) v2 xs (2 * n) [.int .i64 (2 * n)] (fun _ => True) (fun _ => False) rfl rfl ?aP (fun _ hk => hk.elim) ?aF ?aO ?aB ?aS ?aL ?_; (case aP => exact rfl); (case aF => exact fun _ _ => trivial); (case aO => exact Kd.R_drew HR2.out); (case aB => exact Below.refl _ _); (case aS => exact hUlt); (case aL => have := HLN2.out; omega); intro v1 w10 ho hb hg hat; obtain ⟨A9, c9, hv9, _, _⟩ := Kd.R_reads ho; generalize (xs ++ [2 * n]).length = m9 at hv9; subst hv9; have HO5 := Aside0.mk ho; have HB5 := Aside0.mk hb; have HG5 := Aside0.mk hg; clear ho hb hg hat; have hz5 : w10.cell? ⟨U, 2, none⟩ = some v2 := (HB5.out.cell (show U < U + 1 by omega)).trans hz2; have hf5 : w10.frozen? ⟨U, 2, none⟩ = false := (HB5.out.frozen (show U < U + 1 by omega)).trans hf2)
              all_goals go_wp2
              all_goals go_roundg q2
              all_goals first | (case measure => omega) | skip
              all_goals obtain ⟨k1, k2, k3, k4⟩ := long_step HG0.out HBK.out HR2.out HO5.out HN1.out HB1.out HB5.out HG5.out
              all_goals exact ⟨j + 1, _, _, rfl, rfl, HQ4, ⟨HNX.out _ (by omega) (by omega) (by have := HY3.out.2.1; omega)⟩, ⟨k1⟩, ⟨by rw [HTK3.out]; exact k2⟩, ⟨k3⟩, ⟨k4⟩⟩
end Go.Proofs.Ytehmolbalfefjaa.Q
