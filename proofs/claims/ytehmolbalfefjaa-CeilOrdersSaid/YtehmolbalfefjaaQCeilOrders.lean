/- CeilOrders: the walk of the statement. -/
import Derived.Test.YtehmolbalfefjaaQCeil4
import Derived.Test.YtehmolbalfefjaaQRows
namespace Go.Proofs.Ytehmolbalfefjaa.Q
open Go.RowKit Go.Proofs.YtehmolbalfefjaaW.PrintWords Go.Proofs.YtehmolbalfefjaaW.PrintLast Go.Proofs.YtehmolbalfefjaaW.PrintMore Go.Proofs.YtehmolbalfefjaaH
attribute [local go_sem] max2_int min2_int max_two min_two max_three min_three max_four min_four
set_option linter.unusedVariables false
set_option maxHeartbeats 8000000 in
set_option maxRecDepth 100000 in
theorem camshaftlaw13_CeilOrders_walk (blocks : Int) (A : Option Addr) (cap : Nat) (l : List S37) (w : World) (hr : Kd.C k37 w A l.length l) (hc : l.length ≤ cap) (_ : ok3 blocks) (_ : ok22 l) :
    Calls Try.prog 7 #[.int .i64 blocks, .slice A l.length cap] w fun e w' => e = .returned (.bool true) ∧ Below w.heap.size w w' := by
  have hu37 := Try.underlying37
  have HR := Aside0.mk hr
  have HC := Aside0.mk hc
  clear hr hc
  cases hL : lightB l with
  | false =>
    have HL := Aside0.mk hL
    clear hL
    go_enter Try.func7, Try.ntmps7
    go_wp2_with (first | (go_at_call 15; refine (light_calls _ _ _ _ HR.out HC.out).mono ?_; rintro e w1 ⟨rfl, hb1⟩; rw [HL.out]; have HB1 : Aside0 (Below w.heap.size w w1) := ⟨hb1⟩; clear hb1) | (go_at_call 16; refine (known_calls _).mono ?_; rintro e w2 ⟨rfl, hb2⟩; have HB2 : Aside0 (Below w.heap.size w w2) := ⟨below_then HB1.out HB1.out.size hb2⟩; clear hb2))
    go_ret
    exact ⟨rfl, HB2.out⟩
  | true =>
    have HL := Aside0.mk hL
    have HSM : Aside0 (Small l) := ⟨lightB_parts hL⟩
    clear hL
    cases hk : ceilOk blocks l with
    | false =>
      have HK := Aside0.mk hk
      clear hk
      go_enter Try.func7, Try.ntmps7
      go_wp2_with (first | (go_at_call 15; refine (light_calls _ _ _ _ HR.out HC.out).mono ?_; rintro e w1 ⟨rfl, hb1⟩; rw [HL.out]; have HB1 : Aside0 (Below w.heap.size w w1) := ⟨hb1⟩; clear hb1) | (go_at_call 17; refine (right_calls _ _ _ _ _ (Kd.C_below HR.out HB1.out) HC.out HSM.out).mono ?_; rintro e w2 ⟨rfl, hb2⟩; rw [HK.out]; have HB2 : Aside0 (Below w.heap.size w w2) := ⟨below_then HB1.out HB1.out.size hb2⟩; clear hb2) | (go_at_call 16; refine (known_calls _).mono ?_; rintro e w3 ⟨rfl, hb3⟩; have HB3 : Aside0 (Below w.heap.size w w3) := ⟨below_then HB2.out HB2.out.size hb3⟩; clear hb3))
      go_ret
      exact ⟨rfl, HB3.out⟩
    | true =>
      have HK := Aside0.mk hk
      obtain ⟨hu, hb0, hb8, hl8⟩ := ceilOk_parts hk
      have HU := Aside0.mk hu
      clear hk hu
      go_enter Try.func7, Try.ntmps7
      go_wp2_with (first | (go_at_call 15; refine (light_calls _ _ _ _ HR.out HC.out).mono ?_; rintro e w1 ⟨rfl, hb1⟩; rw [HL.out]; have HB1 : Aside0 (Below w.heap.size w w1) := ⟨hb1⟩; clear hb1) | (go_at_call 17; refine (right_calls _ _ _ _ _ (Kd.C_below HR.out HB1.out) HC.out HSM.out).mono ?_; rintro e w2 ⟨rfl, hb2⟩; rw [HK.out]; have HB2 : Aside0 (Below w.heap.size w w2) := ⟨below_then HB1.out HB1.out.size hb2⟩; clear hb2))
      go_loopg [5, 6] l.length (fun q v5 v6 W => ∃ (i : Int), v6 = .int .i64 i ∧ Aside0 (i + 1 = q ∧ q ≤ l.length) ∧ Aside0 (Kd.N k37 37 W w.heap.size (fun _ => True) v5 ((l.drop q).reverse)) ∧ Aside0 (Below w.heap.size w W))
      case atStart => exact ⟨(l.length : Int) - 1, by first | rfl | simp, ⟨by omega, Nat.le_refl _⟩, ⟨by rw [List.drop_length]; exact Kd.N_nil _ _ _ _ _⟩, HB2⟩
      case round =>
        clear HB1 HB2
        obtain ⟨i, rfl, HQ, HO, HB⟩ := hrel
        obtain ⟨hq0, hq1⟩ := HQ.out
        cases gk with
        | zero =>
          have hd : decide (0 ≤ i) = false := decide_eq_false (by omega)
          have HO0 : Aside0 (Kd.N k37 37 wr w.heap.size (fun _ => True) u5 l.reverse) := ⟨HO.out⟩
          have HRV : Aside0 (Small l.reverse ∧ waitsR blocks l = waitsP blocks l ∧ waitsR blocks l.reverse = (waitsP blocks l).reverse ∧ ceilingsR blocks l.reverse = ceilingsR blocks l ∧ (waitsP blocks l).length = l.length ∧ (ceilingsR blocks l).length ≤ 1000) := ⟨by
            refine ⟨⟨by simpa using HSM.out.1, fun u hu => HSM.out.2 u (by simpa using hu)⟩, ?_, ?_, ?_, ?_, ?_⟩
            · unfold waitsR; rw [if_pos HK.out]
            · unfold waitsR; rw [if_pos (by rw [ceilOk_reverse]; exact HK.out), waits_reverse _ _ HK.out]
            · unfold ceilingsR; rw [ceilOk_reverse, if_pos HK.out, if_pos HK.out, ceilings_reverse _ _ HK.out]
            · simp [waitsP]
            · exact ceilingsP_short blocks l⟩
          clear hq0 HO
          generalize l.reverse = tl at HO0 HRV
          obtain ⟨B, cb, rfl, hcb, hrb⟩ := Kd.N_reads HO0.out
          have HCB := Aside0.mk hcb
          have HRB := Aside0.mk hrb
          clear hrb hcb HO0
          go_wp2_with fail
          refine (waits_calls _ _ _ _ _ (Kd.C_below HR.out HB.out) HC.out HSM.out).mono ?_
          rintro e w3 ⟨v7, rfl, ho7, hb3⟩
          rw [HRV.out.2.1] at ho7
          have HO7 := Aside0.mk ho7
          have HB3 : Aside0 (Below w.heap.size w w3) := ⟨below_then HB.out HB.out.size hb3⟩
          have HRB3 := Aside0.mk (Kd.C_below HRB.out hb3)
          clear ho7 hb3
          go_wp2_with fail
          refine (waits_calls _ _ _ _ _ HRB3.out HCB.out HRV.out.1).mono ?_
          rintro e w4 ⟨v8, rfl, ho8, hb4⟩
          rw [HRV.out.2.2.1] at ho8
          have HB4 : Aside0 (Below w.heap.size w w4) := ⟨below_then HB3.out HB3.out.size hb4⟩
          have HRB4 := Aside0.mk (Kd.C_below HRB3.out hb4)
          obtain ⟨A7, c7, rfl, _, hr7⟩ := Kd.R_reads (Kd.R_below HO7.out hb4)
          obtain ⟨A8, c8, rfl, _, hr8⟩ := Kd.R_reads ho8
          have HR7 := Aside0.mk hr7
          have HR8 := Aside0.mk hr8
          have hl7 : (waitsP blocks l).length = l.length := HRV.out.2.2.2.2.1
          have hl8 : (waitsP blocks l).reverse.length = l.length := by rw [List.length_reverse]; exact hl7
          clear ho8 hb4 HRB HRB3 hr7 hr8
          generalize hw7 : waitsP blocks l = w7 at *
          generalize hw8 : w7.reverse = w8 at *
          have HW7 := Aside0.mk hw7
          have HW8 := Aside0.mk hw8
          have HL7 := Aside0.mk hl7
          have HL8 := Aside0.mk hl8
          clear hw7 hw8
          rw [hl7, hl8]
          clear hl7 hl8
          go_wp2
          have hl8 : l.length ≤ 8 := hl8
          go_loopg [9] l.length (fun q v9 W => ∃ (j : Int), v9 = .int .i64 j ∧ Aside0 (0 ≤ j ∧ j + q = l.length) ∧ Drawn0 w4 W)
          case atStart => exact ⟨0, rfl, ⟨by omega⟩, Drawn0.refl _⟩
          case round =>
            obtain ⟨j, rfl, HJ, ⟨⟨nd, rfl⟩⟩⟩ := hrel
            obtain ⟨j0, hjq⟩ := HJ.out
            cases gk with
            | zero =>
              have hdj : decide (j < (l.length : Int)) = false := decide_eq_false (by omega)
              clear hjq
              have HB5 : Aside0 (Below w.heap.size w (w4.drewN nd)) := ⟨pw_below_drewN HB4.out nd⟩
              have HRB5 : Aside0 (Kd.C k37 (w4.drewN nd) B tl.length tl) := ⟨Kd.C_drewN HRB4.out nd⟩
              clear HRB4 HB4 HR7 HR8 HO7
              generalize w4.drewN nd = w5 at *
              go_wp2_with fail
              refine (ceilings_calls _ _ _ _ _ (Kd.C_below HR.out HB5.out) HC.out HSM.out).mono ?_
              rintro e w6 ⟨v73, rfl, ho73, hb6⟩
              have HB6 : Aside0 (Below w.heap.size w w6) := ⟨below_then HB5.out HB5.out.size hb6⟩
              have HRB6 := Aside0.mk (Kd.C_below HRB5.out hb6)
              have HO73 := Aside0.mk ho73
              clear ho73 hb6 HRB5 HB5
              go_wp2_with fail
              refine (ceilings_calls _ _ _ _ _ HRB6.out HCB.out HRV.out.1).mono ?_
              rintro e w7' ⟨v76, rfl, ho76, hb7⟩
              rw [HRV.out.2.2.2.1] at ho76
              have HB7 : Aside0 (Below w.heap.size w w7') := ⟨below_then HB6.out HB6.out.size hb7⟩
              obtain ⟨A73, c73, rfl, hc73, hr73⟩ := Kd.R_reads (Kd.R_below HO73.out hb7)
              obtain ⟨A76, c76, rfl, hc76, hr76⟩ := Kd.R_reads ho76
              have HR73 := Aside0.mk hr73
              have HR76 := Aside0.mk hr76
              have HC73 := Aside0.mk hc73
              have HC76 := Aside0.mk hc76
              clear ho76 hb7 hr73 hr76 hc73 hc76 HRB6 HB6 HO73
              go_wp2_with fail
              refine (same_calls _ _ _ _ _ _ _ HR73.out HC73.out HR76.out HC76.out HRV.out.2.2.2.2.2).mono ?_
              rintro e w8' ⟨rfl, hb8⟩
              rw [decide_eq_true rfl]
              have HB8 : Aside0 (Below w.heap.size w w8') := ⟨below_then HB7.out HB7.out.size hb8⟩
              clear hb8
              go_wp2_with (go_at_call 16; refine (known_calls _).mono ?_; rintro e w9 ⟨rfl, hb9⟩; have HB9 : Aside0 (Below w.heap.size w w9) := ⟨below_then HB8.out HB8.out.size hb9⟩; clear hb9)
              go_ret
              exact ⟨rfl, HB9.out⟩
            | succ q =>
              have hjl : j < l.length := by omega
              have hdj : decide (j < (l.length : Int)) = true := decide_eq_true hjl
              obtain ⟨ad7, rfl, hy7⟩ := Kd.at_int HR7.out j j0 (by have := HL7.out; omega)
              obtain ⟨ad8, rfl, hy8⟩ := Kd.at_int HR8.out ((l.length : Int) - 1 - j) (by omega) (by have := HL8.out; omega)
              have hrev : rd w8 ((l.length : Int) - 1 - j) = rd w7 j := by
                have h1 := HL7.out
                rw [← HW8.out]
                unfold rd
                rw [List.getD_eq_getElem?_getD, List.getD_eq_getElem?_getD, List.getElem?_reverse (by omega)]
                congr 2
                omega
              rw [hrev] at hy8
              clear hrev
              generalize rd w7 j = x at *
              have HQ2 : Aside0 (0 ≤ j + 1 ∧ j + 1 + q = l.length) := ⟨by omega⟩
              have h91 : j < 8 := by omega
              have h92 : 0 ≤ (l.length : Int) - 1 - j := by omega
              have h93 : (l.length : Int) - 1 - j < l.length := by omega
              clear hjq HJ
              go_wp2
              go_quiet (fail)
              go_wp2
              go_roundg q
              case measure => omega
              case rel => exact ⟨j + 1, rfl, HQ2, by repeat (first | exact Drawn0.refl _ | apply Drawn0.step)⟩
        | succ q =>
          have hi : 0 ≤ i := by omega
          have hlt : i < l.length := by omega
          have hd : decide (0 ≤ i) = true := decide_eq_true hi
          obtain ⟨ad, A1, c1, A2, c2, rfl, hx0, hx1, hx2, hl1, hi1, hl2, hi2⟩ := at_T37 HR.out i hi hlt
          have HFK : Aside0 (Kd.FK k37 w (fun k => k < w.heap.size) (rd_T37 l i) [.int .i64 (rd_T37 l i).f0, .slice A1 (rd_T37 l i).f1.length c1, .slice A2 (rd_T37 l i).f2.length c2]) := ⟨k37_mkF w _ _ hl1 (Kd.C_F (Kd.heap_int .i64) hi1) hl2 (Kd.C_F (Kd.heap_int .i64) hi2)⟩
          have HDR : Aside0 ((l.drop q).reverse = (l.drop (q + 1)).reverse ++ [rd_T37 l i]) := ⟨by
            have := drop_rdU l i hi hlt
            rw [show i.toNat = q by omega, show (i + 1).toNat = q + 1 by omega] at this
            rw [this, List.reverse_cons]⟩
          generalize rd_T37 l i = u at *
          replace hx0 := (HB.out.cell (World.block_lt_of_cell? w _ hx0)).trans hx0
          replace hx1 := (HB.out.cell (World.block_lt_of_cell? w _ hx1)).trans hx1
          replace hx2 := (HB.out.cell (World.block_lt_of_cell? w _ hx2)).trans hx2
          have HQ2 : Aside0 (i - 1 + 1 = (q : Int) ∧ q ≤ l.length) := ⟨by omega⟩
          have HLN : Aside0 (((l.drop (q + 1)).reverse).length ≤ 20) := ⟨by simp; omega⟩
          generalize (l.drop (q + 1)).reverse = os at HO HDR HLN
          have hi8 : i < 8 := by omega
          clear hq0 hq1 HQ hi1 hi2 hl1 hl2
          go_wp2_with ((with_reducible refine gate_builtin (b := .append) (xs := #[.tmp 27, .tmp 32]) rfl ?_); at_builtin; refine Kd.N_append k37 (w0 := w) w.heap.size rfl (.tmp 27) (.tmp 32) 22 37 (.agg #[(.int .i64 0), (.slice none 0 0), (.slice none 0 0)]) 56 rfl Try.underlying22 info37 rfl (by decide) (by omega) u5 os u [.int .i64 u.f0, .slice A1 u.f1.length c1, .slice A2 u.f2.length c2] (fun _ => True) (fun k => k < w.heap.size) rfl rfl ?aP ?aK ?aF ?aO ?aB ?aS ?aL ?_; (case aP => exact Kd.FK_step HFK.out (fun k _ hlt => HB.out.block k hlt)); (case aK => exact fun k hk => ⟨trivial, fun e => by have := Kd.N_base HO.out k e.symm; omega⟩); (case aB => exact HB.out); (case aF => exact (fun k hk => trivial)); (case aO => exact HO.out); (case aS => exact HB.out.size); (case aL => have := HLN.out; omega); intro v1 w10 ho hb hg hat; have HO3 := Aside0.mk ho; have HB3 := Aside0.mk hb; clear ho hb hg hat)
          go_roundg q
          case measure => omega
          case rel => exact ⟨i - 1, rfl, HQ2, ⟨by rw [HDR.out]; exact HO3.out⟩, HB3⟩
end Go.Proofs.Ytehmolbalfefjaa.Q
