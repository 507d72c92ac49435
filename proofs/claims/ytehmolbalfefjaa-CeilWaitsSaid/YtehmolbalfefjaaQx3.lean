-- by myprint.py (NOTES.md): the machine side, out of Lean's own print of the program
import Derived.Test.YtehmolbalfefjaaQx0
namespace Go.Proofs.Ytehmolbalfefjaa.Q
open Go.RowKit Go.Proofs.YtehmolbalfefjaaW.PrintWords Go.Proofs.YtehmolbalfefjaaW.PrintLast Go.Proofs.YtehmolbalfefjaaW.PrintMore
attribute [local go_sem] max2_int min2_int max_two min_two max_three min_three max_four min_four   -- for this text's walks alone
set_option linter.unusedVariables false
set_option linter.unusedSimpArgs false

-- GIVEN ceil_each
open Go.Proofs.YtehmolbalfefjaaH
/-- One use's blocks and lens, from i on, n of them. -/
def eachIn {σ : Type} (stp : S37 → Int → Int → σ → σ) (u : S37) : Int → Nat → σ → σ
  | _, 0, s => s
  | i, n + 1, s => eachIn stp u (i + 1) n (stp u (rd u.f1 i) (rd u.f2 i) s)
/-- All uses from i on, n of them. -/
def eachOut {σ : Type} (stp : S37 → Int → Int → σ → σ) (l : List S37) : Int → Nat → σ → σ
  | _, 0, s => s
  | i, n + 1, s => eachOut stp l (i + 1) n (eachIn stp (rd_T37 l i) 0 (rd_T37 l i).f1.length s)
theorem wrapI {i : Int} (h0 : 0 ≤ i) (h : i < 140737488355328) : wrap64 (i + 1) = i + 1 := by unfold wrap64; omega
theorem rd_use_mem (l : List S37) (i : Int) (h0 : 0 ≤ i) (h1 : i < l.length) : rd_T37 l i ∈ l := by
  have h : i.toNat < l.length := by omega
  unfold rd_T37; simp [List.getD_eq_getElem?_getD, List.getElem?_eq_getElem h]

set_option maxHeartbeats 4000000 in
set_option maxRecDepth 100000 in
theorem each_calls {σ : Type} (I : σ → World → Prop) (stp : S37 → Int → Int → σ → σ) (T : Nat → Prop) (F : FuncId) (caps : Array Value) (w0 w : World) (A : Option Addr) (c : Nat) (l : List S37) (s : σ)
    (hB : Below w0.heap.size w0 w) (hr : Kd.C k37 w0 A l.length l) (hc : l.length ≤ c) (hn : (l.length : Int) < 140737488355328) (hm : ∀ u, u ∈ l → (u.f1.length : Int) < 140737488355328 ∧ u.f1.length = u.f2.length)
    (hT : ∀ k, T k → w0.heap.size ≤ k ∧ k < w.heap.size) (hI : ∀ s W W', I s W → (∀ k, T k → W'.heap[k]? = W.heap[k]?) → I s W')
    (hcl : ∀ s W (u : S37) (i : Int) v1 v2, u ∈ l → 0 ≤ i → i < u.f1.length → I s W → Below w0.heap.size w0 W → w.heap.size ≤ W.heap.size → Calls Try.prog F (#[.agg #[.int .i64 u.f0, v1, v2], .int .i64 (rd u.f1 i), .int .i64 (rd u.f2 i)] ++ caps) W fun e W' => e = .returned (.tuple #[]) ∧ I (stp u (rd u.f1 i) (rd u.f2 i) s) W' ∧ Chg T W W')
    (hF : ∀ a W, (callFunc F a).run Try.prog W = .ok (.enter F a) W) (hs : I s w) :
    Calls Try.prog 40 #[.slice A l.length c, .func (.func F) #[] caps] w fun e w' => e = .returned (.tuple #[]) ∧ I (eachOut stp l 0 l.length s) w' ∧ Chg T w w' := by
  have hu37 := Try.underlying37
  have HR := Aside0.mk hr
  have HC := Aside0.mk hc
  have HB := Aside0.mk hB
  have HM := Aside0.mk hm
  have HT := Aside0.mk hT
  have HI := Aside0.mk hI
  have HCL := Aside0.mk hcl
  have HS := Aside0.mk hs
  have HTO := Aside0.mk (Chg.refl T w)
  have HFN := Aside0.mk hF
  clear hr hc hB hm hT hI hcl hs hF
  generalize hfin : eachOut stp l 0 l.length s = fin
  have HF := Aside0.mk hfin
  clear hfin
  go_enter Try.func40, Try.ntmps40
  go_wp2
  go_loopg [10] l.length (fun q v10 W => ∃ (i : Int) (s' : σ), v10 = .int .i64 i ∧ Aside0 (0 ≤ i ∧ i + q = l.length) ∧ Aside0 (eachOut stp l i q s' = fin) ∧ Aside0 (I s' W) ∧ Aside0 (Chg T w W))
  case atStart => exact ⟨0, s, rfl, ⟨by omega⟩, HF, HS, HTO⟩
  case round =>
    clear HF HS HTO
    obtain ⟨i, s', rfl, HQ, HF, HS, HTO⟩ := hrel
    obtain ⟨h0, hq0⟩ := HQ.out
    have hBw : Below w0.heap.size w0 wr := HB.out.trans ((HTO.out.below (fun k hk => (HT.out k hk).1) HB.out.size))
    have HBW := Aside0.mk hBw
    clear hBw
    cases gk with
    | zero =>
      have hd : decide ((i : Int) < (l.length : Int)) = false := decide_eq_false (by omega)
      have HE : Aside0 (I fin wr) := ⟨by have h1 := HF.out; simp only [eachOut] at h1; rw [← h1]; exact HS.out⟩
      clear hq0
      go_wp2
      go_end0
      exact ⟨rfl, HE.out, HTO.out⟩
    | succ q =>
      have hlt : i < l.length := by omega
      have hd : decide ((i : Int) < (l.length : Int)) = true := decide_eq_true (by omega)
      obtain ⟨ad, A1, c1, A2, c2, rfl, hx0, hx1, hx2, hl1, hi1, hl2, hi2⟩ := at_T37 HR.out i (by omega) (by omega)
      have HIN : Aside0 (rd_T37 l i ∈ l) := ⟨rd_use_mem l i h0 hlt⟩
      have HMU := Aside0.mk (HM.out (rd_T37 l i) HIN.out)
      have hs2 : eachOut stp l (i + 1) q (eachIn stp (rd_T37 l i) 0 (rd_T37 l i).f1.length s') = fin := HF.out
      have HF2 := Aside0.mk hs2
      clear hs2 HF
      generalize rd_T37 l i = u at *
      replace hx0 := (HBW.out.cell (World.block_lt_of_cell? w0 _ hx0)).trans hx0
      replace hx1 := (HBW.out.cell (World.block_lt_of_cell? w0 _ hx1)).trans hx1
      replace hx2 := (HBW.out.cell (World.block_lt_of_cell? w0 _ hx2)).trans hx2
      have HR1 := Aside0.mk hi1
      have HR2 := Aside0.mk hi2
      clear hi1 hi2 hl1 hl2
      have hi1 : i < 140737488355328 := by omega
      have HQ2 : Aside0 (i + 1 + q = l.length) := ⟨by omega⟩
      clear hq0 HQ hn
      go_wp2
      have HBK : Aside0 ((wr.alloc (.cells #[.int .i64 u.f0, .slice A1 u.f1.length c1, .slice A2 u.f2.length c2] 37)).heap[wr.heap.size]? = some (.cells #[.int .i64 u.f0, .slice A1 u.f1.length c1, .slice A2 u.f2.length c2] 37 (0, 0))) := ⟨by simpa using heap_alloc_new wr _⟩
      have HS1 : Aside0 (I s' (wr.alloc (.cells #[.int .i64 u.f0, .slice A1 u.f1.length c1, .slice A2 u.f2.length c2] 37))) := ⟨HI.out _ _ _ HS.out (fun k hk => Below.heap_alloc _ _ _ (by have := (HT.out k hk).2; have := HTO.out.size; omega))⟩
      have HTO1 : Aside0 (Chg T w (wr.alloc (.cells #[.int .i64 u.f0, .slice A1 u.f1.length c1, .slice A2 u.f2.length c2] 37))) := ⟨HTO.out.alloc _⟩
      have HGB : Aside0 (w.heap.size ≤ wr.heap.size) := ⟨HTO.out.size⟩
      have HGT : Aside0 (∀ k, T k → k ≠ wr.heap.size) := ⟨fun k hk => by have := (HT.out k hk).2; have := HTO.out.size; omega⟩
      generalize hfin2 : eachIn stp u 0 u.f1.length s' = fin2 at HF2
      have HF3 := Aside0.mk hfin2
      clear hfin2 hx0 hx1 hx2
      generalize wr.alloc (.cells #[.int .i64 u.f0, .slice A1 u.f1.length c1, .slice A2 u.f2.length c2] 37) = W1 at *
      generalize wr.heap.size = gb at *
      clear HS HTO HBW
      go_loopg [17] u.f1.length (fun q2 v17 W => ∃ (j : Int) (s2 : σ), v17 = .int .i64 j ∧ Aside0 (0 ≤ j ∧ j + q2 = u.f1.length) ∧ Aside0 (eachIn stp u j q2 s2 = fin2) ∧ Aside0 (I s2 W) ∧ Aside0 (Chg T w W) ∧ Aside0 (W.heap[gb]? = some (.cells #[.int .i64 u.f0, .slice A1 u.f1.length c1, .slice A2 u.f2.length c2] 37 (0, 0))))
      case atStart => exact ⟨0, s', rfl, ⟨by omega⟩, HF3, HS1, HTO1, HBK⟩
      case round =>
        clear HF3 HS1 HTO1 HBK
        obtain ⟨j, s2, rfl, HQ3, HF3, HS1, HTO1, HBK⟩ := hrel
        obtain ⟨j0, hj0⟩ := HQ3.out
        have hBw : Below w0.heap.size w0 wr := HB.out.trans ((HTO1.out.below (fun k hk => (HT.out k hk).1) HB.out.size))
        have HBW := Aside0.mk hBw
        clear hBw
        rename_i wr0 _ _ _ _
        cases gk with
        | zero =>
          have hdj : decide ((j : Int) < (u.f1.length : Int)) = false := decide_eq_false (by omega)
          have HE : Aside0 (I fin2 wr) := ⟨by have h1 := HF3.out; simp only [eachIn] at h1; rw [← h1]; exact HS1.out⟩
          clear hj0
          go_wp2
          go_roundg q
          case measure => omega
          case rel => exact ⟨i + 1, fin2, by first | rfl | simp, ⟨by have := HQ2.out; omega⟩, HF2, HE, HTO1⟩
        | succ q2 =>
          have hjl : j < u.f1.length := by omega
          have hdj : decide ((j : Int) < (u.f1.length : Int)) = true := decide_eq_true (by omega)
          have hjl2 : j < u.f2.length := by have := HMU.out.2; omega
          have hmj : j < 140737488355328 := by have := HMU.out.1; omega
          obtain ⟨ad1, rfl, hy1⟩ := Kd.at_int HR1.out j j0 hjl
          obtain ⟨ad2, rfl, hy2⟩ := Kd.at_int HR2.out j j0 hjl2
          replace hy1 := (HBW.out.cell (World.block_lt_of_cell? w0 _ hy1)).trans hy1
          replace hy2 := (HBW.out.cell (World.block_lt_of_cell? w0 _ hy2)).trans hy2
          have hz0 : wr.cell? ⟨gb, 0, none⟩ = some (.int .i64 u.f0) := (blk_cell HBK.out 0).trans rfl
          have hz1 : wr.cell? ⟨gb, 1, none⟩ = some (.slice (some ad1) u.f1.length c1) := (blk_cell HBK.out 1).trans rfl
          have hz2 : wr.cell? ⟨gb, 2, none⟩ = some (.slice (some ad2) u.f2.length c2) := (blk_cell HBK.out 2).trans rfl
          have HQ4 : Aside0 (j + 1 + q2 = u.f1.length) := ⟨by omega⟩
          clear hj0
          go_wp2
          go_still_tail 8, (by kernel_rfl)
          have HI1 : Aside0 (I s2 wr.drew) := ⟨HI.out _ _ _ HS1.out (fun k _ => rfl)⟩
          have HCC := Aside0.mk (HCL.out s2 wr.drew u j (.slice (some ad1) u.f1.length c1) (.slice (some ad2) u.f2.length c2) HIN.out j0 hjl HI1.out HBW.out.drew HTO1.out.size)
          go_wp2_with fail
          rw [HFN.out]
          refine HCC.out.mono ?_
          rintro e W' ⟨rfl, hi', ht'⟩
          have HS2 := Aside0.mk hi'
          have HT2 := Aside0.mk (HTO1.out.drew.trans (show Chg T wr.drew W' from ht'))
          have HBK2 : Aside0 (W'.heap[gb]? = some (.cells #[.int .i64 u.f0, .slice (some ad1) u.f1.length c1, .slice (some ad2) u.f2.length c2] 37 (0, 0))) := ⟨(ht'.block gb (by have := blk_lt HBK.out; simpa using this) (fun hk => HGT.out gb hk rfl)).trans HBK.out⟩
          clear hi' ht' hy1 hy2 hz0 hz1 hz2
          go_wp2
          go_roundg q2
          case measure => omega
          case rel => exact ⟨j + 1, stp u (rd u.f1 j) (rd u.f2 j) s2, by first | rfl | simp, ⟨by have := HQ4.out; omega⟩, HF3, HS2, HT2, HBK2⟩


end Go.Proofs.Ytehmolbalfefjaa.Q
