-- by myprint.py (NOTES.md): the machine side, out of Lean's own print of the program
import Derived.Test.YtehmolbalfefjaaQx0
import Derived.Test.YtehmolbalfefjaaQx1
import Derived.Test.YtehmolbalfefjaaQx3
import Derived.Test.YtehmolbalfefjaaQx4
namespace Go.Proofs.Ytehmolbalfefjaa.Q
open Go.RowKit Go.Proofs.YtehmolbalfefjaaW.PrintWords Go.Proofs.YtehmolbalfefjaaW.PrintLast Go.Proofs.YtehmolbalfefjaaW.PrintMore
attribute [local go_sem] max2_int min2_int max_two min_two max_three min_three max_four min_four   -- for this text's walks alone
set_option linter.unusedVariables false
set_option linter.unusedSimpArgs false

-- GIVEN ceil_Waits
open Go.Proofs.YtehmolbalfefjaaH
/-! ### ceil_Waits: function -/
/-- The longest lock of 'own's lower ones. -/
def waitStp (cs : List Int) (own : Int) (u : S37) (b n : Int) (m : Int) : Int := if u.f0 < own then (if rd cs b ≥ own then mx m n else m) else m
def WaitI (U V N G m : Nat) (cs : List Int) (own : Int) (o1 o2 : Value) (x : Int) (W : World) : Prop :=
  W.heap[N]? = some (.cells #[.int .i64 x] 3 (0, 0)) ∧ W.heap[U]? = some (.cells #[.int .i64 own, o1, o2] 37 (0, 0)) ∧ W.heap[V]? = some (.cells #[.slice (some ⟨G, 0, none⟩) m m] 30 (0, 0)) ∧ W.heap[G]? = some (.cells (nums .i64 cs).toArray 3 (0, 0)) ∧ cs.length = m ∧ U ≠ N ∧ V ≠ N ∧ G ≠ N
theorem WaitI.alloc {U V N G m : Nat} {cs : List Int} {own x : Int} {o1 o2 : Value} {w : World} (h : WaitI U V N G m cs own o1 o2 x w) (o : Obj) : WaitI U V N G m cs own o1 o2 x (w.alloc o) := by
  obtain ⟨hN, hU, hV, hG, r⟩ := h
  exact ⟨(Below.heap_alloc _ _ _ (blk_lt hN)).trans hN, (Below.heap_alloc _ _ _ (blk_lt hU)).trans hU, (Below.heap_alloc _ _ _ (blk_lt hV)).trans hV, (Below.heap_alloc _ _ _ (blk_lt hG)).trans hG, r⟩
theorem WaitI.drewN {U V N G m : Nat} {cs : List Int} {own x : Int} {o1 o2 : Value} {w : World} (h : WaitI U V N G m cs own o1 o2 x w) (n : Nat) : WaitI U V N G m cs own o1 o2 x (w.drewN n) := h
theorem WaitI.set {U V N G m : Nat} {cs : List Int} {own x : Int} {o1 o2 : Value} {w : World} (h : WaitI U V N G m cs own o1 o2 x w) (y : Int) : WaitI U V N G m cs own o1 o2 y (w.setCell ⟨N, 0, none⟩ (.int .i64 y)) := by
  obtain ⟨hN, hU, hV, hG, hl, n1, n2, n3⟩ := h
  exact ⟨by simpa using blk_set hN 0 (.int .i64 y), blk_far hU n1 _, blk_far hV n2 _, blk_far hG n3 _, hl, n1, n2, n3⟩
set_option maxRecDepth 100000 in
set_option maxHeartbeats 1000000 in
theorem cb43 (w : World) (u0 b n : Int) (v1 v2 o1 o2 : Value) (U V N G m : Nat) (cs : List Int) (own x : Int) (h : WaitI U V N G m cs own o1 o2 x w) (h0 : 0 ≤ b) (h1 : b < cs.length) :
   Calls Try.prog 43 #[.agg #[.int .i64 u0, v1, v2], .int .i64 b, .int .i64 n, .pointer (some ⟨U, 0, none⟩), .pointer (some ⟨V, 0, none⟩), .pointer (some ⟨N, 0, none⟩)] w fun e w' =>
     e = .returned (.tuple #[]) ∧ WaitI U V N G m cs own o1 o2 (if u0 < own then (if rd cs b ≥ own then mx x n else x) else x) w' ∧ Chg (· = N) w w' := by
  have hu37 := Try.underlying37
  have HW := Aside0.mk h
  obtain ⟨hN, hU, hV, hG, hl, n1, n2, n3⟩ := h
  have hN0 : w.cell? ⟨N, 0, none⟩ = some (.int .i64 x) := (blk_cell hN 0).trans rfl
  have hNF := blk_frozen hN 0
  have hU0 : w.cell? ⟨U, 0, none⟩ = some (.int .i64 own) := (blk_cell hU 0).trans rfl
  have hV0 : w.cell? ⟨V, 0, none⟩ = some (.slice (some ⟨G, 0, none⟩) m m) := (blk_cell hV 0).trans rfl
  have hG0 := cell_nums hG b h0 h1
  have hm : b < (m : Int) := by omega
  have HN := Aside0.mk hN
  have HU := Aside0.mk hU
  have HV := Aside0.mk hV
  have HG := Aside0.mk hG
  have HL := Aside0.mk hl
  have H1 := Aside0.mk n1
  have H2 := Aside0.mk n2
  have H3 := Aside0.mk n3
  have hNl := blk_lt hN
  have hUl := blk_lt hU
  have hVl := blk_lt hV
  have hGl := blk_lt hG
  clear hN hU hV hG hl n1 n2 n3
  generalize hx : rd cs b = y at *
  have HX := Aside0.mk hx
  clear hx
  by_cases c1 : u0 < own
  · have d1 : decide (u0 < own) = true := decide_eq_true c1
    by_cases c2 : y ≥ own
    · have d2 : decide (own ≤ y) = true := decide_eq_true c2
      rw [if_pos c1, if_pos c2]
      clear c1 c2
      go_enter Try.func43, Try.ntmps43
      go_wp2
      go_quiet (fail)
      go_wp2
      all_goals go_end0
      all_goals refine ⟨rfl, ?_, ?_⟩
      all_goals first | exact (((Chg.refl (· = N) w).alloc _).drewN _).setCell (p := ⟨N, 0, none⟩) (.inl rfl) _ | exact (((Chg.refl (· = N) w).alloc _).drewN _) | exact ((HW.out.alloc _).drewN _) | (rw [show mx x n = n from by unfold mx; omega]; exact ((HW.out.alloc _).drewN _).set _) | (rw [show mx x n = x from by unfold mx; omega]; exact ((HW.out.alloc _).drewN _).set _)
    · have d2 : decide (own ≤ y) = false := decide_eq_false c2
      rw [if_pos c1, if_neg c2]
      clear c1 c2
      go_enter Try.func43, Try.ntmps43
      go_wp2
      go_quiet (fail)
      go_wp2
      all_goals go_end0
      all_goals refine ⟨rfl, ?_, ?_⟩
      all_goals first | exact (((Chg.refl (· = N) w).alloc _).drewN _).setCell (p := ⟨N, 0, none⟩) (.inl rfl) _ | exact (((Chg.refl (· = N) w).alloc _).drewN _) | exact ((HW.out.alloc _).drewN _) | (rw [show mx x n = n from by unfold mx; omega]; exact ((HW.out.alloc _).drewN _).set _) | (rw [show mx x n = x from by unfold mx; omega]; exact ((HW.out.alloc _).drewN _).set _)
  · have d1 : decide (u0 < own) = false := decide_eq_false c1
    rw [if_neg c1]
    clear c1
    go_enter Try.func43, Try.ntmps43
    go_wp2
    go_quiet (fail)
    go_wp2
    go_end0
    exact ⟨rfl, (HW.out.alloc _).drewN _, (((Chg.refl (· = N) w).alloc _).drewN _)⟩

def waitOne (cs : List Int) (l : List S37) (u : S37) : Int := eachOut (waitStp cs u.f0) l 0 l.length 0
def waitsP (blocks : Int) (l : List S37) : List Int := l.map (waitOne (ceilingsP blocks l) l)
theorem take_T37 (xs : List S37) (i : Int) (h0 : 0 ≤ i) (h1 : i < xs.length) : xs.take (i + 1).toNat = xs.take i.toNat ++ [rd_T37 xs i] := by
  have h : i.toNat < xs.length := by omega
  rw [show (i + 1).toNat = i.toNat + 1 from by omega, List.take_succ_eq_append_getElem h]
  simp [rd_T37, List.getD_eq_getElem?_getD, List.getElem?_eq_getElem h]
def ceil_Waits.f (k : Nat) (a0 : Int) (l1 : List S37) : Option (List Int) := (ceil_Right.f k a0 l1).bind fun t => if t = true then some (waitsP a0 l1) else some []
theorem ceil_Waits.mono : ∀ a0 a1 k, LeO (ceil_Waits.f k a0 a1) (ceil_Waits.f (k + 1) a0 a1) := by
  intro a0 a1 k
  exact LeO.bind (ceil_Right.mono _ _ _) (fun _ => LeO.refl _)
set_option maxHeartbeats 4000000 in
set_option maxRecDepth 100000 in
theorem ceil_Waits.calls (k : Nat) (a0 : Int) (A1 : Option Addr) (c1 : Nat) (l1 : List S37) (r : List Int) (w : World) (hr1 : Kd.C k37 w A1 l1.length l1) (hc1 : l1.length ≤ c1) (h : ceil_Waits.f k a0 l1 = some r) :
    Calls Try.prog 23 #[.int .i64 a0, .slice A1 l1.length c1] w fun e w' => ∃ v0_ : Value, e = .returned (v0_) ∧ Kd.R (Kd.int .i64) 3 w' w.heap.size (fun _ => True) v0_ r ∧ Below w.heap.size w w' := by
  have hu37 := Try.underlying37
  obtain ⟨t, ht, h⟩ := Option.bind_eq_some_iff.mp h
  have hok := right_out hr1 ht
  have HR := Aside0.mk hr1
  have HC := Aside0.mk hc1
  have HT := Aside0.mk ht
  clear hr1 hc1 ht
  cases t with
  | false =>
    obtain rfl : [] = r := by simpa using h
    clear hok h
    go_enter Try.func23, Try.ntmps23
    go_wp2_with (go_at_call 17; refine (ceil_Right.calls k _ _ _ _ _ _ HR.out HC.out HT.out).mono ?_; rintro e w1 ⟨rfl, hb1⟩; have HB1 := Aside0.mk hb1; clear hb1)
    go_ret
    exact ⟨_, rfl, Kd.R_nil _ _ _ _ _, HB1.out⟩
  | true =>
    obtain ⟨hu, hb0, hb8, hl8⟩ := ceilOk_parts hok.symm
    have HU := Aside0.mk hu
    have HE : Aside0 (waitsP a0 l1 = r) := ⟨by simpa using h⟩
    have HCF : Aside0 (ceil_Ceilings.f k a0 l1 = some (ceilingsP a0 l1)) := ⟨by unfold ceil_Ceilings.f; rw [HT.out]; rfl⟩
    have HCL := Aside0.mk (ceilingsP_length a0 l1)
    clear hok h hu
    go_enter Try.func23, Try.ntmps23
    go_wp2_with (first | (go_at_call 17; refine (ceil_Right.calls k _ _ _ _ _ _ HR.out HC.out HT.out).mono ?_; rintro e w1 ⟨rfl, hb1⟩; have HB1 := Aside0.mk hb1; clear hb1) | (go_at_call 21; refine (ceil_Ceilings.made k _ _ _ _ _ _ (Kd.C_below HR.out HB1.out) HC.out HT.out rfl).mono ?_; rintro e w2 ⟨G, rfl, hg2, hz2, hb2⟩; have HG2 := Aside0.mk hg2; have HZ2 := Aside0.mk hz2; have HB2 := Aside0.mk (below_then HB1.out HB1.out.size hb2); clear hg2 hb2 hz2))
    have HV2 : Aside0 ((w2.alloc (.cells #[.slice (some ⟨G, 0, none⟩) a0.toNat a0.toNat] 30)).heap[w2.heap.size]? = some (.cells #[.slice (some ⟨G, 0, none⟩) a0.toNat a0.toNat] 30 (0, 0))) := ⟨heap_alloc_new _ _⟩
    have HG3 : Aside0 ((w2.alloc (.cells #[.slice (some ⟨G, 0, none⟩) a0.toNat a0.toNat] 30)).heap[G]? = some (.cells (nums .i64 (ceilingsP a0 l1)).toArray 3 (0, 0))) := ⟨(Below.heap_alloc _ _ _ (blk_lt HG2.out)).trans HG2.out⟩
    have HB3 : Aside0 (Below w.heap.size w (w2.alloc (.cells #[.slice (some ⟨G, 0, none⟩) a0.toNat a0.toNat] 30))) := ⟨below_alloc HB2.out _⟩
    have HVG : Aside0 (w.heap.size ≤ G ∧ G < w2.heap.size ∧ w.heap.size ≤ w2.heap.size) := ⟨Nat.le_trans HB1.out.size HZ2.out, blk_lt HG2.out, HB2.out.size⟩
    clear HG2 HZ2 HB2 HB1
    generalize w2.alloc (.cells #[.slice (some ⟨G, 0, none⟩) a0.toNat a0.toNat] 30) = W3 at *
    generalize w2.heap.size = V at *
    go_loopg [6, 19] l1.length (fun q v6 v19 W => ∃ (i : Int), v19 = .int .i64 i ∧ Aside0 (0 ≤ i ∧ i + q = l1.length) ∧ Aside0 (Kd.R (Kd.int .i64) 3 W w.heap.size (fun k => k ≠ V ∧ k ≠ G) v6 ((l1.take i.toNat).map (waitOne (ceilingsP a0 l1) l1))) ∧ Aside0 (W.heap[V]? = some (.cells #[.slice (some ⟨G, 0, none⟩) a0.toNat a0.toNat] 30 (0, 0))) ∧ Aside0 (W.heap[G]? = some (.cells (nums .i64 (ceilingsP a0 l1)).toArray 3 (0, 0))) ∧ Aside0 (Below w.heap.size w W))
    case atStart => exact ⟨0, rfl, ⟨by omega⟩, ⟨Kd.R_nil _ _ _ _ _⟩, HV2, HG3, HB3⟩
    case round =>
      clear HV2 HG3 HB3
      obtain ⟨i, rfl, HQ, HO, HV, HG, HB⟩ := hrel
      obtain ⟨h0, hq0⟩ := HQ.out
      cases gk with
      | zero =>
        have hd : decide ((i : Int) < (l1.length : Int)) = false := decide_eq_false (by omega)
        have HX : Aside0 (Kd.R (Kd.int .i64) 3 wr w.heap.size (fun _ => True) u6 r) := ⟨by
          rw [← HE.out]
          have h1 := HO.out
          rw [List.take_of_length_le (by omega)] at h1
          exact Kd.R_mono h1 (fun _ _ => trivial)⟩
        clear hq0
        go_wp2
        go_ret
        exact ⟨_, rfl, HX.out, HB.out⟩
      | succ q =>
        have hlt : i < l1.length := by omega
        have hd : decide ((i : Int) < (l1.length : Int)) = true := decide_eq_true (by omega)
        have HTK := Aside0.mk (take_T37 l1 i h0 hlt)
        obtain ⟨ad, A2, c2, A3, c3, rfl, hx0, hx1, hx2, hl1, hi1, hl2, hi2⟩ := at_T37 HR.out i h0 hlt
        generalize hu : rd_T37 l1 i = u at *
        have HUI := Aside0.mk hu
        replace hx0 := (HB.out.cell (World.block_lt_of_cell? w _ hx0)).trans hx0
        replace hx1 := (HB.out.cell (World.block_lt_of_cell? w _ hx1)).trans hx1
        replace hx2 := (HB.out.cell (World.block_lt_of_cell? w _ hx2)).trans hx2
        have HQ2 : Aside0 (i + 1 + q = l1.length) := ⟨by omega⟩
        have hi8 : i < 8 := by omega
        clear hq0 HQ hi1 hi2 hl1 hl2 hu
        go_wp2_with fail
        have hW : WaitI wr.heap.size V (wr.heap.size + 1) G a0.toNat (ceilingsP a0 l1) u.f0 (.slice A2 u.f1.length c2) (.slice A3 u.f2.length c3) 0 ((wr.alloc (.cells #[.int .i64 u.f0, .slice A2 u.f1.length c2, .slice A3 u.f2.length c3] 37)).alloc (.cells #[.int .i64 0] 3)) := by
          have hVl := blk_lt HV.out
          have hGl := blk_lt HG.out
          refine ⟨?_, ?_, ?_, ?_, ceilingsP_length _ _, by omega, by omega, by omega⟩
          · have := heap_alloc_new (wr.alloc (.cells #[.int .i64 u.f0, .slice A2 u.f1.length c2, .slice A3 u.f2.length c3] 37)) (.cells #[.int .i64 0] 3)
            simpa using this
          · exact (Below.heap_alloc _ _ _ (by simp)).trans (heap_alloc_new _ _)
          · exact (Below.heap_alloc _ _ _ (by simp; omega)).trans ((Below.heap_alloc _ _ _ hVl).trans HV.out)
          · exact (Below.heap_alloc _ _ _ (by simp; omega)).trans ((Below.heap_alloc _ _ _ hGl).trans HG.out)
        have hBA : Below w.heap.size w ((wr.alloc (.cells #[.int .i64 u.f0, .slice A2 u.f1.length c2, .slice A3 u.f2.length c3] 37)).alloc (.cells #[.int .i64 0] 3)) := below_alloc (below_alloc HB.out _) _
        have HSZ := Aside0.mk HB.out.size
        have hVl := blk_lt HV.out
        have hGl := blk_lt HG.out
        have HLL : Aside0 (l1.length < 140737488355328) := ⟨by omega⟩
        refine (each_calls (fun x W => WaitI wr.heap.size V (wr.heap.size + 1) G a0.toNat (ceilingsP a0 l1) u.f0 (.slice A2 u.f1.length c2) (.slice A3 u.f2.length c3) x W) (waitStp (ceilingsP a0 l1) u.f0) (fun k => k = wr.heap.size ∨ k = wr.heap.size + 1 ∨ k = V ∨ k = G) 43 #[.pointer (some ⟨wr.heap.size, 0, none⟩), .pointer (some ⟨V, 0, none⟩), .pointer (some ⟨wr.heap.size + 1, 0, none⟩)] w _ (some ad) c1 l1 0 hBA HR.out HC.out (by omega) (fun u hu => ?_) (fun k hk => ?_) (fun s W W' h hk => ?_) (fun s W u' j v1 v2 hu h0 h1 hI hb hsz => ?_) enter43 hW).mono ?_
        · have := useOk_len (HU.out u hu) hb8
          omega
        · have := HSZ.out
          have := HVG.out
          simp
          omega
        · obtain ⟨a1, a2, a3, a4, a5⟩ := h
          exact ⟨(hk _ (.inr (.inl rfl))).trans a1, (hk _ (.inl rfl)).trans a2, (hk _ (.inr (.inr (.inl rfl)))).trans a3, (hk _ (.inr (.inr (.inr rfl)))).trans a4, a5⟩
        · have hbb := useOk_rd (HU.out u' hu) _ (rd_mem u'.f1 j h0 h1)
          have hl := ceilingsP_length a0 l1
          refine (cb43 W u'.f0 (rd u'.f1 j) (rd u'.f2 j) v1 v2 _ _ _ _ _ _ _ _ _ s hI hbb.1 (by omega)).mono ?_
          rintro e W' ⟨rfl, h1, h2⟩
          exact ⟨rfl, h1, ⟨h2.os, h2.tape, h2.output, h2.size, fun k hk hn => h2.block k hk (fun e => hn (.inr (.inl e)))⟩⟩
        · rintro e W' ⟨rfl, hI, hT⟩
          have hx : eachOut (waitStp (ceilingsP a0 l1) u.f0) l1 0 l1.length 0 = waitOne (ceilingsP a0 l1) l1 u := rfl
          rw [hx] at hI
          have HTK2 : Aside0 ((l1.take (i + 1).toNat).map (waitOne (ceilingsP a0 l1) l1) = (l1.take i.toNat).map (waitOne (ceilingsP a0 l1) l1) ++ [waitOne (ceilingsP a0 l1) l1 u]) := ⟨by rw [HTK.out, List.map_append]; rfl⟩
          clear hx
          generalize waitOne (ceilingsP a0 l1) l1 u = x at hI HTK2
          have hN0 : W'.cell? ⟨wr.heap.size + 1, 0, none⟩ = some (.int .i64 x) := (blk_cell hI.1 0).trans rfl
          have HI2 := Aside0.mk hI
          have HB2 : Aside0 (Below w.heap.size w W') := ⟨hBA.trans (hT.below (fun k hk => by have := HSZ.out; have := HVG.out; omega) hBA.size)⟩
          have HO2 : Aside0 (Kd.R (Kd.int .i64) 3 W' w.heap.size (fun k => k ≠ V ∧ k ≠ G) u6 ((l1.take i.toNat).map (waitOne (ceilingsP a0 l1) l1))) := ⟨Kd.R_step HO.out (fun k hk hlt => (hT.block k (by simp; omega) (by omega)).trans ((Below.heap_alloc _ _ _ (by simp; omega)).trans (Below.heap_alloc _ _ _ hlt)))⟩
          have HLN : Aside0 (((l1.take i.toNat).map (waitOne (ceilingsP a0 l1) l1)).length ≤ 8) := ⟨by simp; omega⟩
          clear hI hT hBA hW HO HV HG HTK
          generalize (l1.take i.toNat).map (waitOne (ceilingsP a0 l1) l1) = os at HO2 HTK2 HLN
          have HVL := blk_lt HI2.out.2.2.1
          have HGL := blk_lt HI2.out.2.2.2.1
          go_wp2_with ((with_reducible refine gate_builtin (b := .append) (xs := #[.tmp 26, .tmp 28]) rfl ?_); at_builtin; refine Kd.R_append (Kd.int .i64) (w0 := w) w.heap.size rfl (.tmp 26) (.tmp 28) 30 3 (.int .i64 0) 8 rfl Try.underlying30 info3 rfl (by decide) (by omega) u6 os x [.int .i64 x] (fun k => k ≠ V ∧ k ≠ G) (fun _ => False) rfl rfl ?aP (fun _ hk => hk.elim) ?aF ?aO ?aB ?aS ?aL ?_; (case aP => exact rfl); (case aB => exact HB2.out); (case aF => exact (fun k hk => ⟨by omega, by omega⟩)); (case aO => exact HO2.out); (case aS => exact HB2.out.size); (case aL => have := HLN.out; omega); intro v1 w10 ho hb hg hat; have HO3 := Aside0.mk ho; have HB3 := Aside0.mk hb; have HG3 := Aside0.mk hg; clear ho hb hg hat)
          go_roundg q
          case measure => omega
          case rel =>
            refine ⟨i + 1, by first | rfl | simp, ⟨by have := HQ2.out; omega⟩, ⟨by rw [HTK2.out]; exact HO3.out⟩, ?_, ?_, HB3⟩
            · refine ⟨(HG3.out.block V HVL ?_).trans HI2.out.2.2.1⟩
              intro e
              exact (HO2.out.1 V e.symm).1 rfl
            · refine ⟨(HG3.out.block G HGL ?_).trans HI2.out.2.2.2.1⟩
              intro e
              exact (HO2.out.1 G e.symm).2 rfl

end Go.Proofs.Ytehmolbalfefjaa.Q
