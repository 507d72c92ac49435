/- CeilAlone: the walk of the statement. -/
import Derived.Test.YtehmolbalfefjaaQCeil5
import Derived.Test.YtehmolbalfefjaaQRows
import Derived.Deep.RegionLaw
namespace Go.Proofs.Ytehmolbalfefjaa.Q
open Go.RowKit Go.Proofs.YtehmolbalfefjaaW.PrintWords Go.Proofs.YtehmolbalfefjaaW.PrintLast Go.Proofs.YtehmolbalfefjaaW.PrintMore Go.Proofs.YtehmolbalfefjaaH
attribute [local go_sem] max2_int min2_int max_two min_two max_three min_three max_four min_four
set_option linter.unusedVariables false
set_option maxHeartbeats 8000000 in
set_option maxRecDepth 100000 in
theorem active_quietk (k : Nat) (a0 : Int) (a1 : Int) (A2 : Option Addr) (c2 : Nat) (l2 : List Int) (r : Int) (w : World) (hr2 : Kd.C (Kd.int .i64) w A2 l2.length l2) (hc2 : l2.length ≤ c2) (h : ceil_Active.f k a0 a1 l2 = some r) :
    Calls Try.prog 25 #[.int .i64 a0, .int .i64 a1, .slice A2 l2.length c2] w fun e w' => e = .returned (.int .i64 r) ∧ Drawn0 w w' := by
  have HR2 := Aside0.mk hr2
  have HC2 := Aside0.mk hc2
  clear hr2 hc2
  have HB := Aside0.mk (Below.refl w.heap.size w)
  have H : (ceil_Active.l0 k a1 a0 l2 (l2.length : Int) 0) = some r := h
  clear h
  have H' := Aside0.mk H
  clear H
  go_enter Try.func25, Try.ntmps25
  go_wp2
  go_loopg [7, 13] k (fun kq v7 v13 w' => ∃ (x7_1 : Int) (x13_1 : Int), v7 = .int .i64 x7_1 ∧ v13 = .int .i64 x13_1 ∧ Aside0 (ceil_Active.l0 kq a1 x7_1 l2 (l2.length : Int) x13_1 = some r) ∧ Aside0 (kq ≤ k) ∧ w' = w)
  case atStart => exact ⟨(a0), (0), (by first | rfl | (simp; done) | (simp [*]; done)), (by first | rfl | (simp; done) | (simp [*]; done)), H', ⟨Nat.le_refl _⟩, rfl⟩
  case round =>
    clear H'
    try clear c2
    try clear p2
    obtain ⟨x7_1, x13_1, rfl, rfl, HA, HK1, hww⟩ := hrel
    subst hww
    cases gk with
    | zero => exact absurd HA.out (by simp [ceil_Active.l0])
    | succ k1 =>
      have H := HA.out
      clear HA
      simp only [ceil_Active.l0] at H
      by_cases c4 : x13_1 < (l2.length : Int)
      · rw [if_pos c4] at H
        have c4b0 : decide (x13_1 < (l2.length : Int)) = true := decide_eq_true c4
        clear c4
        by_cases c5 : 0 ≤ x13_1
        · rw [if_pos c5] at H
          have c5b0 : decide (0 ≤ x13_1) = true := decide_eq_true c5
          clear c5
          by_cases c6 : x13_1 < (l2.length : Int)
          · rw [if_pos c6] at H
            have c6b0 : decide (x13_1 < (l2.length : Int)) = true := decide_eq_true c6
            clear c6
            have c7b0 := eq_true (of_decide_eq_true (by first | (with_reducible assumption) | assumption) : 0 ≤ x13_1)
            obtain ⟨ji8, hji8⟩ : ∃ j_ : Int, (shr .u64 (IntKind.u64.wrap (a1)) x13_1) = j_ := ⟨_, rfl⟩
            replace H : (if (Go.bits .and .u64 (ji8) 1) = 1 then (ceil_Active.l0 k1 a1 (mx x7_1 (rd l2 x13_1)) l2 (l2.length : Int) (wrap64 (x13_1 + 1))) else (ceil_Active.l0 k1 a1 x7_1 l2 (l2.length : Int) (wrap64 (x13_1 + 1)))) = some r := by first | (rw [hji8] at H; exact H) | (simp only [hji8] at H ⊢; exact H)
            have hji8_ : ((IntKind.u64.wrap (a1)) / 2 ^ min x13_1.toNat 64) = ji8 := hji8
            have hji8z : x13_1 ≤ 64 → ((IntKind.u64.wrap (a1)) / 2 ^ x13_1.toNat) = ji8 := shr_small hji8
            by_cases c9 : (Go.bits .and .u64 (ji8) 1) = 1
            · rw [if_pos c9] at H
              have c9b0 : ((Go.bits .and .u64 (ji8) 1) == 1) = true := beq_iff_eq.mpr c9
              have c9b1 : ((Go.bits .and .u64 (ji8) 1) != 1) = false := bne_eq_false_iff_eq.mpr c9
              clear c9
              obtain ⟨ji10, hji10⟩ : ∃ j_ : Int, (mx x7_1 (rd l2 x13_1)) = j_ := ⟨_, rfl⟩
              replace H : (ceil_Active.l0 k1 a1 ji10 l2 (l2.length : Int) (wrap64 (x13_1 + 1))) = some r := by first | (rw [hji10] at H; exact H) | (simp only [hji10] at H ⊢; exact H)
              have hji10_ : (if x7_1 < (rd l2 x13_1) then (rd l2 x13_1) else x7_1) = ji10 := hji10
              have H' := Aside0.mk H
              clear H
              have p112 : 0 ≤ (x13_1 : Int) := of_decide_eq_true (by first | (with_reducible assumption) | assumption)
              have q112 : x13_1 < (l2.length : Int) := of_decide_eq_true (by first | (with_reducible assumption) | assumption)
              obtain ⟨ad112, e112, hx112_0⟩ := Kd.at_int HR2.out x13_1 p112 q112
              cases e112
              replace p112 := eq_true p112
              replace q112 := eq_true q112
              go_wp2
              go_roundg k1
              case measure => have := HK1.out; omega
              case rel => exact ⟨(ji10), (wrap64 (x13_1 + 1)), (by first | rfl | (simp; done) | (simp only [← hji10] <;> (first | rfl | simp)) | (simp [*]; done)), (by first | rfl | (simp; done) | (simp [*]; done)), H', ⟨by have := HK1.out; omega⟩, rfl⟩
            · rw [if_neg c9] at H
              have c9b0 : ((Go.bits .and .u64 (ji8) 1) == 1) = false := beq_eq_false_iff_ne.mpr c9
              have c9b1 : ((Go.bits .and .u64 (ji8) 1) != 1) = true := bne_iff_ne.mpr c9
              have H' := Aside0.mk H
              clear H
              have p112 : 0 ≤ (x13_1 : Int) := of_decide_eq_true (by first | (with_reducible assumption) | assumption)
              have q112 : x13_1 < (l2.length : Int) := of_decide_eq_true (by first | (with_reducible assumption) | assumption)
              obtain ⟨ad112, e112, hx112_0⟩ := Kd.at_int HR2.out x13_1 p112 q112
              cases e112
              replace p112 := eq_true p112
              replace q112 := eq_true q112
              go_wp2
              go_roundg k1
              case measure => have := HK1.out; omega
              case rel => exact ⟨(x7_1), (wrap64 (x13_1 + 1)), (by first | rfl | (simp; done) | (simp [*]; done)), (by first | rfl | (simp; done) | (simp [*]; done)), H', ⟨by have := HK1.out; omega⟩, rfl⟩
          · rw [if_neg c6] at H
            exact absurd H (by simp)
        · rw [if_neg c5] at H
          exact absurd H (by simp)
      · rw [if_neg c4] at H
        have c4b0 : decide (x13_1 < (l2.length : Int)) = false := decide_eq_false c4
        clear c4
        obtain rfl := Option.some.inj H
        go_wp2
        go_ret
        exact ⟨by first | rfl | (simp [errW_none, errW_some] <;> rfl) | (simp [*, errW_none, errW_some] <;> rfl), Drawn0.refl _⟩
theorem active_quiet (prio held : Int) (A : Option Addr) (cap : Nat) (c : List Int) (w : World) (hr : Kd.C (Kd.int .i64) w A c.length c) (hc : c.length ≤ cap) (hm : c.length ≤ 1000) : Calls Try.prog 25 #[.int .i64 prio, .int .i64 held, .slice A c.length cap] w fun e w' => e = .returned (.int .i64 (actFrom held 0 c prio)) ∧ Drawn0 w w' := by
  obtain ⟨K, h⟩ := active_ev prio held c hm
  exact active_quietk K prio held A cap c _ w hr hc (h K (Nat.le_refl _))
/-- The bare use of a small number. -/
def bareOf (p : Int) : Use := ⟨1 + p % 100, [], []⟩
theorem small_alone {u : Use} (h1 : u.f1.length ≤ 50) (h2 : u.f2.length ≤ 50) (ps : List Int) (h : ps.length ≤ 3) : Small (u :: ps.map bareOf) := ⟨by simp; omega, fun v hv => by
  rcases List.mem_cons.1 hv with rfl | hv
  · exact ⟨h1, h2⟩
  · obtain ⟨p, hp, rfl⟩ := List.mem_map.1 hv
    simp [bareOf]⟩
theorem bareOf_bare (ps : List Int) : ∀ v ∈ ps.map bareOf, v.f1 = [] ∧ v.f2 = [] := by
  intro v hv
  obtain ⟨p, hp, rfl⟩ := List.mem_map.1 hv
  exact ⟨rfl, rfl⟩
theorem alloc3 (w : World) (a b c : Obj) : ((w.alloc a).alloc b).heap.size = w.heap.size + 1 + 1 ∧ (((w.alloc a).alloc b).alloc c).heap[w.heap.size]? = some a ∧ (((w.alloc a).alloc b).alloc c).heap[w.heap.size + 1]? = some b := by
  have e1 : (w.alloc a).heap.size = w.heap.size + 1 := World.size_alloc w a
  have e2 : ((w.alloc a).alloc b).heap.size = w.heap.size + 1 + 1 := by rw [World.size_alloc, e1]
  refine ⟨e2, ?_, ?_⟩
  · rw [Below.heap_alloc _ _ _ (by rw [e2]; omega), Below.heap_alloc _ _ _ (by rw [e1]; omega)]
    exact Go.heap_alloc_new w a
  · rw [Below.heap_alloc _ _ _ (by rw [e2]; omega)]
    have h := Go.heap_alloc_new (w.alloc a) b
    rw [e1] at h
    exact h
theorem N_single {α : Type} (d : Kd α) {W : World} (base e : Nat) (hb : base ≤ W.heap.size) {x : α} {cs : List Value} {ok okp : Nat → Prop} (hp : Kd.FK d W okp x cs) (hok : ∀ k, okp k → ok k) (hf : ok W.heap.size) : Kd.N d e (W.alloc (.cells cs.toArray e)) base ok (.slice (some ⟨W.heap.size, 0, none⟩) 1 1) [x] := by
  have hl : cs.length = d.sz := (Kd.FK_raw hp).2.1
  refine Kd.N_made (W := W) (rows := [cs]) (okp := okp) ⟨fun k hk => ?_, cs, ?_, ?_⟩ (World.grownBy_alloc W _ none) ⟨W.heap.size, by simp [Value.ownBlock], Nat.le_refl _⟩ rfl ?_ hok hf
  · have : W.heap.size = k := by simpa [Value.ownBlock] using hk
    exact this.symm
  · have h2 := World.ownsRow_lit (base := base) (e := e) (size := d.sz) W cs.toArray 1 hb (by decide) (by simpa using hl)
    exact h2
  · refine ⟨by rw [hl]; exact (Nat.one_mul _).symm, fun j q hq => ?_⟩
    cases j with
    | zero =>
      simp only [List.getElem?_cons_zero, Option.some.injEq] at hq
      subst hq
      have e1 : (cs.drop (0 * (Kd.raw d.sz).sz)).take (Kd.raw d.sz).sz = cs := by
        rw [Nat.zero_mul, List.drop_zero, List.take_of_length_le]
        exact Nat.le_of_eq hl
      rw [e1]
      exact Kd.FK_raw hp
    | succ j => simp at hq
  · intro j y c hy hc
    cases j with
    | zero =>
      simp only [List.getElem?_cons_zero, Option.some.injEq] at hy hc
      rw [← hy, ← hc]
      exact hp
    | succ j => simp at hy
set_option maxHeartbeats 8000000 in
set_option maxRecDepth 100000 in
theorem camshaftlaw13_CeilAlone_walk (u0 : Int) (A1 : Option Addr) (c1 : Nat) (l1 : List Int) (A2 : Option Addr) (c2 : Nat) (l2 : List Int) (x0 x1 x2 : Int) (w : World) (hr1 : Kd.C (Kd.int .i64) w A1 l1.length l1) (hc1 : l1.length ≤ c1) (hr2 : Kd.C (Kd.int .i64) w A2 l2.length l2) (hc2 : l2.length ≤ c2) (_ : ok37 ⟨u0, l1, l2⟩) (hx : ok39 [x0, x1, x2]) :
    Calls Try.prog 9 #[.agg #[.int .i64 u0, .slice A1 l1.length c1, .slice A2 l2.length c2], .agg #[.int .u8 x0, .int .u8 x1, .int .u8 x2]] w fun e w' => e = .returned (.bool true) ∧ Below w.heap.size w w' := by
  have hu37 := Try.underlying37
  have hu39 := Try.underlying39
  have b0 := wf_u8 (hx x0 (by simp))
  have b1 := wf_u8 (hx x1 (by simp))
  have b2 := wf_u8 (hx x2 (by simp))
  obtain ⟨b00, b01⟩ := b0
  obtain ⟨b10, b11⟩ := b1
  obtain ⟨b20, b21⟩ := b2
  have HR1 := Aside0.mk hr1
  have HC1 := Aside0.mk hc1
  have HR2 := Aside0.mk hr2
  have HC2 := Aside0.mk hc2
  clear hr1 hc1 hr2 hc2 hx
  by_cases g1 : l1.length ≤ 50
  · by_cases g2 : l2.length ≤ 50
    · have d1 : decide (50 < (l1.length : Int)) = false := decide_eq_false (by omega)
      have d2 : decide (50 < (l2.length : Int)) = false := decide_eq_false (by omega)
      have d3 : decide (50 < l1.length) = false := decide_eq_false (by omega)
      have d4 : decide (50 < l2.length) = false := decide_eq_false (by omega)
      go_enter Try.func9, Try.ntmps9
      go_wp2
      have HW1 : ∀ W1 : World, W1 = (((w.alloc (.cells #[.int .i64 u0, .slice A1 l1.length c1, .slice A2 l2.length c2] 37)).alloc (.cells #[.int .u8 x0, .int .u8 x1, .int .u8 x2] 39)).alloc (.cells #[.int .i64 u0, .slice A1 l1.length c1, .slice A2 l2.length c2] 37)) → Below w.heap.size w W1 ∧ Kd.N k37 37 W1 (w.heap.size + 2) (fun _ => True) (.slice (some ⟨w.heap.size + 1 + 1, 0, none⟩) 1 1) [(⟨u0, l1, l2⟩ : Use)] ∧ W1.heap[w.heap.size]? = some (.cells #[.int .i64 u0, .slice A1 l1.length c1, .slice A2 l2.length c2] 37 (0, 0)) ∧ W1.heap[w.heap.size + 1]? = some (.cells #[.int .u8 x0, .int .u8 x1, .int .u8 x2] 39 (0, 0)) := by
        rintro W1 rfl
        have b1 := below_alloc (Below.refl w.heap.size w) (.cells #[.int .i64 u0, .slice A1 l1.length c1, .slice A2 l2.length c2] 37)
        have b2 := below_alloc b1 (.cells #[.int .u8 x0, .int .u8 x1, .int .u8 x2] 39)
        refine ⟨below_alloc b2 _, ?_, (alloc3 w _ _ _).2.1, (alloc3 w _ _ _).2.2⟩
        · have e2 := (alloc3 w (.cells #[.int .i64 u0, .slice A1 l1.length c1, .slice A2 l2.length c2] 37) (.cells #[.int .u8 x0, .int .u8 x1, .int .u8 x2] 39) (.cells #[] 37)).1
          have h := N_single k37 (W := (w.alloc (.cells #[.int .i64 u0, .slice A1 l1.length c1, .slice A2 l2.length c2] 37)).alloc (.cells #[.int .u8 x0, .int .u8 x1, .int .u8 x2] 39)) (w.heap.size + 2) 37 (by rw [e2]; omega) (x := (⟨u0, l1, l2⟩ : Use)) (cs := [.int .i64 u0, .slice A1 l1.length c1, .slice A2 l2.length c2]) (ok := fun _ => True) (okp := fun _ => True) (Kd.FK_mono (k37_mkF _ _ ⟨u0, l1, l2⟩ HC1.out (Kd.F_below (Kd.C_F (Kd.heap_int .i64) HR1.out) b2) HC2.out (Kd.F_below (Kd.C_F (Kd.heap_int .i64) HR2.out) b2)) (fun _ _ => trivial)) (fun _ _ => trivial) trivial
          rw [e2] at h
          exact h
      obtain ⟨q1, q2, q3, q4⟩ := HW1 _ rfl
      have HB1 := Aside0.mk q1
      have HN1 := Aside0.mk q2
      have HBU := Aside0.mk q3
      have HBX := Aside0.mk q4
      clear HW1 q1 q2 q3 q4
      generalize (((w.alloc (.cells #[.int .i64 u0, .slice A1 l1.length c1, .slice A2 l2.length c2] 37)).alloc (.cells #[.int .u8 x0, .int .u8 x1, .int .u8 x2] 39)).alloc (.cells #[.int .i64 u0, .slice A1 l1.length c1, .slice A2 l2.length c2] 37)) = W1 at *
      have HPS : Aside0 ([x0, x1, x2].length = 3 ∧ ∀ p ∈ [x0, x1, x2], 0 ≤ p ∧ p ≤ 255) := ⟨rfl, by simp; omega⟩
      go_loopg [5, 6] 3 (fun q v5 v6 W => ∃ (i : Int), v6 = .int .i64 i ∧ Aside0 (0 ≤ i ∧ i + q = 3) ∧ Aside0 (Kd.N k37 37 W (w.heap.size + 2) (fun _ => True) v5 ((⟨u0, l1, l2⟩ : Use) :: ([x0, x1, x2].take i.toNat).map bareOf)) ∧ Aside0 (Below w.heap.size w W) ∧ Aside0 (W.heap[w.heap.size]? = some (.cells #[.int .i64 u0, .slice A1 l1.length c1, .slice A2 l2.length c2] 37 (0, 0))) ∧ Aside0 (W.heap[w.heap.size + 1]? = some (.cells #[.int .u8 x0, .int .u8 x1, .int .u8 x2] 39 (0, 0))))
      case atStart => exact ⟨0, rfl, ⟨by omega⟩, ⟨by simpa using HN1.out⟩, HB1, HBU, HBX⟩
      case round =>
        clear HN1 HB1 HBU HBX
        obtain ⟨i, rfl, HQ, HN1, HB1, HBU, HBX⟩ := hrel
        obtain ⟨h0, hq0⟩ := HQ.out
        cases gk with
        | zero =>
          have hi3 : i = 3 := by omega
          subst hi3
          have HNL : Aside0 (Kd.N k37 37 wr (w.heap.size + 2) (fun _ => True) u5 ((⟨u0, l1, l2⟩ : Use) :: [x0, x1, x2].map bareOf)) := HN1
          have HSM : Aside0 (Small ((⟨u0, l1, l2⟩ : Use) :: [x0, x1, x2].map bareOf)) := ⟨small_alone g1 g2 _ (by simp)⟩
          have HBR := Aside0.mk (bareOf_bare [x0, x1, x2])
          have hlen : ([x0, x1, x2].map bareOf).length = 3 := rfl
          clear HN1 HQ hq0 h0 HPS HBX
          generalize [x0, x1, x2].map bareOf = bl at *
          obtain ⟨B, cb, rfl, hcb, hrb⟩ := Kd.N_reads HNL.out
          have HCB := Aside0.mk hcb
          have HRB := Aside0.mk hrb
          clear hcb hrb HNL
          have HU0 : Aside0 (ceilOk 8 ((⟨u0, l1, l2⟩ : Use) :: bl) = true → 1 ≤ u0 ∧ actFrom 255 0 (ceilingsP 8 ((⟨u0, l1, l2⟩ : Use) :: bl)) u0 = u0 ∧ ∀ i, 0 ≤ i → i < (((⟨u0, l1, l2⟩ : Use) :: bl).length : Int) → rd (waitsP 8 ((⟨u0, l1, l2⟩ : Use) :: bl)) i = 0) := ⟨fun hk => by
            have hu := (useOk_prio ((ceilOk_iff.1 hk).1 _ List.mem_cons_self)).1
            exact ⟨hu, alone_active ⟨u0, l1, l2⟩ bl HBR.out hk, fun i h0 h1 => by rw [waitsP_rd 8 _ hk i h0 h1]; exact alone_waits ⟨u0, l1, l2⟩ hu bl HBR.out _⟩⟩
          have HAL : Aside0 (((⟨u0, l1, l2⟩ : Use) :: bl).length = 4) := ⟨by simp; omega⟩
          clear hlen HBR
          generalize (⟨u0, l1, l2⟩ : Use) :: bl = al at *
          have hz0 : wr.cell? ⟨w.heap.size, 0, none⟩ = some (.int .i64 u0) := (blk_cell HBU.out 0).trans rfl
          cases hk : ceilOk 8 al with
          | false =>
            have HK := Aside0.mk hk
            clear hk
            go_wp2_with (first | (go_at_call 17; refine (right_calls _ _ _ _ _ HRB.out HCB.out HSM.out).mono ?_; rintro e w2 ⟨rfl, hb2⟩; rw [HK.out]; have HB2 : Aside0 (Below w.heap.size w w2) := ⟨below_then HB1.out HB1.out.size hb2⟩; clear hb2) | (go_at_call 16; refine (known_calls _).mono ?_; rintro e w3 ⟨rfl, hb3⟩; have HB3 : Aside0 (Below w.heap.size w w3) := ⟨below_then HB2.out HB2.out.size hb3⟩; clear hb3))
            go_ret
            exact ⟨rfl, HB3.out⟩
          | true =>
            have HK := Aside0.mk hk
            clear hk
            go_wp2_with (first | (go_at_call 17; refine (right_calls _ _ _ _ _ HRB.out HCB.out HSM.out).mono ?_; rintro e w2 ⟨rfl, hb2⟩; rw [HK.out]; have HB2 : Aside0 (Below w.heap.size w w2) := ⟨below_then HB1.out HB1.out.size hb2⟩; have HRB2 := Aside0.mk (Kd.C_below HRB.out hb2); have HBU2 : Aside0 (w2.heap[w.heap.size]? = some (.cells #[.int .i64 u0, .slice A1 l1.length c1, .slice A2 l2.length c2] 37 (0, 0))) := ⟨(hb2.block _ (by have := blk_lt HBU.out; omega)).trans HBU.out⟩; clear hb2) | fail)
            obtain ⟨hu1, hact, hwz⟩ := HU0.out HK.out
            have HWZ := Aside0.mk hwz
            have HACT : Aside0 (actFrom 255 0 (ceilingsR 8 al) u0 = u0 ∧ (ceilingsR 8 al).length = 8) := ⟨by unfold ceilingsR; rw [if_pos HK.out]; exact hact, by unfold ceilingsR; rw [if_pos HK.out]; rw [ceilingsP_eq 8 al HK.out]; simp⟩
            have HWR : Aside0 (waitsR 8 al = waitsP 8 al ∧ (waitsP 8 al).length = al.length) := ⟨by unfold waitsR; rw [if_pos HK.out], waitsP_length _ _⟩
            clear hwz hact HU0
            refine (ceilings_calls _ _ _ _ _ HRB2.out HCB.out HSM.out).mono ?_
            rintro e w3 ⟨v6, rfl, ho6, hb3⟩
            generalize ceilingsR 8 al = c6 at *
            have HB3 : Aside0 (Below w.heap.size w w3) := ⟨below_then HB2.out HB2.out.size hb3⟩
            have HRB3 := Aside0.mk (Kd.C_below HRB2.out hb3)
            have HBU3 : Aside0 (w3.heap[w.heap.size]? = some (.cells #[.int .i64 u0, .slice A1 l1.length c1, .slice A2 l2.length c2] 37 (0, 0))) := ⟨(hb3.block _ (by have := blk_lt HBU2.out; omega)).trans HBU2.out⟩
            have HO6 := Aside0.mk ho6
            clear hb3 ho6
            go_wp2_with fail
            refine (waits_calls _ _ _ _ _ HRB3.out HCB.out HSM.out).mono ?_
            rintro e w4 ⟨v7, rfl, ho7, hb4⟩
            rw [HWR.out.1] at ho7
            have HB4 : Aside0 (Below w.heap.size w w4) := ⟨below_then HB3.out HB3.out.size hb4⟩
            have HBU4 : Aside0 (w4.heap[w.heap.size]? = some (.cells #[.int .i64 u0, .slice A1 l1.length c1, .slice A2 l2.length c2] 37 (0, 0))) := ⟨(hb4.block _ (by have := blk_lt HBU3.out; omega)).trans HBU3.out⟩
            obtain ⟨A6, c6', rfl, hc6, hr6⟩ := Kd.R_reads (Kd.R_below HO6.out hb4)
            have HR6 := Aside0.mk hr6
            have HC6 := Aside0.mk hc6
            obtain ⟨A7, c7, rfl, _, hr7⟩ := Kd.R_reads ho7
            rw [HWR.out.2] at hr7
            have HR7 := Aside0.mk hr7
            clear ho7 hr7 hb4 HO6 hr6 hc6
            have hz4 : w4.cell? ⟨w.heap.size, 0, none⟩ = some (.int .i64 u0) := (blk_cell HBU4.out 0).trans rfl
            rw [HWR.out.2]
            have HL6 := Aside0.mk HACT.out.2
            have HA6 := Aside0.mk HACT.out.1
            have hl6 : ((c6.length : Int) != 8) = false := by simp [HL6.out]
            have hl7 : ((al.length : Int) != 4) = false := by simp [HAL.out]
            clear HWR HRB HRB2 HRB3 HB1 HB2 HB3 HBU HACT
            go_wp2_with fail
            go_quiet ((go_at_call 25; refine (active_quiet u0 255 A6 c6' c6 _ (Kd.C_drewN HR6.out _) HC6.out (by have := HL6.out; omega)).mono ?_; rintro e w5 ⟨rfl, hd5⟩; rw [HA6.out]; obtain ⟨m5, rfl⟩ := hd5.out; exact ⟨rfl, ((⟨⟨_, rfl⟩⟩ : Drawn0 w4 (w4.drewN _)).step m5).out⟩))
            go_wp2
            have HB5 : Aside0 (Below w.heap.size w (w4.drewN nq)) := ⟨pw_below_drewN HB4.out nq⟩
            have HR75 : Aside0 (Kd.C (Kd.int .i64) (w4.drewN nq) A7 al.length (waitsP 8 al)) := ⟨Kd.C_drewN HR7.out nq⟩
            clear HR7 HR6 HB4 HBU4 hz4
            generalize w4.drewN nq = w5 at *
            go_loopg [9] 4 (fun q v9 W => ∃ (j : Int), v9 = .int .i64 j ∧ Aside0 (0 ≤ j ∧ j + q = 4) ∧ W = w5)
            case atStart => exact ⟨0, rfl, ⟨by omega⟩, rfl⟩
            case round =>
              obtain ⟨j, rfl, HJ, hw5⟩ := hrel
              subst hw5
              obtain ⟨j0, hjq⟩ := HJ.out
              cases gk with
              | zero =>
                have hj4 : j = 4 := by omega
                subst hj4
                go_wp2_with (go_at_call 16; refine (known_calls _).mono ?_; rintro e w9 ⟨rfl, hb9⟩; have HB9 : Aside0 (Below w.heap.size w w9) := ⟨below_then HB5.out HB5.out.size hb9⟩; clear hb9)
                go_ret
                exact ⟨rfl, HB9.out⟩
              | succ q =>
                have hj4 : j < 4 := by omega
                have hdj : decide (j < 4) = true := decide_eq_true hj4
                obtain ⟨ad7, rfl, hy7⟩ := Kd.at_int HR75.out j j0 (by have := HAL.out; omega)
                rw [HWZ.out j j0 (by have := HAL.out; omega)] at hy7
                have HQ2 : Aside0 (0 ≤ j + 1 ∧ j + 1 + q = 4) := ⟨by omega⟩
                have hja : j < (al.length : Int) := by have := HAL.out; omega
                clear HJ hjq
                go_wp2
                go_roundg q
                case measure => omega
                case rel => exact ⟨j + 1, rfl, HQ2, rfl⟩
        | succ q =>
          have hi3 : i < 3 := by omega
          have HQ2 : Aside0 (0 ≤ i + 1 ∧ i + 1 + q = 3) := ⟨by omega⟩
          have hd : decide (i < 3) = true := decide_eq_true hi3
          clear HQ hq0
          have hx0 : ∀ x, x = rd [x0, x1, x2] i → wr.cell? ⟨w.heap.size + 1, i.toNat, none⟩ = some (.int .u8 x) ∧ 0 ≤ x ∧ x ≤ 255 ∧ [x0, x1, x2].take (i + 1).toNat = [x0, x1, x2].take i.toNat ++ [x] := by
            rintro x rfl
            have hm := rd_mem [x0, x1, x2] i h0 (by simpa using hi3)
            refine ⟨?_, (HPS.out.2 _ hm).1, (HPS.out.2 _ hm).2, take_rd _ i h0 (by simpa using hi3)⟩
            refine (blk_cell HBX.out i.toNat).trans ?_
            have hi : i = 0 ∨ i = 1 ∨ i = 2 := by omega
            rcases hi with rfl | rfl | rfl <;> rfl
          obtain ⟨hx, hx1, hx2, hx3⟩ := hx0 _ rfl
          have HTK := Aside0.mk hx3
          generalize rd [x0, x1, x2] i = x at *
          clear hx0 hx3
          have HLN : Aside0 (((⟨u0, l1, l2⟩ : Use) :: ([x0, x1, x2].take i.toNat).map bareOf).length ≤ 4) := ⟨by simp; omega⟩
          have hrem : x.tmod 100 = x % 100 := Int.tmod_eq_emod_of_nonneg hx1
          have HFK : ∀ W : World, Kd.FK k37 W (fun _ => False) (bareOf x) [.int .i64 (1 + x % 100), .slice none 0 0, .slice none 0 0] := fun W => k37_mkF W _ (bareOf x) (A1 := none) (c1 := 0) (Nat.le_refl 0) (Kd.R_F (Kd.R_nil (Kd.int .i64) 3 W 0 _)) (A2 := none) (c2 := 0) (Nat.le_refl 0) (Kd.R_F (Kd.R_nil (Kd.int .i64) 3 W 0 _))
          have HUlt : Aside0 (w.heap.size + 2 ≤ wr.heap.size) := ⟨by have := blk_lt HBX.out; omega⟩
          have HTKM : Aside0 ((⟨u0, l1, l2⟩ : Use) :: ([x0, x1, x2].take (i + 1).toNat).map bareOf = ((⟨u0, l1, l2⟩ : Use) :: ([x0, x1, x2].take i.toNat).map bareOf) ++ [bareOf x]) := ⟨by rw [HTK.out, List.map_append]; rfl⟩
          generalize (⟨u0, l1, l2⟩ : Use) :: ([x0, x1, x2].take i.toNat).map bareOf = os at *
          go_wp2_with ((with_reducible refine gate_builtin (b := .append) (xs := #[.tmp 27, .tmp 35]) rfl ?_); at_builtin; refine Kd.N_append k37 (w0 := wr) (w.heap.size + 2) rfl (.tmp 27) (.tmp 35) 22 37 (.agg #[(.int .i64 0), (.slice none 0 0), (.slice none 0 0)]) 56 rfl Try.underlying22 info37 rfl (by decide) (by omega) u5 os (bareOf x) [.int .i64 (1 + x % 100), .slice none 0 0, .slice none 0 0] (fun _ => True) (fun _ => False) rfl rfl ?aP ?aK ?aF ?aO ?aB ?aS ?aL ?_; (case aP => exact HFK _); (case aK => exact fun k hk => hk.elim); (case aB => exact Below.refl _ _); (case aF => exact (fun k hk => trivial)); (case aO => exact HN1.out); (case aS => exact HUlt.out); (case aL => have := HLN.out; omega); intro v1 w10 ho hb hg hat; have HO3 := Aside0.mk ho; have HB3 := Aside0.mk hb; clear ho hb hg hat)
          go_roundg q
          case measure => omega
          case rel => exact ⟨i + 1, by first | rfl | simp, HQ2, ⟨by rw [HTKM.out]; exact HO3.out⟩, ⟨HB1.out.trans (Below.mono HB3.out (by omega))⟩, ⟨(HB3.out.block _ (by omega)).trans HBU.out⟩, ⟨(HB3.out.block _ (by omega)).trans HBX.out⟩⟩
    · have d1 : decide (50 < (l1.length : Int)) = false := decide_eq_false (by omega)
      have d2 : decide (50 < (l2.length : Int)) = true := decide_eq_true (by omega)
      have d3 : decide (50 < l1.length) = false := decide_eq_false (by omega)
      have d4 : decide (50 < l2.length) = true := decide_eq_true (by omega)
      go_enter Try.func9, Try.ntmps9
      go_wp2_with (go_at_call 16; refine (known_calls _).mono ?_; rintro e w9 ⟨rfl, hb9⟩; have HB9 : Aside0 (Below w.heap.size w w9) := ⟨below_then (by repeat (first | exact Below.refl _ _ | apply below_alloc)) (by simp only [World.size_alloc]; omega) hb9⟩; clear hb9)
      go_ret
      exact ⟨rfl, HB9.out⟩
  · have d1 : decide (50 < (l1.length : Int)) = true := decide_eq_true (by omega)
    have d3 : decide (50 < l1.length) = true := decide_eq_true (by omega)
    go_enter Try.func9, Try.ntmps9
    go_wp2_with (go_at_call 16; refine (known_calls _).mono ?_; rintro e w9 ⟨rfl, hb9⟩; have HB9 : Aside0 (Below w.heap.size w w9) := ⟨below_then (by repeat (first | exact Below.refl _ _ | apply below_alloc)) (by simp only [World.size_alloc]; omega) hb9⟩; clear hb9)
    go_ret
    exact ⟨rfl, HB9.out⟩
end Go.Proofs.Ytehmolbalfefjaa.Q
