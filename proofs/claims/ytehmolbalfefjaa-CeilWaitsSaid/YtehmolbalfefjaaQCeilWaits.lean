/- CeilWaits: the walk of the statement. -/
import Derived.Test.YtehmolbalfefjaaQCeilAlone
import Derived.Test.YtehmolbalfefjaaQCeilLong
namespace Go.Proofs.Ytehmolbalfefjaa.Q
open Go.RowKit Go.Proofs.YtehmolbalfefjaaW.PrintWords Go.Proofs.YtehmolbalfefjaaW.PrintLast Go.Proofs.YtehmolbalfefjaaW.PrintMore Go.Proofs.YtehmolbalfefjaaH
attribute [local go_sem] max2_int min2_int max_two min_two max_three min_three max_four min_four
set_option linter.unusedVariables false
set_option linter.unusedSimpArgs false
theorem chk_wide {blocks : Int} : ∀ {last : Int} {f1 f2 : List Int}, last < blocks → chkB blocks last f1 f2 = true → (f1.length : Int) ≤ blocks - last - 1
  | last, [], _, h0, _ => by simp; omega
  | last, _ :: _, [], _, h => by simp [chkB] at h
  | last, b :: bs, n :: ns, h0, h => by
    simp only [chkB, ite_ft] at h
    obtain ⟨h1, h2, h3, h4, h⟩ := h
    have := chk_wide (by omega) h
    simp only [List.length_cons]
    push_cast
    omega
theorem small_ok {blocks : Int} {l : List Use} (h : ceilOk blocks l = true) : Small l := by
  obtain ⟨h1, h2, h3, h4⟩ := ceilOk_parts h
  refine ⟨by omega, fun u hu => ?_⟩
  have hu := h1 u hu
  simp only [useOk, ite_ft] at hu
  obtain ⟨g1, g2, g3, g4⟩ := hu
  have := chk_wide (by omega) g4
  have g5 : u.f1.length = u.f2.length := by simpa using g3
  omega
theorem right_any (blocks : Int) (A : Option Addr) (cap : Nat) (l : List Use) (w : World) (hr : Kd.C k37 w A l.length l) (hc : l.length ≤ cap) : Calls Try.prog 17 #[.int .i64 blocks, .slice A l.length cap] w fun e w' => e = .returned (.bool (ceilOk blocks l)) ∧ Below w.heap.size w w' := by
  have h := right_spec blocks l (by have := C_len hr; omega) (C_use_len hr) (l.length + usesMax l + 3) (by omega)
  exact ceil_Right.calls _ blocks A cap l _ w hr hc h
theorem bare_ceil (blocks : Int) (l : List Use) (hk : ceilOk blocks l = true) : waitsR blocks (l.map bare) = waitsP blocks (l.map bare) := by
  unfold waitsR
  rw [if_pos (bare_ok blocks l hk)]
theorem N_single_at {α : Type} (d : Kd α) {W : World} (base e n : Nat) (hn : W.heap.size = n) (hb : base ≤ n) {x : α} {cs : List Value} {ok okp : Nat → Prop} (hp : Kd.FK d W okp x cs) (hok : ∀ k, okp k → ok k) (hf : ok n) : Kd.N d e (W.alloc (.cells cs.toArray e)) base ok (.slice (some ⟨n, 0, none⟩) 1 1) [x] := by
  subst hn
  exact N_single d base e hb hp hok hf
theorem N_empty_at {α : Type} (d : Kd α) {W : World} (base e n : Nat) (hn : W.heap.size = n) (hb : base ≤ n) {ok : Nat → Prop} (hf : ok n) : Kd.N d e (W.alloc (.cells #[] e)) base ok (.slice (some ⟨n, 0, none⟩) 0 0) [] := by
  subst hn
  refine Kd.N_made (W := W) (rows := []) (okp := fun _ => False) ⟨fun k hk => ?_, [], ?_, ?_⟩ (World.grownBy_alloc W _ none) ⟨W.heap.size, by simp [Value.ownBlock], Nat.le_refl _⟩ rfl (by intro j x c hx; simp at hx) (fun _ h => h.elim) hf
  · have : W.heap.size = k := by simpa [Value.ownBlock] using hk
    exact this.symm
  · exact World.ownsRow_lit (base := base) (e := e) (size := d.sz) W #[] 0 hb (by decide) (by simp)
  · exact Reps.none _ _
set_option maxHeartbeats 8000000 in
set_option maxRecDepth 100000 in
theorem camshaftlaw13_CeilWaits_walk (blocks : Int) (A : Option Addr) (cap : Nat) (l : List S37) (u0 : Int) (A1 : Option Addr) (c1 : Nat) (l1 : List Int) (A2 : Option Addr) (c2 : Nat) (l2 : List Int) (w : World) (hr : Kd.C k37 w A l.length l) (hc : l.length ≤ cap) (hr1 : Kd.C (Kd.int .i64) w A1 l1.length l1) (hc1 : l1.length ≤ c1) (hr2 : Kd.C (Kd.int .i64) w A2 l2.length l2) (hc2 : l2.length ≤ c2) (_ : ok3 blocks) (_ : ok22 l) (_ : ok37 ⟨u0, l1, l2⟩) :
    Calls Try.prog 6 #[.int .i64 blocks, .slice A l.length cap, .agg #[.int .i64 u0, .slice A1 l1.length c1, .slice A2 l2.length c2]] w fun e w' => e = .returned (.bool true) ∧ Below w.heap.size w w' := by
  have hu37 := Try.underlying37
  have HR := Aside0.mk hr
  have HC := Aside0.mk hc
  have HR1 := Aside0.mk hr1
  have HC1 := Aside0.mk hc1
  have HR2 := Aside0.mk hr2
  have HC2 := Aside0.mk hc2
  clear hr hc hr1 hc1 hr2 hc2
  have HBX : ∀ w0 : World, w0 = w.alloc (.cells #[.int .i64 u0, .slice A1 l1.length c1, .slice A2 l2.length c2] 37) → Below w.heap.size w w0 ∧ w0.heap[w.heap.size]? = some (.cells #[.int .i64 u0, .slice A1 l1.length c1, .slice A2 l2.length c2] 37 (0, 0)) := by
    rintro w0 rfl
    exact ⟨below_alloc (Below.refl _ _) _, Go.heap_alloc_new w _⟩
  cases hL : lightB l with
  | false =>
    have HL := Aside0.mk hL
    clear hL
    go_enter Try.func6, Try.ntmps6
    go_wp2_with (first | (go_at_call 15; obtain ⟨hb0, hbx⟩ := HBX _ rfl; refine (light_calls _ _ _ _ (Kd.C_below HR.out hb0) HC.out).mono ?_; rintro e w1 ⟨rfl, hb1⟩; rw [HL.out]; have HB1 : Aside0 (Below w.heap.size w w1) := ⟨below_then hb0 hb0.size hb1⟩; clear hb1) | (go_at_call 16; refine (known_calls _).mono ?_; rintro e w2 ⟨rfl, hb2⟩; have HB2 : Aside0 (Below w.heap.size w w2) := ⟨below_then HB1.out HB1.out.size hb2⟩; clear hb2))
    go_ret
    exact ⟨rfl, HB2.out⟩
  | true =>
    have HL := Aside0.mk hL
    have HSM : Aside0 (Small l) := ⟨lightB_parts hL⟩
    clear hL
    cases hk : ceilOk blocks l with
    | false =>
      have HK := Aside0.mk hk
      clear hk
      go_enter Try.func6, Try.ntmps6
      go_wp2_with (first | (go_at_call 15; obtain ⟨hb0, hbx⟩ := HBX _ rfl; refine (light_calls _ _ _ _ (Kd.C_below HR.out hb0) HC.out).mono ?_; rintro e w1 ⟨rfl, hb1⟩; rw [HL.out]; have HB1 : Aside0 (Below w.heap.size w w1) := ⟨below_then hb0 hb0.size hb1⟩; clear hb1) | (go_at_call 17; refine (right_calls _ _ _ _ _ (Kd.C_below HR.out HB1.out) HC.out HSM.out).mono ?_; rintro e w2 ⟨rfl, hb2⟩; rw [HK.out]; have HB2 : Aside0 (Below w.heap.size w w2) := ⟨below_then HB1.out HB1.out.size hb2⟩; clear hb2) | (go_at_call 16; refine (known_calls _).mono ?_; rintro e w3 ⟨rfl, hb3⟩; have HB3 : Aside0 (Below w.heap.size w w3) := ⟨below_then HB2.out HB2.out.size hb3⟩; clear hb3))
      go_ret
      exact ⟨rfl, HB3.out⟩
    | true =>
      have HK := Aside0.mk hk
      obtain ⟨hu, hb0, hb8, hl8⟩ := ceilOk_parts hk
      have HU := Aside0.mk hu
      clear hk hu
      by_cases h7 : 7 < l.length
      · have d1 : decide (7 < (l.length : Int)) = true := decide_eq_true (by omega)
        have d2 : decide (7 < l.length) = true := decide_eq_true (by omega)
        clear hb0
        go_enter Try.func6, Try.ntmps6
        go_wp2_with (first | (go_at_call 15; obtain ⟨hb0, hbx⟩ := HBX _ rfl; refine (light_calls _ _ _ _ (Kd.C_below HR.out hb0) HC.out).mono ?_; rintro e w1 ⟨rfl, hb1⟩; rw [HL.out]; have HB1 : Aside0 (Below w.heap.size w w1) := ⟨below_then hb0 hb0.size hb1⟩; clear hb1) | (go_at_call 17; refine (right_calls _ _ _ _ _ (Kd.C_below HR.out HB1.out) HC.out HSM.out).mono ?_; rintro e w2 ⟨rfl, hb2⟩; rw [HK.out]; have HB2 : Aside0 (Below w.heap.size w w2) := ⟨below_then HB1.out HB1.out.size hb2⟩; clear hb2) | (go_at_call 16; refine (known_calls _).mono ?_; rintro e w3 ⟨rfl, hb3⟩; have HB3 : Aside0 (Below w.heap.size w w3) := ⟨below_then HB2.out HB2.out.size hb3⟩; clear hb3))
        go_ret
        exact ⟨rfl, HB3.out⟩
      · have d1 : decide (7 < (l.length : Int)) = false := decide_eq_false (by omega)
        have d2 : decide (7 < l.length) = false := decide_eq_false (by omega)
        clear hb0
        go_enter Try.func6, Try.ntmps6
        go_wp2_with (first | (go_at_call 15; obtain ⟨hb0, hbx⟩ := HBX _ rfl; refine (light_calls _ _ _ _ (Kd.C_below HR.out hb0) HC.out).mono ?_; rintro e w1 ⟨rfl, hb1⟩; rw [HL.out]; have HB1 : Aside0 (Below w.heap.size w w1) := ⟨below_then hb0 hb0.size hb1⟩; have HBU1 : Aside0 (w1.heap[w.heap.size]? = some (.cells #[.int .i64 u0, .slice A1 l1.length c1, .slice A2 l2.length c2] 37 (0, 0))) := ⟨(hb1.block _ (by have := blk_lt hbx; omega)).trans hbx⟩; clear hb1) | (go_at_call 17; refine (right_calls _ _ _ _ _ (Kd.C_below HR.out HB1.out) HC.out HSM.out).mono ?_; rintro e w2 ⟨rfl, hb2⟩; rw [HK.out]; have HB2 : Aside0 (Below w.heap.size w w2) := ⟨below_then HB1.out HB1.out.size hb2⟩; have HBU2 : Aside0 (w2.heap[w.heap.size]? = some (.cells #[.int .i64 u0, .slice A1 l1.length c1, .slice A2 l2.length c2] 37 (0, 0))) := ⟨(hb2.block _ (by have := blk_lt HBU1.out; omega)).trans HBU1.out⟩; clear hb2))
        refine (waits_calls _ _ _ _ _ (Kd.C_below HR.out HB2.out) HC.out HSM.out).mono ?_
        rintro e w3 ⟨v7, rfl, ho7, hb3⟩
        have HWR : Aside0 (waitsR blocks l = waitsP blocks l ∧ (waitsP blocks l).length = l.length) := ⟨by unfold waitsR; rw [if_pos HK.out], waitsP_length _ _⟩
        rw [HWR.out.1] at ho7
        obtain ⟨A7, c7, rfl, _, hr7⟩ := Kd.R_reads ho7
        have HB3 : Aside0 (Below w.heap.size w w3) := ⟨below_then HB2.out HB2.out.size hb3⟩
        have HBU3 : Aside0 (w3.heap[w.heap.size]? = some (.cells #[.int .i64 u0, .slice A1 l1.length c1, .slice A2 l2.length c2] 37 (0, 0))) := ⟨(hb3.block _ (by have := blk_lt HBU2.out; omega)).trans HBU2.out⟩
        have HR7 := Aside0.mk hr7
        have HBW := Aside0.mk (Below.refl w3.heap.size w3)
        rw [HWR.out.2] at HR7
        rw [HWR.out.2]
        clear ho7 hr7 hb3 HB1 HB2 HBU1 HBU2 HBX
        go_wp2_with fail
        go_loopg [8, 9, 10] l.length (fun q v8 v9 v10 W => ∃ (i low : Int), v9 = .int .i64 low ∧ v10 = .int .i64 i ∧ Aside0 (0 ≤ i ∧ i + q = l.length) ∧ Aside0 (low ≤ 101 ∧ ∀ u ∈ l.take i.toNat, low ≤ u.f0) ∧ Aside0 (Kd.N k37 37 W w3.heap.size (fun _ => True) v8 ((l.take i.toNat).map bare)) ∧ Aside0 (Below w3.heap.size w3 W))
        case atStart => exact ⟨0, 101, rfl, rfl, ⟨by omega⟩, ⟨by simp⟩, ⟨Kd.N_nil _ _ _ _ _⟩, HBW⟩
        case round =>
          clear HBW
          obtain ⟨i, low, rfl, rfl, HQ, HLOW, HN, HBW⟩ := hrel
          obtain ⟨h0, hq0⟩ := HQ.out
          cases gk with
          | zero =>
            have hd : decide (i < (l.length : Int)) = false := decide_eq_false (by omega)
            have hil : i = l.length := by omega
            rw [List.take_of_length_le (by omega)] at HLOW HN
            obtain ⟨B, cb, rfl, hcb, hrb⟩ := Kd.N_reads HN.out
            have HCB := Aside0.mk hcb
            have HRB := Aside0.mk hrb
            have HSB := Aside0.mk (small_bare HSM.out)
            have HBC := Aside0.mk (bare_ceil blocks l HK.out)
            have HBZ : Aside0 (∀ i, 0 ≤ i → i < (l.length : Int) → rd (waitsP blocks (l.map bare)) i = 0) := ⟨fun i h0 h1 => bare_waits_rd blocks l HK.out i h0 h1⟩
            have HBL : Aside0 ((waitsP blocks (l.map bare)).length = l.length) := ⟨by rw [waitsP_length]; simp⟩
            have HWX : Aside0 (∀ i, 0 ≤ i → i < (l.length : Int) → 0 ≤ rd (waitsP blocks l) i ∧ ((rd_T37 l i).f0 = low → rd (waitsP blocks l) i = 0)) := ⟨fun i h0 h1 => ⟨waits_nn blocks l HK.out i h0 h1, fun he => low_waits blocks l HK.out low HLOW.out.2 i h0 h1 he⟩⟩
            generalize l.map bare = bl at *
            clear hcb hrb HN hq0 HQ h0
            subst hil
            go_wp2_with fail
            refine (waits_calls _ _ _ _ _ HRB.out HCB.out HSB.out).mono ?_
            rintro e w4 ⟨v11, rfl, ho11, hb4⟩
            rw [HBC.out] at ho11
            obtain ⟨A11, c11, rfl, _, hr11⟩ := Kd.R_reads ho11
            have HB4 : Aside0 (Below w3.heap.size w3 w4) := ⟨below_then HBW.out HBW.out.size hb4⟩
            have HR11 := Aside0.mk hr11
            rw [HBL.out] at HR11
            rw [HBL.out]
            clear ho11 hr11 hb4 HBW HRB HCB HSB
            go_wp2_with fail
            have HB34 : Aside0 (Below w.heap.size w w4) := ⟨HB3.out.trans (Below.mono HB4.out HB3.out.size)⟩
            have hs34 : w3.heap.size ≤ w4.heap.size := HB4.out.size
            have hs3 := blk_lt HBU3.out
            have HBU4 : Aside0 (w4.heap[w.heap.size]? = some (.cells #[.int .i64 u0, .slice A1 l1.length c1, .slice A2 l2.length c2] 37 (0, 0))) := ⟨(HB4.out.block _ hs3).trans HBU3.out⟩
            have hUU : w4.cell? ⟨w.heap.size, 0, none⟩ = some (.int .i64 u0) := (blk_cell HBU4.out 0).trans rfl
            have hUU1 : w4.cell? ⟨w.heap.size, 1, none⟩ = some (.slice A1 l1.length c1) := (blk_cell HBU4.out 1).trans rfl
            have hUU2 : w4.cell? ⟨w.heap.size, 2, none⟩ = some (.slice A2 l2.length c2) := (blk_cell HBU4.out 2).trans rfl
            have hs4 : w.heap.size < w4.heap.size := by omega
            have HF4 : Aside0 (Kd.F k37 w4 (fun k => k < w.heap.size) A l.length l) := ⟨Kd.F_below (Kd.F_below (Kd.C_F k37_heap HR.out) HB3.out) HB4.out⟩
            have HFU : Aside0 (∀ W, Below w4.heap.size w4 W → Kd.FK k37 W (fun k => k < w.heap.size) (⟨u0, l1, l2⟩ : Use) [.int .i64 u0, .slice A1 l1.length c1, .slice A2 l2.length c2]) := ⟨fun W hW => k37_mkF W _ (⟨u0, l1, l2⟩ : Use) HC1.out (Kd.F_below (Kd.F_below (Kd.F_below (Kd.C_F (Kd.heap_int .i64) HR1.out) HB3.out) HB4.out) hW) HC2.out (Kd.F_below (Kd.F_below (Kd.F_below (Kd.C_F (Kd.heap_int .i64) HR2.out) HB3.out) HB4.out) hW)⟩
            go_region_law (first | ((repeat rw [alloc_drew_out]); (first | refine Kd.N_append_rows_step k37 (w0 := w4.drew) w4.heap.size (by rfl) (.tmp 59) (.tmp 60) 22 37 (.agg #[(.int .i64 0), (.slice none 0 0), (.slice none 0 0)]) 56 rfl Try.underlying22 info37 rfl (by decide) (by omega) (.slice (some ⟨w4.heap.size, 0, none⟩) 0 0) [] l A l.length cap (fun _ => True) (fun k => k < w.heap.size) rfl rfl ?aO ?aR ?aK ?aF ?aB ?aS ?aL ?_ | refine Kd.N_append_rows_step k37 (w0 := w4.drew) w4.heap.size (by rfl) (.tmp 59) (.tmp 60) 22 37 (.agg #[(.int .i64 0), (.slice none 0 0), (.slice none 0 0)]) 56 rfl Try.underlying22 info37 rfl (by decide) (by omega) (.slice (some ⟨w4.heap.size + 1, 0, none⟩) 0 0) [] l A l.length cap (fun _ => True) (fun k => k < w.heap.size) rfl rfl ?aO ?aR ?aK ?aF ?aB ?aS ?aL ?_); (case aO => first | exact N_empty_at k37 w4.heap.size 37 w4.heap.size (by rfl) (Nat.le_refl _) trivial | exact N_empty_at k37 w4.heap.size 37 (w4.heap.size + 1) (by rw [World.size_alloc]; rfl) (Nat.le_succ _) trivial | exact Kd.N_alloc (N_empty_at k37 w4.heap.size 37 w4.heap.size (by rfl) (Nat.le_refl _) trivial) _); (case aR => repeat (first | exact HF4.out | refine Kd.F_alloc ?_ _ | refine Kd.F_drew ?_)); (case aK => exact fun k hk => ⟨trivial, by have hk' : k < w.heap.size := hk; simp [Value.ownBlock, World.size_drew]; omega⟩); (case aF => exact fun _ _ => trivial); (case aB => first | exact (Below.refl w4.heap.size w4.drew).alloc (Nat.le_refl _) _ | exact ((Below.refl w4.heap.size w4.drew).alloc (Nat.le_refl _) _).alloc (by rw [World.size_alloc]; exact Nat.le_succ _) _); (case aS => simp only [World.size_alloc, World.size_drew]; omega); (case aL => have := hl8; simp; omega); intro v1 w10 ho hb hg hat; have hV0 := (hb.cell hs4).trans hUU; have hV1 := (hb.cell hs4).trans hUU1; have hV2 := (hb.cell hs4).trans hUU2; have HO10 : Aside0 (Kd.N k37 37 w10 w4.heap.size (fun _ => True) v1 l) := ⟨ho⟩; have HB10 := Aside0.mk hb; have HAT10 := Aside0.mk hat; (first | have HN63 : Aside0 (Kd.N k37 37 w10 w4.heap.size (fun k => k < w.heap.size ∨ k = w4.heap.size + 1) (.slice (some ⟨w4.heap.size + 1, 0, none⟩) 1 1) [(⟨u0, l1, l2⟩ : Use)]) := ⟨Kd.N_grown (N_single_at k37 w4.heap.size 37 (w4.heap.size + 1) (by rw [World.size_alloc]; rfl) (Nat.le_succ _) (HFU.out _ (by repeat (first | exact Below.refl _ _ | refine below_alloc ?_ _ | refine below_drew ?_))) (fun k hk => .inl hk) (.inr rfl)) hg (fun k hk => by obtain hk' | hk' := hk <;> simp [Value.ownBlock, World.size_drew] <;> omega)⟩ | have HN63 : Aside0 (Kd.N k37 37 w10 w4.heap.size (fun k => k < w.heap.size ∨ k = w4.heap.size) (.slice (some ⟨w4.heap.size, 0, none⟩) 1 1) [(⟨u0, l1, l2⟩ : Use)]) := ⟨Kd.N_grown (Kd.N_alloc (N_single_at (W := w4.drew) k37 w4.heap.size 37 w4.heap.size (by rfl) (Nat.le_refl _) (HFU.out _ (by repeat (first | exact Below.refl _ _ | refine below_alloc ?_ _ | refine below_drew ?_))) (fun k hk => .inl hk) (.inr rfl)) _) hg (fun k hk => by obtain hk' | hk' := hk <;> simp [Value.ownBlock, World.size_drew] <;> omega)⟩ | skip); clear ho hb hg hat) | (refine Kd.N_append_step k37 (w0 := w4.drew) w4.heap.size (by rfl) (.tmp 61) (.tmp 63) 22 37 (.agg #[(.int .i64 0), (.slice none 0 0), (.slice none 0 0)]) 56 rfl Try.underlying22 info37 rfl (by decide) (by omega) v1 l (⟨u0, l1, l2⟩ : Use) [.int .i64 u0, .slice A1 l1.length c1, .slice A2 l2.length c2] (fun _ => True) (fun k => k < w.heap.size) rfl rfl ?aP ?aK ?aF ?aO ?aB ?aS ?aL ?_; (case aP => exact HFU.out _ ((below_drew (Below.refl _ _)).trans HB10.out)); (case aK => exact fun k hk => ⟨trivial, fun e => by have := Kd.N_base HO10.out k e.symm; omega⟩); (case aF => exact fun _ _ => trivial); (case aO => exact HO10.out); (case aB => exact HB10.out); (case aS => exact HB10.out.size); (case aL => have := hl8; simp; omega); intro v2 w11 ho hb hg hat; have HO11 := Aside0.mk ho; have HB11 := Aside0.mk hb; clear ho hb hg hat) | ((first | refine Kd.N_append_rows_step k37 (w0 := w4.drew) w4.heap.size (by rfl) (.tmp 61) (.tmp 63) 22 37 (.agg #[(.int .i64 0), (.slice none 0 0), (.slice none 0 0)]) 56 rfl Try.underlying22 info37 rfl (by decide) (by omega) v1 l [(⟨u0, l1, l2⟩ : Use)] (some ⟨w4.heap.size, 0, none⟩) 1 1 (fun _ => True) (fun k => k < w.heap.size ∨ k = w4.heap.size) rfl rfl ?aO ?aR ?aK ?aF ?aB ?aS ?aL ?_ | refine Kd.N_append_rows_step k37 (w0 := w4.drew) w4.heap.size (by rfl) (.tmp 61) (.tmp 63) 22 37 (.agg #[(.int .i64 0), (.slice none 0 0), (.slice none 0 0)]) 56 rfl Try.underlying22 info37 rfl (by decide) (by omega) v1 l [(⟨u0, l1, l2⟩ : Use)] (some ⟨w4.heap.size + 1, 0, none⟩) 1 1 (fun _ => True) (fun k => k < w.heap.size ∨ k = w4.heap.size + 1) rfl rfl ?aO ?aR ?aK ?aF ?aB ?aS ?aL ?_); (case aR => exact Kd.N_F HN63.out); (case aK => exact fun k hk => ⟨trivial, by obtain hk' | hk' := hk <;> rcases HAT10.out with h | ⟨b', h, hle⟩ <;> rw [h] <;> (try simp only [World.size_alloc, World.size_drew] at hle) <;> simp [Value.ownBlock, World.size_drew] <;> omega⟩); (case aF => exact fun _ _ => trivial); (case aO => exact HO10.out); (case aB => exact HB10.out); (case aS => exact HB10.out.size); (case aL => have := hl8; simp; omega); intro v2 w11 ho hb hg hat; have HO11 := Aside0.mk ho; have HB11 := Aside0.mk hb; clear ho hb hg hat))
            all_goals (
              have HB12 : Aside0 (Below w.heap.size w w11) := ⟨HB34.out.trans ((below_drew (Below.refl _ _)).trans (Below.mono HB11.out (Nat.le_of_lt hs4)))⟩
              have HB412 : Aside0 (Below w4.heap.size w4 w11) := ⟨(below_drew (Below.refl _ _)).trans HB11.out⟩
              have HR7b : Aside0 (Kd.C (Kd.int .i64) w11 A7 l.length (waitsP blocks l)) := ⟨Kd.C_below (Kd.C_below HR7.out HB4.out) HB412.out⟩
              have HR11b : Aside0 (Kd.C (Kd.int .i64) w11 A11 l.length (waitsP blocks bl)) := ⟨Kd.C_below HR11.out HB412.out⟩
              obtain ⟨C, cc, rfl, hcc, hrc⟩ := Kd.N_reads HO11.out
              have HCC := Aside0.mk hcc
              have HRC := Aside0.mk hrc
              clear hcc hrc HO11 HB412 HB11 HO10 HB10 HAT10 hV0 hV1 hV2 hUU hUU1 hUU2 HR7 HR11 HB34 HBU4 HB3 HB4 HFU HF4 HBU3
              (try clear HN63)
              have HMW : Aside0 ((l ++ [(⟨u0, l1, l2⟩ : Use)]).length = l.length + 1 ∧ (ceilOk blocks (l ++ [(⟨u0, l1, l2⟩ : Use)]) = true → ∀ i, 0 ≤ i → i < (l.length : Int) → rd (waitsP blocks l) i ≤ rd (waitsP blocks (l ++ [(⟨u0, l1, l2⟩ : Use)])) i)) := ⟨by simp, fun hk2 i h0 h1 => more_waits blocks l _ HK.out hk2 i h0 h1⟩
              generalize l ++ [(⟨u0, l1, l2⟩ : Use)] = ml at *
              have hne : ((l.length : Int) != (l.length : Int)) = false := by simp
              have hee : ((l.length : Int) == (l.length : Int)) = true := by simp
              go_wp2_with fail
              go_loopg [13] l.length (fun q v13 W => ∃ (j : Int), v13 = .int .i64 j ∧ Aside0 (0 ≤ j ∧ j + q = l.length) ∧ W = w11)
              case atStart => exact ⟨0, rfl, ⟨by omega⟩, rfl⟩
              case round =>
                obtain ⟨j, rfl, HJ, hw11⟩ := hrel
                subst hw11
                obtain ⟨j0, hjq⟩ := HJ.out
                cases gk with
                | zero =>
                  have hdj : decide (j < (l.length : Int)) = false := decide_eq_false (by omega)
                  go_wp2_with fail
                  cases hkm : ceilOk blocks ml with
                  | false =>
                    refine (right_any _ _ _ _ _ HRC.out HCC.out).mono ?_
                    rintro e w5 ⟨rfl, hb5⟩
                    rw [hkm]
                    have HB5 : Aside0 (Below w.heap.size w w5) := ⟨below_then HB12.out HB12.out.size hb5⟩
                    clear hb5
                    go_wp2_with (go_at_call 16; refine (known_calls _).mono ?_; rintro e w9 ⟨rfl, hb9⟩; have HB9 : Aside0 (Below w.heap.size w w9) := ⟨below_then HB5.out HB5.out.size hb9⟩; clear hb9)
                    go_ret
                    exact ⟨rfl, HB9.out⟩
                  | true =>
                    have HKM := Aside0.mk hkm
                    refine (right_any _ _ _ _ _ HRC.out HCC.out).mono ?_
                    rintro e w5 ⟨rfl, hb5⟩
                    rw [hkm]
                    have HB5 : Aside0 (Below w.heap.size w w5) := ⟨below_then HB12.out HB12.out.size hb5⟩
                    have HRC5 := Aside0.mk (Kd.C_below HRC.out hb5)
                    have HR75 := Aside0.mk (Kd.C_below HR7b.out hb5)
                    have HSMM := Aside0.mk (small_ok hkm)
                    have HMX := Aside0.mk (HMW.out.2 hkm)
                    have HML := Aside0.mk HMW.out.1
                    have HWM : Aside0 (waitsR blocks ml = waitsP blocks ml ∧ (waitsP blocks ml).length = ml.length) := ⟨by unfold waitsR; rw [if_pos hkm], waitsP_length _ _⟩
                    clear hb5 hkm
                    go_wp2_with fail
                    refine (waits_calls _ _ _ _ _ HRC5.out HCC.out HSMM.out).mono ?_
                    rintro e w6 ⟨v14, rfl, ho14, hb6⟩
                    rw [HWM.out.1] at ho14
                    obtain ⟨A14, c14, rfl, _, hr14⟩ := Kd.R_reads ho14
                    rw [HWM.out.2] at hr14
                    have HR14 := Aside0.mk hr14
                    have HB6 : Aside0 (Below w.heap.size w w6) := ⟨below_then HB5.out HB5.out.size hb6⟩
                    have HR76 := Aside0.mk (Kd.C_below HR75.out hb6)
                    rw [HWM.out.2]
                    clear ho14 hr14 hb6 HRC5 HR75 HRC HR7b HR11b
                    have hne2 : ((ml.length : Int) != (ml.length : Int)) = false := by simp
                    go_wp2_with fail
                    go_loopg [15] l.length (fun q v15 W => ∃ (j : Int), v15 = .int .i64 j ∧ Aside0 (0 ≤ j ∧ j + q = l.length) ∧ Drawn0 w6 W)
                    case atStart => exact ⟨0, rfl, ⟨by omega⟩, Drawn0.refl _⟩
                    case round =>
                      clear hdj
                      obtain ⟨j, rfl, HJ, ⟨⟨nd, rfl⟩⟩⟩ := hrel
                      obtain ⟨j0, hjq⟩ := HJ.out
                      cases gk with
                      | zero =>
                        have hdj : decide (j < (l.length : Int)) = false := decide_eq_false (by omega)
                        go_wp2_with (go_at_call 16; refine (known_calls _).mono ?_; rintro e w9 ⟨rfl, hb9⟩; have HB9 : Aside0 (Below w.heap.size w w9) := ⟨below_then (pw_below_drewN HB6.out nd) (pw_below_drewN HB6.out nd).size hb9⟩; clear hb9)
                        go_ret
                        exact ⟨rfl, HB9.out⟩
                      | succ q =>
                        have hjl : j < l.length := by omega
                        have hjm : j < ml.length := by have := HML.out; omega
                        have hdj : decide (j < (l.length : Int)) = true := decide_eq_true hjl
                        have HQ2 : Aside0 (0 ≤ j + 1 ∧ j + 1 + q = l.length) := ⟨by omega⟩
                        obtain ⟨ad7, rfl, hy7⟩ := Kd.at_int HR76.out j j0 hjl
                        obtain ⟨ad14, rfl, hy14⟩ := Kd.at_int HR14.out j j0 hjm
                        have hle := HMX.out j j0 hjl
                        have h91 : j < 8 := by omega
                        generalize rd (waitsP blocks l) j = x at *
                        generalize rd (waitsP blocks ml) j = y at *
                        have hxy : decide (y < x) = false := decide_eq_false (by omega)
                        clear HJ hjq
                        go_wp2
                        go_quiet (fail)
                        go_wp2
                        go_roundg q
                        case measure => omega
                        case rel => exact ⟨j + 1, rfl, HQ2, by repeat (first | exact Drawn0.refl _ | apply Drawn0.step)⟩
                | succ q =>
                  have hjl : j < l.length := by omega
                  have hdj : decide (j < (l.length : Int)) = true := decide_eq_true hjl
                  have HQ2 : Aside0 (0 ≤ j + 1 ∧ j + 1 + q = l.length) := ⟨by omega⟩
                  obtain ⟨ad7, rfl, hy7⟩ := Kd.at_int HR7b.out j j0 hjl
                  obtain ⟨ad11, rfl, hy11⟩ := Kd.at_int HR11b.out j j0 hjl
                  rw [HBZ.out j j0 hjl] at hy11
                  obtain ⟨ad, D1, e1, D2, e2, rfl, hx0, hx1, hx2, hl1, hi1, hl2, hi2⟩ := at_T37 HR.out j j0 hjl
                  replace hx0 := (HB12.out.cell (World.block_lt_of_cell? w _ hx0)).trans hx0
                  obtain ⟨hw0, hwl⟩ := HWX.out j j0 hjl
                  have h91 : j < 8 := by omega
                  clear hi1 hi2 hl1 hl2 hx1 hx2 HJ hjq
                  generalize (rd_T37 l j).f0 = p at *
                  by_cases hp : p = low
                  · rw [hwl hp] at hy7
                    have hpe : (p == low) = true := by simp [hp]
                    clear hwl hw0 hp
                    go_wp2
                    go_roundg q
                    case measure => omega
                    case rel => exact ⟨j + 1, rfl, HQ2, rfl⟩
                  · have hpe : (p == low) = false := by simp [hp]
                    generalize rd (waitsP blocks l) j = x at *
                    have hx0' : decide (x < 0) = false := decide_eq_false (by omega)
                    clear hwl hp
                    go_wp2
                    go_roundg q
                    case measure => omega
                    case rel => exact ⟨j + 1, rfl, HQ2, rfl⟩)
          | succ q =>
            have hlt : i < l.length := by omega
            have hd : decide (i < (l.length : Int)) = true := decide_eq_true hlt
            obtain ⟨ad, D1, e1, D2, e2, rfl, hx0, hx1, hx2, hl1, hi1, hl2, hi2⟩ := at_T37 HR.out i h0 hlt
            have HMEM : Aside0 (rd_T37 l i ∈ l) := ⟨rd_use_mem l i h0 hlt⟩
            have HTK := Aside0.mk (take_use l i h0 hlt)
            have hup := useOk_prio (HU.out _ HMEM.out)
            replace hx0 := (HB3.out.cell (World.block_lt_of_cell? w _ hx0)).trans hx0
            have HX3 := Aside0.mk hx0
            replace hx0 := (HBW.out.cell (World.block_lt_of_cell? w3 _ hx0)).trans hx0
            generalize rd_T37 l i = u at *
            clear hi1 hi2 hl1 hl2 hx1 hx2
            have HQ2 : Aside0 (0 ≤ i + 1 ∧ i + 1 + q = l.length) := ⟨by omega⟩
            have HLN : Aside0 (((l.take i.toNat).map bare).length ≤ 8) := ⟨by simp; omega⟩
            have hi8 : i < 8 := by omega
            have hlow1 := HLOW.out.1
            have HFK : ∀ W : World, Kd.FK k37 W (fun _ => False) (bare u) [.int .i64 u.f0, .slice none 0 0, .slice none 0 0] := fun W => k37_mkF W _ (bare u) (A1 := none) (c1 := 0) (Nat.le_refl 0) (Kd.R_F (Kd.R_nil (Kd.int .i64) 3 W 0 _)) (A2 := none) (c2 := 0) (Nat.le_refl 0) (Kd.R_F (Kd.R_nil (Kd.int .i64) 3 W 0 _))
            have HUlt : Aside0 (w3.heap.size ≤ wr.heap.size) := ⟨HBW.out.size⟩
            have HTKM : Aside0 ((l.take (i + 1).toNat).map bare = (l.take i.toNat).map bare ++ [bare u]) := ⟨by rw [HTK.out, List.map_append]; rfl⟩
            have HLN2 : Aside0 (∀ y, y ≤ low → y ≤ u.f0 → y ≤ 101 ∧ ∀ v ∈ l.take (i + 1).toNat, y ≤ v.f0) := ⟨by
              intro y hm1 hm2
              refine ⟨by omega, fun v hv => ?_⟩
              rw [HTK.out] at hv
              rcases List.mem_append.1 hv with hv | hv
              · have := HLOW.out.2 v hv; omega
              · rw [List.mem_singleton] at hv; subst hv; exact hm2⟩
            generalize (l.take i.toNat).map bare = os at *
            clear HQ hq0
            go_wp2_with ((with_reducible refine gate_builtin (b := .append) (xs := #[.tmp 40, .tmp 47]) rfl ?_); at_builtin; refine Kd.N_append k37 (w0 := w3) w3.heap.size rfl (.tmp 40) (.tmp 47) 22 37 (.agg #[(.int .i64 0), (.slice none 0 0), (.slice none 0 0)]) 56 rfl Try.underlying22 info37 rfl (by decide) (by omega) u8 os (bare u) [.int .i64 u.f0, .slice none 0 0, .slice none 0 0] (fun _ => True) (fun _ => False) rfl rfl ?aP ?aK ?aF ?aO ?aB ?aS ?aL ?_; (case aP => exact HFK _); (case aK => exact fun k hk => hk.elim); (case aB => exact HBW.out); (case aF => exact (fun k hk => trivial)); (case aO => exact HN.out); (case aS => exact HUlt.out); (case aL => have := HLN.out; omega); intro v1 w10 ho hb hg hat; have HO3 := Aside0.mk ho; have HB4 := Aside0.mk hb; have hx10 : w10.cell? (ad.add (i.toNat * 3)) = some (.int .i64 u.f0) := (hb.cell (World.block_lt_of_cell? w3 _ HX3.out)).trans HX3.out; clear ho hb hg hat)
            all_goals go_roundg q
            all_goals first | (case measure => omega) | skip
            all_goals exact ⟨i + 1, _, rfl, by first | rfl | simp, HQ2, ⟨HLN2.out _ (by omega) (by omega)⟩, ⟨by rw [HTKM.out]; exact HO3.out⟩, HB4⟩
end Go.Proofs.Ytehmolbalfefjaa.Q
