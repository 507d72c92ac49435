/- CostSums: for every input the call returns true, and each argument reads afterwards as it read before. No condition. -/
import Derived.Test.YtehmolbalfefjaaMB5
import Derived.Test.YtehmolbalfefjaaMB4
import Derived.Test.YtehmolbalfefjaaMB2
import Derived.SizedLaws
import Derived.Test.YtehmolbalfefjaaRows
import Derived.WalkKit
import Derived.ProofKit
import Derived.OpenShut
import Derived.ShutString
import Derived.ChangeOld
import Derived.Below
/- Plain: the steps of ways, by the program, on. -/
namespace Go.Proofs.Dk
open Go
set_option maxRecDepth 100000
set_option linter.unusedVariables false
set_option linter.unusedSimpArgs false
def fillI (d : List Int) : Nat → Nat → List Int
  | 0, _ => d
  | r + 1, k => fillI (d.set (k + 1) (-1)) r (k + 1)
theorem fill_len : ∀ (r k : Nat) {d : List Int}, (fillI d r k).length = d.length
  | 0, k, d => rfl
  | r + 1, k, d => (fill_len r (k + 1)).trans (List.length_set ..)
theorem fill_at : ∀ (r k : Nat) {d : List Int} (j : Nat), k + r < d.length → (fillI d r k).getD j 0 = if k < j ∧ j ≤ k + r then -1 else d.getD j 0
  | 0, k, d, j, h => by rw [if_neg (by omega)]; rfl
  | r + 1, k, d, j, h => by
    rw [show fillI d (r + 1) k = fillI (d.set (k + 1) (-1)) r (k + 1) from rfl, fill_at r (k + 1) j (by rw [List.length_set]; omega), getD_set (by omega)]
    by_cases h1 : k + 1 < j ∧ j ≤ k + 1 + r
    · rw [if_pos h1, if_pos (by omega)]
    · rw [if_neg h1]
      by_cases h2 : j = k + 1
      · rw [if_pos h2, if_pos (by omega)]
      · rw [if_neg h2, if_neg (by omega)]
theorem fill_start {a z : Nat} (h : a ≤ z) : LD (fillI (List.replicate (z - a + 1) 0) (z - a) 0) (startW a) a z := by
  refine ⟨by rw [fill_len, List.length_replicate], fun k h1 h2 => ?_⟩
  rw [fill_at _ _ _ (by rw [List.length_replicate]; omega)]
  unfold startW
  by_cases e : k = a
  · subst e
    rw [if_neg (by omega), if_pos rfl, Nat.sub_self]
    rfl
  · rw [if_pos (by omega), if_neg e]
theorem isub_ix {a z : Nat} (h : a ≤ z) (hz : z < 1000000) : IntKind.wrap .i64 (IntKind.wrap .i64 ((z : Int) - (a : Int)) + 1) = ((z - a + 1 : Nat) : Int) := by
  rw [cut_ix h hz, next_ix (by omega)]

theorem most_fill (n : Nat) (W : ((((List (Int × (Int × Int))) × (List Int)) × Int × Int × Unit) × Unit) → Option Int) {l : List Ins} {m : List Int} {zz aa : Int} {c : Nat} (hc : c < 1000000) : ∀ (f k : Nat) {d : List Int}, d.length = c + 1 → k ≤ c → c < f + k →
    it (fun F (x : Int × Int × Int × (List (Int × (Int × Int))) × (List Int) × Int × (List Int)) => cost_counter_way_most.b0 n W F x.1 x.2.1 x.2.2.1 x.2.2.2.1 x.2.2.2.2.1 x.2.2.2.2.2.1 x.2.2.2.2.2.2) f (zz, (c : Int), (k : Int), l, m, aa, d) = some (zz, l, m, aa, fillI d (c - k) k)
  | 0, k, d, hd, hk, hf => by omega
  | f + 1, k, d, hd, hk, hf => by
    have ih := fun {d : List Int} => most_fill n W (l := l) (m := m) (zz := zz) (aa := aa) hc f (k + 1) (d := d)
    show cost_counter_way_most.b0 n W (it _ f) zz (c : Int) (k : Int) l m aa d = _
    generalize it (fun F (x : Int × Int × Int × (List (Int × (Int × Int))) × (List Int) × Int × (List Int)) => cost_counter_way_most.b0 n W F x.1 x.2.1 x.2.2.1 x.2.2.2.1 x.2.2.2.2.1 x.2.2.2.2.2.1 x.2.2.2.2.2.2) f = F at ih ⊢
    unfold cost_counter_way_most.b0
    rcases Nat.lt_or_ge k c with hlt | hge
    · rw [if_pos (decide_eq_true (by omega)), next_ix (by omega), if_pos (in_ix (by omega)), Int.toNat_natCast, ih (by rw [List.length_set, hd]) (by omega) (by omega), show c - k = (c - (k + 1)) + 1 by omega]
      rfl
    · have : k = c := by omega
      subst this
      rw [if_neg (by simp), Nat.sub_self]
      rfl
theorem most_run (n : Nat) (W : ((((List (Int × (Int × Int))) × (List Int)) × Int × Int × Unit) × Unit) → Option Int) {l : List Ins} {m h : List Int} (hF : Fine l m h) {Wp : Nat → Nat → Int} {a z : Nat} (hR : Reg l m a z) (hW : ∀ i, a ≤ i → i < z → opAt l i = 21 → W (((l, m), ((i + 1 : Nat) : Int), ((mN m i : Nat) : Int), ()), ()) = some (Wp (i + 1) (mN m i)) ∧ StepsI (Wp (i + 1) (mN m i))) : ∀ (f i : Nat) {d : List Int} {D : Nat → Int}, LD d D a z → (∀ k, StepsI (D k)) → a ≤ i → i ≤ z → z < f + i → ∃ d', LD d' (runW bM Wp l m (z - i) i D) a z ∧
    it (fun F (x : Int × Int × (List (Int × (Int × Int))) × (List Int) × Int × (List Int)) => cost_counter_way_most.b2 n W F x.1 x.2.1 x.2.2.1 x.2.2.2.1 x.2.2.2.2.1 x.2.2.2.2.2) f ((z : Int), (i : Int), l, m, (a : Int), d) = some ((z : Int), l, m, (a : Int), d')
  | 0, i, d, D, hL, hD, h1, h2, hf => by omega
  | f + 1, i, d, D, hL, hD, h1, h2, hf => by
    have ih := fun {d : List Int} {D : Nat → Int} => most_run n W hF hR hW f (i + 1) (d := d) (D := D)
    show ∃ d', _ ∧ cost_counter_way_most.b2 n W (it _ f) (z : Int) (i : Int) l m (a : Int) d = _
    generalize it (fun F (x : Int × Int × (List (Int × (Int × Int))) × (List Int) × Int × (List Int)) => cost_counter_way_most.b2 n W F x.1 x.2.1 x.2.2.1 x.2.2.2.1 x.2.2.2.2.1 x.2.2.2.2.2) f = F at ih ⊢
    obtain ⟨l1, l2⟩ := hF.len
    have hlt := hR.lt
    unfold cost_counter_way_most.b2
    rcases Nat.lt_or_ge i z with hiz | hge
    · obtain ⟨d1, k1, k2⟩ := most_j1 n W hF hR h1 hiz (hW i h1 hiz) hL hD (z : Int)
      rw [if_pos (decide_eq_true (by omega)), k2, Option.bind_some]
      simp only
      rw [next_ix (by omega), show z - i = (z - (i + 1)) + 1 by omega]
      exact ih k1 (stepW_ok bM_bet hD (hF.right (by omega)) fun h => (hW i h1 hiz h).2) (by omega) (by omega) (by omega)
    · have : i = z := by omega
      subst this
      rw [if_neg (by simp), Nat.sub_self]
      exact ⟨d, hL, rfl⟩
theorem most_s (n : Nat) (W : ((((List (Int × (Int × Int))) × (List Int)) × Int × Int × Unit) × Unit) → Option Int) {l : List Ins} {m h : List Int} (hF : Fine l m h) (hn : l.length < n) {Wp : Nat → Nat → Int} {a z : Nat} (hR : Reg l m a z) (hW : ∀ i, a ≤ i → i < z → opAt l i = 21 → W (((l, m), ((i + 1 : Nat) : Int), ((mN m i : Nat) : Int), ()), ()) = some (Wp (i + 1) (mN m i)) ∧ StepsI (Wp (i + 1) (mN m i))) :
    cost_counter_way_most.s n W (l, m) (a : Int) (z : Int) = some (runW bM Wp l m (z - a) a (startW a) z) := by
  obtain ⟨l1, l2⟩ := hF.len
  have hle := hR.le
  have hlt := hR.lt
  unfold cost_counter_way_most.s cost_counter_way_most.b0.l cost_counter_way_most.b2.l
  have c1 : (decide (0 ≤ ((z - a + 1 : Nat) : Int)) && (((z - a + 1 : Nat) : Int) == ((z - a + 1 : Nat) : Int)) && decide (((z - a + 1 : Nat) : Int) * (8 : Int) ≤ 140737488355328) && decide (1 ≤ 8)) = true := by simp; omega
  have c2 : (decide (0 ≤ 1) && decide (1 ≤ ((z - a + 1 : Nat) : Int))) = true := by simp; omega
  simp only [isub_ix hle (show z < 1000000 by omega), Int.toNat_natCast, List.length_replicate, Nat.add_sub_cancel]
  have h0 := most_fill n W (l := l) (m := m) (zz := (z : Int)) (aa := (a : Int)) (c := z - a) (by omega) n 0 (d := List.replicate (z - a + 1) 0) (by rw [List.length_replicate]) (Nat.zero_le _) (by omega)
  rw [show ((0 : Nat) : Int) = 0 from rfl, Nat.sub_zero] at h0
  obtain ⟨d', k1, k2⟩ := most_run n W hF hR hW n a (fill_start hle) (startW_ok a) (Nat.le_refl _) hle (by omega)
  rw [if_pos c1, if_pos c2, h0, Option.bind_some]
  simp only
  rw [k2, Option.bind_some]
  simp only [cut_ix hle (show z < 1000000 by omega), Int.toNat_natCast]
  rw [if_pos (in_ix (by rw [k1.len]; omega)), k1.at_ z hle (Nat.le_refl _)]
theorem most_it (n : Nat) {l : List Ins} {m h : List Int} (hF : Fine l m h) (hn : l.length < n) : ∀ (g : Nat) {a z : Nat}, Reg l m a z → z - a < g →
    it (fun (W : ((((List (Int × (Int × Int))) × (List Int)) × Int × Int × Unit) × Unit) → Option Int) x => cost_counter_way_most.s n W x.1.1 x.1.2.1 x.1.2.2.1) g (((l, m), (a : Int), (z : Int), ()), ()) = some (wayF bM l m g a z)
  | 0, a, z, hR, hg => by omega
  | g + 1, a, z, hR, hg => by
    have hlt := hR.lt
    have ih := fun {a z : Nat} => most_it n hF hn g (a := a) (z := z)
    show cost_counter_way_most.s n (it _ g) (l, m) (a : Int) (z : Int) = _
    refine most_s n _ hF hn hR fun i h1 h2 h3 => ?_
    have ho := isOpen_iff.2 (Or.inl (b := opAt l i = 23) h3)
    have hRi := hF.reg (show i < l.length by omega) ho
    obtain ⟨j, j1, j2, j3⟩ := hR.loop i h1 h2 ho
    have hj : mN m i = j := by unfold mN; rw [j1]; rfl
    exact ⟨ih hRi (by omega), wayF_ok bM_bet hF g hRi⟩
theorem most_is (n : Nat) {l : List Ins} {m h : List Int} (hF : Fine l m h) (hn : l.length < n) {a z : Nat} (hR : Reg l m a z) : cost_counter_way_most.f n (l, m) (a : Int) (z : Int) = some (wayF bM l m n a z) := by
  have := hR.lt
  exact most_it n hF hn n hR (by omega)

theorem least_fill (n : Nat) (W : ((((List (Int × (Int × Int))) × (List Int)) × Int × Int × Unit) × Unit) → Option Int) {l : List Ins} {m : List Int} {zz aa : Int} {c : Nat} (hc : c < 1000000) : ∀ (f k : Nat) {d : List Int}, d.length = c + 1 → k ≤ c → c < f + k →
    it (fun F (x : Int × Int × Int × (List (Int × (Int × Int))) × (List Int) × Int × (List Int)) => cost_counter_way_least.b0 n W F x.1 x.2.1 x.2.2.1 x.2.2.2.1 x.2.2.2.2.1 x.2.2.2.2.2.1 x.2.2.2.2.2.2) f (zz, (c : Int), (k : Int), l, m, aa, d) = some (zz, l, m, aa, fillI d (c - k) k)
  | 0, k, d, hd, hk, hf => by omega
  | f + 1, k, d, hd, hk, hf => by
    have ih := fun {d : List Int} => least_fill n W (l := l) (m := m) (zz := zz) (aa := aa) hc f (k + 1) (d := d)
    show cost_counter_way_least.b0 n W (it _ f) zz (c : Int) (k : Int) l m aa d = _
    generalize it (fun F (x : Int × Int × Int × (List (Int × (Int × Int))) × (List Int) × Int × (List Int)) => cost_counter_way_least.b0 n W F x.1 x.2.1 x.2.2.1 x.2.2.2.1 x.2.2.2.2.1 x.2.2.2.2.2.1 x.2.2.2.2.2.2) f = F at ih ⊢
    unfold cost_counter_way_least.b0
    rcases Nat.lt_or_ge k c with hlt | hge
    · rw [if_pos (decide_eq_true (by omega)), next_ix (by omega), if_pos (in_ix (by omega)), Int.toNat_natCast, ih (by rw [List.length_set, hd]) (by omega) (by omega), show c - k = (c - (k + 1)) + 1 by omega]
      rfl
    · have : k = c := by omega
      subst this
      rw [if_neg (by simp), Nat.sub_self]
      rfl
theorem least_run (n : Nat) (W : ((((List (Int × (Int × Int))) × (List Int)) × Int × Int × Unit) × Unit) → Option Int) {l : List Ins} {m h : List Int} (hF : Fine l m h) {Wp : Nat → Nat → Int} {a z : Nat} (hR : Reg l m a z) (hW : ∀ i, a ≤ i → i < z → opAt l i = 21 → W (((l, m), ((i + 1 : Nat) : Int), ((mN m i : Nat) : Int), ()), ()) = some (Wp (i + 1) (mN m i)) ∧ StepsI (Wp (i + 1) (mN m i))) : ∀ (f i : Nat) {d : List Int} {D : Nat → Int}, LD d D a z → (∀ k, StepsI (D k)) → a ≤ i → i ≤ z → z < f + i → ∃ d', LD d' (runW bL Wp l m (z - i) i D) a z ∧
    it (fun F (x : Int × Int × (List (Int × (Int × Int))) × (List Int) × Int × (List Int)) => cost_counter_way_least.b2 n W F x.1 x.2.1 x.2.2.1 x.2.2.2.1 x.2.2.2.2.1 x.2.2.2.2.2) f ((z : Int), (i : Int), l, m, (a : Int), d) = some ((z : Int), l, m, (a : Int), d')
  | 0, i, d, D, hL, hD, h1, h2, hf => by omega
  | f + 1, i, d, D, hL, hD, h1, h2, hf => by
    have ih := fun {d : List Int} {D : Nat → Int} => least_run n W hF hR hW f (i + 1) (d := d) (D := D)
    show ∃ d', _ ∧ cost_counter_way_least.b2 n W (it _ f) (z : Int) (i : Int) l m (a : Int) d = _
    generalize it (fun F (x : Int × Int × (List (Int × (Int × Int))) × (List Int) × Int × (List Int)) => cost_counter_way_least.b2 n W F x.1 x.2.1 x.2.2.1 x.2.2.2.1 x.2.2.2.2.1 x.2.2.2.2.2) f = F at ih ⊢
    obtain ⟨l1, l2⟩ := hF.len
    have hlt := hR.lt
    unfold cost_counter_way_least.b2
    rcases Nat.lt_or_ge i z with hiz | hge
    · obtain ⟨d1, k1, k2⟩ := least_j1 n W hF hR h1 hiz (hW i h1 hiz) hL hD (z : Int)
      rw [if_pos (decide_eq_true (by omega)), k2, Option.bind_some]
      simp only
      rw [next_ix (by omega), show z - i = (z - (i + 1)) + 1 by omega]
      exact ih k1 (stepW_ok bL_bet hD (hF.right (by omega)) fun h => (hW i h1 hiz h).2) (by omega) (by omega) (by omega)
    · have : i = z := by omega
      subst this
      rw [if_neg (by simp), Nat.sub_self]
      exact ⟨d, hL, rfl⟩
theorem least_s (n : Nat) (W : ((((List (Int × (Int × Int))) × (List Int)) × Int × Int × Unit) × Unit) → Option Int) {l : List Ins} {m h : List Int} (hF : Fine l m h) (hn : l.length < n) {Wp : Nat → Nat → Int} {a z : Nat} (hR : Reg l m a z) (hW : ∀ i, a ≤ i → i < z → opAt l i = 21 → W (((l, m), ((i + 1 : Nat) : Int), ((mN m i : Nat) : Int), ()), ()) = some (Wp (i + 1) (mN m i)) ∧ StepsI (Wp (i + 1) (mN m i))) :
    cost_counter_way_least.s n W (l, m) (a : Int) (z : Int) = some (runW bL Wp l m (z - a) a (startW a) z) := by
  obtain ⟨l1, l2⟩ := hF.len
  have hle := hR.le
  have hlt := hR.lt
  unfold cost_counter_way_least.s cost_counter_way_least.b0.l cost_counter_way_least.b2.l
  have c1 : (decide (0 ≤ ((z - a + 1 : Nat) : Int)) && (((z - a + 1 : Nat) : Int) == ((z - a + 1 : Nat) : Int)) && decide (((z - a + 1 : Nat) : Int) * (8 : Int) ≤ 140737488355328) && decide (1 ≤ 8)) = true := by simp; omega
  have c2 : (decide (0 ≤ 1) && decide (1 ≤ ((z - a + 1 : Nat) : Int))) = true := by simp; omega
  simp only [isub_ix hle (show z < 1000000 by omega), Int.toNat_natCast, List.length_replicate, Nat.add_sub_cancel]
  have h0 := least_fill n W (l := l) (m := m) (zz := (z : Int)) (aa := (a : Int)) (c := z - a) (by omega) n 0 (d := List.replicate (z - a + 1) 0) (by rw [List.length_replicate]) (Nat.zero_le _) (by omega)
  rw [show ((0 : Nat) : Int) = 0 from rfl, Nat.sub_zero] at h0
  obtain ⟨d', k1, k2⟩ := least_run n W hF hR hW n a (fill_start hle) (startW_ok a) (Nat.le_refl _) hle (by omega)
  rw [if_pos c1, if_pos c2, h0, Option.bind_some]
  simp only
  rw [k2, Option.bind_some]
  simp only [cut_ix hle (show z < 1000000 by omega), Int.toNat_natCast]
  rw [if_pos (in_ix (by rw [k1.len]; omega)), k1.at_ z hle (Nat.le_refl _)]
theorem least_it (n : Nat) {l : List Ins} {m h : List Int} (hF : Fine l m h) (hn : l.length < n) : ∀ (g : Nat) {a z : Nat}, Reg l m a z → z - a < g →
    it (fun (W : ((((List (Int × (Int × Int))) × (List Int)) × Int × Int × Unit) × Unit) → Option Int) x => cost_counter_way_least.s n W x.1.1 x.1.2.1 x.1.2.2.1) g (((l, m), (a : Int), (z : Int), ()), ()) = some (wayF bL l m g a z)
  | 0, a, z, hR, hg => by omega
  | g + 1, a, z, hR, hg => by
    have hlt := hR.lt
    have ih := fun {a z : Nat} => least_it n hF hn g (a := a) (z := z)
    show cost_counter_way_least.s n (it _ g) (l, m) (a : Int) (z : Int) = _
    refine least_s n _ hF hn hR fun i h1 h2 h3 => ?_
    have ho := isOpen_iff.2 (Or.inl (b := opAt l i = 23) h3)
    have hRi := hF.reg (show i < l.length by omega) ho
    obtain ⟨j, j1, j2, j3⟩ := hR.loop i h1 h2 ho
    have hj : mN m i = j := by unfold mN; rw [j1]; rfl
    exact ⟨ih hRi (by omega), wayF_ok bL_bet hF g hRi⟩
theorem least_is (n : Nat) {l : List Ins} {m h : List Int} (hF : Fine l m h) (hn : l.length < n) {a z : Nat} (hR : Reg l m a z) : cost_counter_way_least.f n (l, m) (a : Int) (z : Int) = some (wayF bL l m n a z) := by
  have := hR.lt
  exact least_it n hF hn n hR (by omega)

theorem sect_fill (n : Nat) (W : ((((List (Int × (Int × Int))) × (List Int)) × Int × Int × Unit) × Unit) → Option Int) {l : List Ins} {m : List Int} {zz aa : Int} {c : Nat} (hc : c < 1000000) : ∀ (f k : Nat) {d : List Int}, d.length = c + 1 → k ≤ c → c < f + k →
    it (fun F (x : Int × Int × Int × (List (Int × (Int × Int))) × (List Int) × Int × (List Int)) => cost_counter_way_1.b0 n W F x.1 x.2.1 x.2.2.1 x.2.2.2.1 x.2.2.2.2.1 x.2.2.2.2.2.1 x.2.2.2.2.2.2) f (zz, (c : Int), (k : Int), l, m, aa, d) = some (zz, l, m, aa, fillI d (c - k) k)
  | 0, k, d, hd, hk, hf => by omega
  | f + 1, k, d, hd, hk, hf => by
    have ih := fun {d : List Int} => sect_fill n W (l := l) (m := m) (zz := zz) (aa := aa) hc f (k + 1) (d := d)
    show cost_counter_way_1.b0 n W (it _ f) zz (c : Int) (k : Int) l m aa d = _
    generalize it (fun F (x : Int × Int × Int × (List (Int × (Int × Int))) × (List Int) × Int × (List Int)) => cost_counter_way_1.b0 n W F x.1 x.2.1 x.2.2.1 x.2.2.2.1 x.2.2.2.2.1 x.2.2.2.2.2.1 x.2.2.2.2.2.2) f = F at ih ⊢
    unfold cost_counter_way_1.b0
    rcases Nat.lt_or_ge k c with hlt | hge
    · rw [if_pos (decide_eq_true (by omega)), next_ix (by omega), if_pos (in_ix (by omega)), Int.toNat_natCast, ih (by rw [List.length_set, hd]) (by omega) (by omega), show c - k = (c - (k + 1)) + 1 by omega]
      rfl
    · have : k = c := by omega
      subst this
      rw [if_neg (by simp), Nat.sub_self]
      rfl
theorem sect_run (n : Nat) (W : ((((List (Int × (Int × Int))) × (List Int)) × Int × Int × Unit) × Unit) → Option Int) {l : List Ins} {m h : List Int} (hF : Fine l m h) {Wp : Nat → Nat → Int} {a z : Nat} (hR : Reg l m a z) (hW : ∀ i, a ≤ i → i < z → opAt l i = 21 → W (((l, m), ((i + 1 : Nat) : Int), ((mN m i : Nat) : Int), ()), ()) = some (Wp (i + 1) (mN m i)) ∧ StepsI (Wp (i + 1) (mN m i))) : ∀ (f i : Nat) {d : List Int} {D : Nat → Int}, LD d D a z → (∀ k, StepsI (D k)) → a ≤ i → i ≤ z → z < f + i → ∃ d', LD d' (runW bM Wp l m (z - i) i D) a z ∧
    it (fun F (x : Int × Int × (List (Int × (Int × Int))) × (List Int) × Int × (List Int)) => cost_counter_way_1.b2 n W F x.1 x.2.1 x.2.2.1 x.2.2.2.1 x.2.2.2.2.1 x.2.2.2.2.2) f ((z : Int), (i : Int), l, m, (a : Int), d) = some ((z : Int), l, m, (a : Int), d')
  | 0, i, d, D, hL, hD, h1, h2, hf => by omega
  | f + 1, i, d, D, hL, hD, h1, h2, hf => by
    have ih := fun {d : List Int} {D : Nat → Int} => sect_run n W hF hR hW f (i + 1) (d := d) (D := D)
    show ∃ d', _ ∧ cost_counter_way_1.b2 n W (it _ f) (z : Int) (i : Int) l m (a : Int) d = _
    generalize it (fun F (x : Int × Int × (List (Int × (Int × Int))) × (List Int) × Int × (List Int)) => cost_counter_way_1.b2 n W F x.1 x.2.1 x.2.2.1 x.2.2.2.1 x.2.2.2.2.1 x.2.2.2.2.2) f = F at ih ⊢
    obtain ⟨l1, l2⟩ := hF.len
    have hlt := hR.lt
    unfold cost_counter_way_1.b2
    rcases Nat.lt_or_ge i z with hiz | hge
    · obtain ⟨d1, k1, k2⟩ := sect_j1 n W hF hR h1 hiz (hW i h1 hiz) hL hD (z : Int)
      rw [if_pos (decide_eq_true (by omega)), k2, Option.bind_some]
      simp only
      rw [next_ix (by omega), show z - i = (z - (i + 1)) + 1 by omega]
      exact ih k1 (stepW_ok bM_bet hD (hF.right (by omega)) fun h => (hW i h1 hiz h).2) (by omega) (by omega) (by omega)
    · have : i = z := by omega
      subst this
      rw [if_neg (by simp), Nat.sub_self]
      exact ⟨d, hL, rfl⟩
theorem sect_s (n : Nat) (W : ((((List (Int × (Int × Int))) × (List Int)) × Int × Int × Unit) × Unit) → Option Int) {l : List Ins} {m h : List Int} (hF : Fine l m h) (hn : l.length < n) {Wp : Nat → Nat → Int} {a z : Nat} (hR : Reg l m a z) (hW : ∀ i, a ≤ i → i < z → opAt l i = 21 → W (((l, m), ((i + 1 : Nat) : Int), ((mN m i : Nat) : Int), ()), ()) = some (Wp (i + 1) (mN m i)) ∧ StepsI (Wp (i + 1) (mN m i))) :
    cost_counter_way_1.s n W (l, m) (a : Int) (z : Int) = some (runW bM Wp l m (z - a) a (startW a) z) := by
  obtain ⟨l1, l2⟩ := hF.len
  have hle := hR.le
  have hlt := hR.lt
  unfold cost_counter_way_1.s cost_counter_way_1.b0.l cost_counter_way_1.b2.l
  have c1 : (decide (0 ≤ ((z - a + 1 : Nat) : Int)) && (((z - a + 1 : Nat) : Int) == ((z - a + 1 : Nat) : Int)) && decide (((z - a + 1 : Nat) : Int) * (8 : Int) ≤ 140737488355328) && decide (1 ≤ 8)) = true := by simp; omega
  have c2 : (decide (0 ≤ 1) && decide (1 ≤ ((z - a + 1 : Nat) : Int))) = true := by simp; omega
  simp only [isub_ix hle (show z < 1000000 by omega), Int.toNat_natCast, List.length_replicate, Nat.add_sub_cancel]
  have h0 := sect_fill n W (l := l) (m := m) (zz := (z : Int)) (aa := (a : Int)) (c := z - a) (by omega) n 0 (d := List.replicate (z - a + 1) 0) (by rw [List.length_replicate]) (Nat.zero_le _) (by omega)
  rw [show ((0 : Nat) : Int) = 0 from rfl, Nat.sub_zero] at h0
  obtain ⟨d', k1, k2⟩ := sect_run n W hF hR hW n a (fill_start hle) (startW_ok a) (Nat.le_refl _) hle (by omega)
  rw [if_pos c1, if_pos c2, h0, Option.bind_some]
  simp only
  rw [k2, Option.bind_some]
  simp only [cut_ix hle (show z < 1000000 by omega), Int.toNat_natCast]
  rw [if_pos (in_ix (by rw [k1.len]; omega)), k1.at_ z hle (Nat.le_refl _)]
theorem sect_it (n : Nat) {l : List Ins} {m h : List Int} (hF : Fine l m h) (hn : l.length < n) : ∀ (g : Nat) {a z : Nat}, Reg l m a z → z - a < g →
    it (fun (W : ((((List (Int × (Int × Int))) × (List Int)) × Int × Int × Unit) × Unit) → Option Int) x => cost_counter_way_1.s n W x.1.1 x.1.2.1 x.1.2.2.1) g (((l, m), (a : Int), (z : Int), ()), ()) = some (wayF bM l m g a z)
  | 0, a, z, hR, hg => by omega
  | g + 1, a, z, hR, hg => by
    have hlt := hR.lt
    have ih := fun {a z : Nat} => sect_it n hF hn g (a := a) (z := z)
    show cost_counter_way_1.s n (it _ g) (l, m) (a : Int) (z : Int) = _
    refine sect_s n _ hF hn hR fun i h1 h2 h3 => ?_
    have ho := isOpen_iff.2 (Or.inl (b := opAt l i = 23) h3)
    have hRi := hF.reg (show i < l.length by omega) ho
    obtain ⟨j, j1, j2, j3⟩ := hR.loop i h1 h2 ho
    have hj : mN m i = j := by unfold mN; rw [j1]; rfl
    exact ⟨ih hRi (by omega), wayF_ok bM_bet hF g hRi⟩
theorem sect_is (n : Nat) {l : List Ins} {m h : List Int} (hF : Fine l m h) (hn : l.length < n) {a z : Nat} (hR : Reg l m a z) : cost_counter_way_1.f n (l, m) (a : Int) (z : Int) = some (wayF bM l m n a z) := by
  have := hR.lt
  exact sect_it n hF hn n hR (by omega)
end Go.Proofs.Dk

/- Plain: each instruction can be reached. -/
namespace Go.Proofs.Dk
open Go
set_option maxRecDepth 100000
set_option linter.unusedVariables false
set_option linter.unusedSimpArgs false
theorem least_of {P : Nat → Prop} : ∀ {n : Nat}, P n → ∃ k, k ≤ n ∧ P k ∧ ∀ j, j < k → ¬ P j := by
  intro n
  induction n using Nat.strongRecOn with
  | _ n ih =>
    intro hn
    by_cases h : ∃ j, j < n ∧ P j
    · obtain ⟨j, j1, j2⟩ := h
      obtain ⟨k, k1, k2, k3⟩ := ih j j1 j2
      exact ⟨k, by omega, k2, k3⟩
    · exact ⟨n, Nat.le_refl _, hn, fun j hj hp => h ⟨j, hj, hp⟩⟩
theorem set_true {s : List Bool} {q k : Nat} (h : (s.set q true).getD k false = true) : s.getD k false = true ∨ k = q := by
  by_cases e : k = q
  · exact .inr e
  · refine .inl ?_
    rw [List.getD_eq_getElem?_getD, List.getElem?_set_ne (fun h => e h.symm)] at h
    rw [List.getD_eq_getElem?_getD]
    exact h
theorem hands_some {t : ByteArray} : ∀ (ks : List Nat) {f : Flow} {k : Nat}, (ks.foldl (fun g q => handI q t g) f).2.1.getD k false = true → f.2.1.getD k false = true ∨ k ∈ ks
  | [], f, k, h => .inl h
  | q :: ks, f, k, h => by
    rcases hands_some ks h with h1 | h1
    · rcases set_true h1 with h2 | h2
      · exact .inl h2
      · exact .inr (by rw [h2]; exact List.mem_cons_self)
    · exact .inr (List.mem_cons_of_mem _ h1)
theorem flowStep_some {l : List Ins} {m : List Int} {i : Nat} {f f' : Flow} (hs : flowStep l m i f = .inr f') : f.2.1.getD i false = true ∧ ∀ k, f'.2.1.getD k false = true → f.2.1.getD k false = true ∨ k ∈ nextsI l i := by
  unfold flowStep at hs
  split at hs
  · cases hs
  · rename_i h1
    refine ⟨by simpa using h1, fun k hk => ?_⟩
    split at hs
    · cases hs
    · split at hs
      · cases hs
      · split at hs
        · cases hs
        · cases hs
          exact hands_some _ hk
theorem stacks_reach {l : List Ins} {m : List Int} : ∀ (r i : Nat) {f f' : Flow}, stacksS l m r i f = .inr f' → (∀ k, f.2.1.getD k false = true → k = 0 ∨ ∃ p, p < i ∧ k ∈ nextsI l p) → ∀ k, i ≤ k → k < i + r → k = 0 ∨ ∃ p, p < k ∧ k ∈ nextsI l p
  | 0, i, f, f', hs, hI, k, h1, h2 => by omega
  | r + 1, i, f, f', hs, hI, k, h1, h2 => by
    simp only [stacksS] at hs
    cases hq : flowStep l m i f with
    | inl e => rw [hq] at hs; cases hs
    | inr f1 =>
      rw [hq] at hs
      obtain ⟨a1, a2⟩ := flowStep_some hq
      by_cases e : k = i
      · subst e
        exact hI k a1
      · refine stacks_reach r (i + 1) hs (fun k hk => ?_) k (by omega) (by omega)
        rcases a2 k hk with h3 | h3
        · rcases hI k h3 with h4 | ⟨p, p1, p2⟩
          · exact .inl h4
          · exact .inr ⟨p, by omega, p2⟩
        · exact .inr ⟨i, by omega, h3⟩
/-- Each instruction but the first one comes behind another one. -/
def Come (l : List Ins) : Prop := ∀ k, 0 < k → k < l.length → ∃ p, p < k ∧ k ∈ nextsI l p
theorem come_is {l : List Ins} (h : stacksI l = 0) : wholeI l = 0 ∧ Come l := by
  unfold stacksI at h
  split at h
  · rename_i hw
    exact absurd h hw
  · rename_i hw
    have hw0 : wholeI l = 0 := by
      by_cases e : wholeI l = 0
      · exact e
      · exact absurd e hw
    refine ⟨hw0, fun k k1 k2 => ?_⟩
    cases hq : stacksS l (scanI l).1 l.length 0 (flow0 l) with
    | inl e =>
      rw [hq] at h
      simp only at h
      subst h
      exfalso
      have key : ∀ (r i : Nat) {f : Flow}, stacksS l (scanI l).1 r i f ≠ .inl 0 := by
        intro r
        induction r with
        | zero => intro i f h; cases h
        | succ r ih =>
          intro i f h
          simp only [stacksS] at h
          cases hq : flowStep l (scanI l).1 i f with
          | inr f1 => rw [hq] at h; exact ih (i + 1) h
          | inl e =>
            rw [hq] at h
            cases h
            unfold flowStep at hq
            split at hq
            · cases hq
            · split at hq
              · cases hq
              · split at hq
                · cases hq
                · split at hq
                  · rename_i h5
                    exact h5 (Sum.inl.inj hq)
                  · cases hq
      exact key _ _ hq
    | inr f' =>
      have hI : ∀ k, (flow0 l).2.1.getD k false = true → k = 0 ∨ ∃ p, p < 0 ∧ k ∈ nextsI l p := fun k hk => by
        left
        unfold flow0 at hk
        rcases set_true hk with h2 | h2
        · rw [List.getD_eq_getElem?_getD, List.getElem?_replicate] at h2
          split at h2 <;> cases h2
        · exact h2
      rcases stacks_reach l.length 0 hq hI k (Nat.zero_le _) (by omega) with h1 | h1
      · omega
      · exact h1
theorem Fine.jump_enc {l : List Ins} {m h : List Int} (hF : Fine l m h) {i : Nat} (hi : i < l.length) (hj : opAt l i = 19 ∨ opAt l i = 20) (q : Nat) : enc l m q (jumpTo l i) = enc l m q i := by
  obtain ⟨k1, k2⟩ := hF.jump hi hj
  rcases home_cases l m i with hh | ⟨p, hh⟩
  · rw [enc_none hh q, enc_none (k2.trans hh) q]
  · obtain ⟨_, _, x3⟩ := enc_home hF.nest hi hh
    obtain ⟨_, _, y3⟩ := enc_home hF.nest k1 (k2.trans hh)
    rw [x3 q, y3 q]
theorem enc_iff {l : List Ins} {m : List Int} {q k j : Nat} (ho : isOpen l q = true) (hj : m.getD q 0 = (j : Int)) : enc l m q k = true ↔ q < k ∧ k ≤ j := by
  unfold enc
  rw [ho, hj]
  simp
/-- In a way: not in a loop that stands in it. -/
def RIn (l : List Ins) (m : List Int) (a z k : Nat) : Prop := a ≤ k ∧ k ≤ z ∧ ∀ q, a ≤ q → q < k → opAt l q = 21 → mN m q < k
/-- A way that is a block's, or all. -/
structure Way (l : List Ins) (m : List Int) (a z : Nat) : Prop where
  reg : Reg l m a z
  out : a = 0 ∨ ∃ p, a = p + 1 ∧ isOpen l p = true ∧ m.getD p 0 = (z : Int)
theorem Fine.way {l : List Ins} {m h : List Int} (hF : Fine l m h) {p : Nat} (hp : p < l.length) (ho : isOpen l p = true) : Way l m (p + 1) (mN m p) := by
  refine ⟨hF.reg hp ho, .inr ⟨p, rfl, ho, ?_⟩⟩
  obtain ⟨j, j1, _⟩ := hF.nest.open_ p hp ho
  unfold mN
  rw [j1]
  rfl
theorem Fine.wayAll {l : List Ins} {m h : List Int} (hF : Fine l m h) : Way l m 0 (l.length - 1) := ⟨hF.all, .inl rfl⟩
theorem pred_in {l : List Ins} {m h : List Int} (hF : Fine l m h) (hS : Come l) {a z : Nat} (hR : Way l m a z) {k : Nat} (hk : RIn l m a z k) (hak : a < k) : ∃ p, RIn l m a z p ∧ p < k ∧ k ∈ hopsI l m p := by
  obtain ⟨k1, k2, k3⟩ := hk
  have hlt := hR.reg.lt
  obtain ⟨p, p1, p2⟩ := hS k (by omega) (by omega)
  have hpl : p < l.length := by omega
  have hcase : k = p + 1 ∨ ((opAt l p = 19 ∨ opAt l p = 20) ∧ k = jumpTo l p) := by
    unfold nextsI at p2
    split at p2
    · rename_i h1
      rw [List.mem_singleton] at p2
      exact .inr ⟨.inl h1, p2⟩
    · split at p2
      · rename_i h1 h2
        rw [List.mem_cons, List.mem_singleton] at p2
        rcases p2 with h3 | h3
        · exact .inl h3
        · exact .inr ⟨.inr h2, h3⟩
      · split at p2
        · cases p2
        · rw [List.mem_singleton] at p2
          exact .inl p2
  have hap : a ≤ p := by
    rcases hcase with h1 | ⟨h1, h2⟩
    · omega
    · rcases hR.out with h3 | ⟨o, o1, o2, o3⟩
      · omega
      · rcases Nat.lt_or_ge p a with h4 | h4
        · exfalso
          have e1 : enc l m o k = true := (enc_iff o2 o3).2 ⟨by omega, k2⟩
          rw [h2, hF.jump_enc hpl h1, enc_iff o2 o3] at e1
          omega
        · exact h4
  by_cases hin : RIn l m a z p
  · refine ⟨p, hin, p1, ?_⟩
    unfold nextsI at p2
    unfold hopsI
    by_cases h21 : opAt l p = 21
    · exfalso
      have hkp : k = p + 1 := by
        rcases hcase with h1 | ⟨h1, _⟩
        · exact h1
        · omega
      have := k3 p hap (by omega) h21
      obtain ⟨j, j1, j2, j3⟩ := hF.nest.open_ p hpl (isOpen_iff.2 (.inl h21))
      unfold mN at this
      rw [j1] at this
      have e : ((j : Int)).toNat = j := rfl
      omega
    · rw [if_neg h21]
      by_cases h19 : opAt l p = 19
      · rw [if_pos h19] at p2 ⊢
        exact p2
      · rw [if_neg h19] at p2 ⊢
        by_cases h20 : opAt l p = 20
        · rw [if_pos h20] at p2 ⊢
          rw [List.mem_cons, List.mem_singleton] at p2 ⊢
          exact p2.symm
        · rw [if_neg h20] at p2 ⊢
          split at p2
          · cases p2
          · exact p2
  · have : ∃ q, a ≤ q ∧ q < p ∧ opAt l q = 21 ∧ p ≤ mN m q := by
      apply Classical.byContradiction
      intro hno
      refine hin ⟨hap, by omega, fun q q1 q2 q3 => ?_⟩
      rcases Nat.lt_or_ge (mN m q) p with h1 | h1
      · exact h1
      · exact absurd ⟨q, q1, q2, q3, h1⟩ hno
    obtain ⟨q0, hq0⟩ := this
    obtain ⟨q, q1, ⟨q2, q3, q4, q5⟩, q6⟩ := least_of (P := fun q => a ≤ q ∧ q < p ∧ opAt l q = 21 ∧ p ≤ mN m q) hq0
    have hqo : isOpen l q = true := isOpen_iff.2 (.inl q4)
    obtain ⟨j, j1, j2, j3⟩ := hF.nest.open_ q (by omega) hqo
    have hj : mN m q = j := by unfold mN; rw [j1]; rfl
    rw [hj] at q5
    have hqk := k3 q q2 (by omega) q4
    rw [hj] at hqk
    refine ⟨q, ⟨q2, by omega, fun q' a1 a2 a3 => ?_⟩, by omega, ?_⟩
    · rcases Nat.lt_or_ge (mN m q') q with h1 | h1
      · exact h1
      · exfalso
        have ho' : isOpen l q' = true := isOpen_iff.2 (.inl a3)
        obtain ⟨j', e1, e2, e3, e4, e5⟩ := hF.closed.op_ q' (by omega) ho'
        have hj' : mN m q' = j' := by unfold mN; rw [e1]; rfl
        rw [hj'] at h1
        have hne : j' ≠ q := fun e => by
          subst e
          rw [close_not e4] at hqo
          cases hqo
        obtain ⟨x, x1, x2⟩ := hF.nest.cross q' q j' a2 (by omega) (by omega) ho' hqo e1
        have : (x : Int) = (j : Int) := x1.symm.trans j1
        exact q6 q' a2 ⟨a1, by omega, a3, by rw [hj']; omega⟩
    · rcases hcase with h1 | ⟨h1, h2⟩
      · unfold hopsI
        rw [if_pos q4, hj, List.mem_singleton]
        omega
      · exfalso
        have e1 : enc l m q p = true := (enc_iff hqo j1).2 ⟨q3, q5⟩
        rw [← hF.jump_enc hpl h1, ← h2, enc_iff hqo j1] at e1
        omega
theorem puts_some {b : Int → Int → Int} (hb : Bet b) {v : Int} (hv : v ≠ -1) : ∀ (ks : List Nat) {D : Nat → Int} {k : Nat}, D k ≠ -1 ∨ k ∈ ks → ks.foldl (fun g k => putI b g k v) D k ≠ -1
  | [], D, k, h => h.elim id fun h => by cases h
  | q :: ks, D, k, h => by
    refine puts_some hb hv ks (D := putI b D q v) ?_
    unfold putI
    by_cases e : k = q
    · left
      rw [if_pos e]
      split
      · exact hv
      · rename_i h1
        rcases hb (D q) v with h2 | h2 <;> rw [h2]
        · exact h1
        · exact hv
    · rw [if_neg e]
      rcases h with h | h
      · exact .inl h
      · rcases List.mem_cons.1 h with h | h
        · exact absurd h e
        · exact .inr h
theorem run_reach {b : Int → Int → Int} (hb : Bet b) {W : Nat → Nat → Int} {l : List Ins} {m h : List Int} (hF : Fine l m h) (hS : Come l) {a z : Nat} (hR : Way l m a z) (hW : ∀ i, a ≤ i → i < z → opAt l i = 21 → StepsI (W (i + 1) (mN m i))) : ∀ (r i : Nat) {D : Nat → Int}, (∀ k, StepsI (D k)) → a ≤ i → i + r = z → (∀ k, RIn l m a z k → k = a ∨ (∃ p, RIn l m a z p ∧ p < i ∧ k ∈ hopsI l m p) → D k ≠ -1) → ∀ k, RIn l m a z k → runW b W l m r i D k ≠ -1
  | 0, i, D, hD, hi, hz, hI, k, hk => by
    refine hI k hk ?_
    by_cases e : k = a
    · exact .inl e
    · obtain ⟨p, p1, p2, p3⟩ := pred_in hF hS hR hk (by have := hk.1; omega)
      exact .inr ⟨p, p1, by have := hk.2.1; omega, p3⟩
  | r + 1, i, D, hD, hi, hz, hI, k, hk => by
    have hlt := hR.reg.lt
    have hWi := hW i hi (by omega)
    have hr := hF.right (show i < l.length by omega)
    refine run_reach hb hF hS hR hW r (i + 1) (stepW_ok hb hD hr hWi) (by omega) (by omega) (fun j hj hp => ?_) k hk
    have old : D j ≠ -1 → stepW b W l m i D j ≠ -1 := fun h => by
      unfold stepW
      split
      · exact h
      · rename_i h1
        have hDi : 0 ≤ D i := by
          rcases hD i with h2 | h2
          · exact absurd h2 h1
          · exact h2.1
        have := addI_ok hDi (costI_ok hr hWi).1
        exact puts_some hb (by omega) _ (.inl h)
    rcases hp with h1 | ⟨p, p1, p2, p3⟩
    · exact old (hI j hj (.inl h1))
    · by_cases e : p = i
      · subst e
        have hDp : D p ≠ -1 := by
          refine hI p p1 ?_
          by_cases e : p = a
          · exact .inl e
          · obtain ⟨p', a1, a2, a3⟩ := pred_in hF hS hR p1 (by omega)
            exact .inr ⟨p', a1, a2, a3⟩
        have hDp0 : 0 ≤ D p := by
          rcases hD p with h2 | h2
          · exact absurd h2 hDp
          · exact h2.1
        unfold stepW
        rw [if_neg hDp]
        have := addI_ok hDp0 (costI_ok hr hWi).1
        exact puts_some hb (by omega) _ (.inr p3)
      · exact old (hI j hj (.inr ⟨p, p1, by omega, p3⟩))
theorem Way.end_in {l : List Ins} {m h : List Int} {a z : Nat} (hR : Way l m a z) : RIn l m a z z := by
  refine ⟨hR.reg.le, Nat.le_refl _, fun q h1 h2 h3 => ?_⟩
  obtain ⟨j, j1, j2, j3⟩ := hR.reg.loop q h1 h2 (isOpen_iff.2 (.inl h3))
  unfold mN
  rw [j1]
  exact j3
theorem way_reach {b : Int → Int → Int} (hb : Bet b) {l : List Ins} {m h : List Int} (hF : Fine l m h) (hS : Come l) (f : Nat) {a z : Nat} (hR : Way l m a z) : 0 ≤ wayF b l m f a z ∧ wayF b l m f a z ≤ 1048577 := by
  have h0 := wayF_ok hb hF f hR.reg
  have hlt := hR.reg.lt
  have hle := hR.reg.le
  cases f with
  | zero => exact ⟨Int.le_refl _, by show (0 : Int) ≤ 1048577; decide⟩
  | succ f =>
    have h1 : wayF b l m (f + 1) a z ≠ -1 := by
      refine run_reach hb hF hS hR (fun i i1 i2 i3 => wayF_ok hb hF f (hF.reg (by omega) (isOpen_iff.2 (.inl i3)))) (z - a) a (startW_ok a) (Nat.le_refl _) (by omega) (fun k hk hp => ?_) z (Way.end_in (h := h) hR)
      rcases hp with e | ⟨p, p1, p2, _⟩
      · subst e
        unfold startW
        rw [if_pos rfl]
        decide
      · have := p1.1
        omega
    rcases h0 with h2 | h2
    · exact absurd h2 h1
    · exact h2
end Go.Proofs.Dk

/- Plain: the steps of ways, as the document says. -/
namespace Go.Proofs.Dk
open Go
set_option maxRecDepth 100000
set_option linter.unusedVariables false
set_option linter.unusedSimpArgs false
def bI (most : Bool) : Int → Int → Int := if most then bM else bL
theorem bI_bet (most : Bool) : Bet (bI most) := by
  unfold bI
  cases most
  · exact bL_bet
  · exact bM_bet
theorem putI_comm (b : Int → Int → Int) (D : Nat → Int) (q k : Nat) (v : Int) : putI b (putI b D q v) k v = putI b (putI b D k v) q v := by
  by_cases e : q = k
  · subst e; rfl
  · have e2 : ¬ k = q := fun h => e h.symm
    funext j
    unfold putI
    by_cases h1 : j = k
    · subst h1
      simp only [if_true, e2, e, if_false]
    · by_cases h2 : j = q
      · subst h2
        simp only [h1, if_true, if_false]
      · simp only [h1, h2, if_false]
def hopsR (l : List Ins) (m : List Int) (i : Nat) : List Nat := if opAt l i = 19 then [jumpTo l i] else if opAt l i = 20 then [i + 1, jumpTo l i] else if opAt l i = 21 then [mN m i + 1] else [i + 1]
theorem hopsR_eq (b : Int → Int → Int) (l : List Ins) (m : List Int) (i : Nat) (D : Nat → Int) (v : Int) : (hopsR l m i).foldl (fun g k => putI b g k v) D = (hopsI l m i).foldl (fun g k => putI b g k v) D := by
  unfold hopsR hopsI
  by_cases h19 : opAt l i = 19
  · rw [if_pos h19, if_neg (by omega), if_pos h19]
  · by_cases h20 : opAt l i = 20
    · rw [if_neg h19, if_pos h20, if_neg (by omega), if_neg h19, if_pos h20]
      exact putI_comm b D (i + 1) (jumpTo l i) v
    · by_cases h21 : opAt l i = 21
      · rw [if_neg h19, if_neg h20, if_pos h21, if_pos h21]
      · rw [if_neg h19, if_neg h20, if_neg h21, if_neg h21, if_neg h19, if_neg h20]
theorem hopsR_len (l : List Ins) (m : List Int) (i : Nat) : (hopsR l m i).length ≤ 2 := by
  unfold hopsR
  split
  · simp
  · split
    · simp
    · split <;> simp
theorem hopsR_in {l : List Ins} {m : List Int} {a z i : Nat} (hR : Reg l m a z) (h1 : a ≤ i) (h2 : i < z) : ∀ q ∈ hopsR l m i, i < q ∧ q ≤ z := by
  intro q hq
  unfold hopsR at hq
  split at hq
  · rename_i h
    rw [List.mem_singleton] at hq
    subst hq
    exact ⟨by unfold jumpTo; omega, hR.jump i h1 h2 (.inl h)⟩
  · split at hq
    · rename_i h
      rw [List.mem_cons, List.mem_singleton] at hq
      rcases hq with rfl | rfl
      · exact ⟨by omega, by omega⟩
      · exact ⟨by unfold jumpTo; omega, hR.jump i h1 h2 (.inr h)⟩
    · split at hq
      · rename_i h
        rw [List.mem_singleton] at hq
        obtain ⟨j, j1, j2, j3⟩ := hR.loop i h1 h2 (isOpen_iff.2 (.inl h))
        have hj : mN m i = j := by unfold mN; rw [j1]; rfl
        subst hq
        rw [hj]
        exact ⟨by omega, by omega⟩
      · rw [List.mem_singleton] at hq
        subst hq
        exact ⟨by omega, by omega⟩
structure LQ (d : List Int) (s : List Bool) (D : Nat → Int) (a z : Nat) : Prop where
  dl : d.length = z - a + 1
  sl : s.length = z - a + 1
  at_ : ∀ k, a ≤ k → k ≤ z → d.getD (k - a) 0 = (if D k = -1 then 0 else D k) ∧ s.getD (k - a) false = (D k != -1)
theorem getD_setB {l : List Bool} {i j : Nat} {v d : Bool} (h : i < l.length) : (l.set i v).getD j d = if j = i then v else l.getD j d := getD_set h
theorem LQ.put {d : List Int} {s : List Bool} {D : Nat → Int} {a z : Nat} (h : LQ d s D a z) (b : Int → Int → Int) {k : Nat} (hk : a ≤ k) (hk2 : k ≤ z) {v x : Int} (hx : x = if D k = -1 then v else b (D k) v) (hx0 : x ≠ -1) : LQ (d.set (k - a) x) (s.set (k - a) true) (putI b D k v) a z := by
  have h1 := h.dl
  have h2 := h.sl
  refine ⟨by rw [List.length_set, h1], by rw [List.length_set, h2], fun j j1 j2 => ?_⟩
  rw [getD_set (by omega), getD_setB (by omega)]
  unfold putI
  by_cases e : j = k
  · subst e
    rw [if_pos rfl, if_pos rfl, if_pos rfl, ← hx, if_neg hx0]
    exact ⟨rfl, (bne_iff_ne.2 hx0).symm⟩
  · have e3 : ¬ (j - a = k - a) := by omega
    simp only [e3, e, if_false]
    exact h.at_ j j1 j2
theorem LQ.same {d : List Int} {s : List Bool} {D : Nat → Int} {a z : Nat} (h : LQ d s D a z) (b : Int → Int → Int) {k : Nat} {v : Int} (h1 : D k ≠ -1) (h2 : b (D k) v = D k) : LQ d s (putI b D k v) a z := by
  refine ⟨h.dl, h.sl, fun j j1 j2 => ?_⟩
  unfold putI
  by_cases e : j = k
  · subst e
    rw [if_pos rfl, if_neg h1, h2]
    exact h.at_ j j1 j2
  · rw [if_neg e]
    exact h.at_ j j1 j2
abbrev WR := (((List (Int × (Int × Int))) × (List Int) × Int × Int × Bool × Unit) × Unit) → Option Int
theorem cut_is (n : Nat) (x : Int) : camshaftref09_cut.f n x = some (if 1048577 < x then 1048577 else x) := rfl
theorem ref_j0w (n : Nat) (W : WR) {l : List Ins} {m h : List Int} (hF : Fine l m h) {Wp : Nat → Nat → Int} {a z : Nat} (hR : Reg l m a z) {i : Nat} (hi : a ≤ i) (hi2 : i < z) {most : Bool} (hW : opAt l i = 21 → W ((l, m, ((i + 1 : Nat) : Int), ((mN m i : Nat) : Int), most, ()), ()) = some (Wp (i + 1) (mN m i)) ∧ 0 ≤ Wp (i + 1) (mN m i) ∧ Wp (i + 1) (mN m i) ≤ 1048577) (d : List Int) (s : List Bool) (aa zz : Int) :
    camshaftref09_way.j0 n W l m aa zz most d s (i : Int) 1 [((i + 1 : Nat) : Int)] = some (l, m, aa, zz, most, d, s, (i : Int), costI Wp l m i, (hopsR l m i).map (fun (q : Nat) => (q : Int))) := by
  obtain ⟨l1, l2⟩ := hF.len
  have hlt := hR.lt
  have hr := hF.right (show i < l.length by omega)
  have hm := hF.nest.hm
  unfold camshaftref09_way.j0 costI hopsR opAt
  simp only [Int.toNat_natCast, next_ix (show i < 1000000 by omega), if_pos (in_ix (show i < l.length by omega)), if_pos (in_ix (show i < m.length by omega))]
  by_cases h19 : (l.getD i (0, 0, 0)).1 = 19
  · rw [if_pos (show ((l.getD i (0, 0, 0)).1 == 19) = true by simpa only [beq_iff_eq] using h19), if_pos h19, if_neg (by omega), jump_ix (by omega) (show i < l.length by omega) hr (.inl h19)]
    rfl
  · rw [if_neg (show ¬ ((l.getD i (0, 0, 0)).1 == 19) = true by simpa only [beq_iff_eq] using h19), if_neg h19]
    by_cases h20 : (l.getD i (0, 0, 0)).1 = 20
    · rw [if_pos (show ((l.getD i (0, 0, 0)).1 == 20) = true by simpa only [beq_iff_eq] using h20), if_pos h20, if_neg (by omega), jump_ix (by omega) (show i < l.length by omega) hr (.inr h20)]
      rfl
    · rw [if_neg (show ¬ ((l.getD i (0, 0, 0)).1 == 20) = true by simpa only [beq_iff_eq] using h20), if_neg h20]
      by_cases h21 : (l.getD i (0, 0, 0)).1 = 21
      · rw [if_pos (show ((l.getD i (0, 0, 0)).1 == 21) = true by simpa only [beq_iff_eq] using h21), if_pos h21, if_pos h21]
        obtain ⟨w1, w2, w3⟩ := hW h21
        obtain ⟨j, j1, j2, j3⟩ := hR.loop i hi hi2 (isOpen_iff.2 (.inl h21))
        have hj : mN m i = j := by unfold mN; rw [j1]; rfl
        have hA : 1 ≤ argA l i ∧ argA l i ≤ 1000 := by
          unfold argA
          generalize l.getD i (0, 0, 0) = x at *
          obtain ⟨o, A, B⟩ := x
          simp only at h21
          subst h21
          exact right21 hr
        rw [hj] at w1 w2 w3 ⊢
        simp only [j1, w1, Option.bind_some, next_ix (show j < 1000000 by omega)]
        generalize Wp (i + 1) j = w at w2 w3 ⊢
        rw [wrap_id (e := w + 1) (by omega) (by omega)]
        unfold loopI addI argA at *
        generalize (l.getD i (0, 0, 0)).2.1 = A at hA ⊢
        by_cases hw : w + 1 ≤ 1048576
        · have hb : 0 ≤ A * (w + 1) ∧ A * (w + 1) ≤ 1000 * 1048577 := ⟨Int.mul_nonneg (by omega) (by omega), Int.mul_le_mul hA.2 (by omega) (by omega) (by decide)⟩
          rw [if_pos (decide_eq_true hw), wrap_id (e := A * (w + 1)) (by omega) (by omega), wrap_id (by omega) (by omega), cut_is, if_neg (show ¬ (1048577 < w + 1) by omega), if_neg (show ¬ (w + 1 = 1048577) by omega)]
          rfl
        · have : w = 1048576 ∨ w = 1048577 := by omega
          rw [if_neg (by simpa using hw)]
          rcases this with rfl | rfl <;> rfl
      · rw [if_neg (show ¬ ((l.getD i (0, 0, 0)).1 == 21) = true by simpa only [beq_iff_eq] using h21), if_neg h21, if_neg h21]
        rfl
theorem bI_most : bI true = bM := rfl
theorem bI_least : bI false = bL := rfl
theorem ref_j1w (n : Nat) (W : WR) {l : List Ins} {m ks : List Int} {a z : Nat} (hz : z < 1000000) {i : Nat} (hi : a ≤ i) (hi2 : i < z) (most : Bool) {d : List Int} {s : List Bool} {D : Nat → Int} (hL : LQ d s D a z) (hD : ∀ k, StepsI (D k)) (hDi : D i ≠ -1) {c : Int} (hc : 0 ≤ c ∧ c ≤ 1048577) {k q : Nat} (hk : k < ks.length) (hk2 : k < 1000000) (hq : ks.getD k 0 = (q : Int)) (haq : a ≤ q) (hqz : q ≤ z) (zz : Int) :
    ∃ d' s', LQ d' s' (putI (bI most) D q (addI (D i) c)) a z ∧ camshaftref09_way.j1 n W l m (a : Int) zz most d s (i : Int) c ks (k : Int) = some (l, m, (a : Int), zz, most, d', s', (i : Int), c, ks, (k : Int)) := by
  have h1 := hL.dl
  have h2 := hL.sl
  have hDi2 : 0 ≤ D i ∧ D i ≤ 1048577 := by
    rcases hD i with h | h
    · exact absurd h hDi
    · exact h
  have hv := addI_ok hDi2.1 hc.1
  have hati := (hL.at_ i hi (by omega)).1
  rw [if_neg hDi] at hati
  obtain ⟨g1, g2⟩ := hL.at_ q haq hqz
  unfold camshaftref09_way.j1
  simp only [Int.toNat_natCast, if_pos (in_ix hk), cut_ix hi (show i < 1000000 by omega), hati, hq, cut_ix haq (show q < 1000000 by omega), if_pos (in_ix (show i - a < d.length by omega)), if_pos (in_ix (show q - a < d.length by omega)), if_pos (in_ix (show q - a < s.length by omega)), cut_is, Option.bind_some, g1, g2]
  rw [wrap_id (e := D i + c) (by omega) (by omega)]
  have hx : (if 1048577 < D i + c then 1048577 else D i + c) = addI (D i) c := rfl
  rw [hx]
  generalize addI (D i) c = v at hv ⊢
  by_cases hn : D q = -1
  · refine ⟨_, _, hL.put (bI most) haq hqz (x := v) (by rw [if_pos hn]) (by omega), ?_⟩
    rw [if_pos (by rw [hn]; rfl)]
  · rw [if_neg (show ¬ (!(D q != -1)) = true by rw [bne_iff_ne.2 hn]; decide), if_neg hn]
    cases most
    · rw [if_neg (show ¬ false = true by decide), if_pos (show (!false) = true from rfl)]
      by_cases hg : v < D q
      · refine ⟨_, _, hL.put (bI false) haq hqz (x := v) (by rw [if_neg hn, bI_least]; unfold bL; rw [if_pos hg]) (by omega), ?_⟩
        rw [if_pos (decide_eq_true hg)]
      · refine ⟨_, _, hL.same (bI false) hn (by rw [bI_least]; unfold bL; rw [if_neg hg]), ?_⟩
        rw [if_neg (by simpa using hg)]
    · rw [if_pos (show true = true from rfl), if_neg (show ¬ (!true) = true by decide)]
      by_cases hg : v > D q
      · refine ⟨_, _, hL.put (bI true) haq hqz (x := v) (by rw [if_neg hn, bI_most]; unfold bM; rw [if_pos hg]) (by omega), ?_⟩
        rw [if_pos (decide_eq_true hg)]
      · refine ⟨_, _, hL.same (bI true) hn (by rw [bI_most]; unfold bM; rw [if_neg hg]), ?_⟩
        rw [if_neg (by simpa using hg)]
end Go.Proofs.Dk

/- Plain: the steps of ways, as the document says, on. -/
namespace Go.Proofs.Dk
open Go
set_option maxRecDepth 100000
set_option linter.unusedVariables false
set_option linter.unusedSimpArgs false
theorem ref_hands (n : Nat) (W : WR) {l : List Ins} {m : List Int} {a z : Nat} (hz : z < 1000000) {i : Nat} (hi : a ≤ i) (hi2 : i < z) (most : Bool) {c : Int} (hc : 0 ≤ c ∧ c ≤ 1048577) {ks : List Nat} (hks : ∀ q ∈ ks, i < q ∧ q ≤ z) (hkl : ks.length < 1000) (zz : Int) {v : Int} : ∀ (fu k : Nat) {d : List Int} {s : List Bool} {D : Nat → Int}, LQ d s D a z → (∀ k, StepsI (D k)) → D i ≠ -1 → v = addI (D i) c → k ≤ ks.length → ks.length < fu + k → ∃ d' s', LQ d' s' ((ks.drop k).foldl (fun g q => putI (bI most) g q v) D) a z ∧
    it (fun F (x : (List (Int × (Int × Int))) × (List Int) × Int × Int × Bool × (List Int) × (List Bool) × Int × Int × (List Int) × Int) => camshaftref09_way.b2 n W F x.1 x.2.1 x.2.2.1 x.2.2.2.1 x.2.2.2.2.1 x.2.2.2.2.2.1 x.2.2.2.2.2.2.1 x.2.2.2.2.2.2.2.1 x.2.2.2.2.2.2.2.2.1 x.2.2.2.2.2.2.2.2.2.1 x.2.2.2.2.2.2.2.2.2.2) fu (l, m, (a : Int), zz, most, d, s, (i : Int), c, ks.map (fun (q : Nat) => (q : Int)), (k : Int)) = some (l, m, (a : Int), zz, most, d', s', (i : Int))
  | 0, k, d, s, D, hL, hD, hDi, hv, hk, hf => by omega
  | fu + 1, k, d, s, D, hL, hD, hDi, hv, hk, hf => by
    have ih := fun {d : List Int} {s : List Bool} {D : Nat → Int} => ref_hands n W (l := l) (m := m) hz hi hi2 most hc hks hkl zz (v := v) fu (k + 1) (d := d) (s := s) (D := D)
    show ∃ d' s', _ ∧ camshaftref09_way.b2 n W (it _ fu) l m (a : Int) zz most d s (i : Int) c (ks.map (fun (q : Nat) => (q : Int))) (k : Int) = _
    generalize it (fun F (x : (List (Int × (Int × Int))) × (List Int) × Int × Int × Bool × (List Int) × (List Bool) × Int × Int × (List Int) × Int) => camshaftref09_way.b2 n W F x.1 x.2.1 x.2.2.1 x.2.2.2.1 x.2.2.2.2.1 x.2.2.2.2.2.1 x.2.2.2.2.2.2.1 x.2.2.2.2.2.2.2.1 x.2.2.2.2.2.2.2.2.1 x.2.2.2.2.2.2.2.2.2.1 x.2.2.2.2.2.2.2.2.2.2) fu = F at ih ⊢
    unfold camshaftref09_way.b2
    rcases Nat.lt_or_ge k ks.length with hlt | hge
    · have hd : ks.drop k = ks[k] :: ks.drop (k + 1) := List.drop_eq_getElem_cons hlt
      have hg : (ks.map (fun (q : Nat) => (q : Int))).getD k 0 = ((ks[k] : Nat) : Int) := by
        rw [List.getD_eq_getElem?_getD, List.getElem?_map, List.getElem?_eq_getElem hlt]
        rfl
      have hq := hks _ (List.getElem_mem hlt)
      rw [hd, List.foldl_cons]
      generalize ks[k] = q at hg hq ⊢
      obtain ⟨d1, s1, k1, k2⟩ := ref_j1w n W (l := l) (m := m) hz hi hi2 most hL hD hDi hc (k := k) (q := q) (by rw [List.length_map]; exact hlt) (by omega) hg (by omega) hq.2 zz
      have hDi2 : 0 ≤ D i := by
        rcases hD i with h | h
        · exact absurd h hDi
        · exact h.1
      have same : putI (bI most) D q (addI (D i) c) i = D i := by
        unfold putI
        rw [if_neg (by omega)]
      rw [if_pos (decide_eq_true (by rw [List.length_map]; omega)), k2, Option.bind_some]
      simp only
      rw [next_ix (by omega), hv]
      rw [hv] at ih
      exact ih k1 (putI_ok (bI_bet most) hD q (addI_ok hDi2 hc.1)) (by rw [same]; exact hDi) (by rw [same]) (by omega) (by omega)
    · have : k = ks.length := by omega
      subst this
      rw [if_neg (by simp), List.drop_length]
      exact ⟨d, s, hL, rfl⟩
theorem ref_run (n : Nat) (hn : 3 < n) (W : WR) {l : List Ins} {m h : List Int} (hF : Fine l m h) {Wp : Nat → Nat → Int} {a z : Nat} (hR : Reg l m a z) (most : Bool) (hW : ∀ i, a ≤ i → i < z → opAt l i = 21 → W ((l, m, ((i + 1 : Nat) : Int), ((mN m i : Nat) : Int), most, ()), ()) = some (Wp (i + 1) (mN m i)) ∧ 0 ≤ Wp (i + 1) (mN m i) ∧ Wp (i + 1) (mN m i) ≤ 1048577) : ∀ (f i : Nat) {d : List Int} {s : List Bool} {D : Nat → Int}, LQ d s D a z → (∀ k, StepsI (D k)) → a ≤ i → i ≤ z → z < f + i → ∃ d' s', LQ d' s' (runW (bI most) Wp l m (z - i) i D) a z ∧
    it (fun F (x : (List (Int × (Int × Int))) × (List Int) × Int × Int × Bool × (List Int) × (List Bool) × Int) => camshaftref09_way.b3 n W F x.1 x.2.1 x.2.2.1 x.2.2.2.1 x.2.2.2.2.1 x.2.2.2.2.2.1 x.2.2.2.2.2.2.1 x.2.2.2.2.2.2.2) f (l, m, (a : Int), (z : Int), most, d, s, (i : Int)) = some ((a : Int), (z : Int), d')
  | 0, i, d, s, D, hL, hD, h1, h2, hf => by omega
  | f + 1, i, d, s, D, hL, hD, h1, h2, hf => by
    have ih := fun {d : List Int} {s : List Bool} {D : Nat → Int} => ref_run n hn W hF hR most hW f (i + 1) (d := d) (s := s) (D := D)
    show ∃ d' s', _ ∧ camshaftref09_way.b3 n W (it _ f) l m (a : Int) (z : Int) most d s (i : Int) = _
    generalize it (fun F (x : (List (Int × (Int × Int))) × (List Int) × Int × Int × Bool × (List Int) × (List Bool) × Int) => camshaftref09_way.b3 n W F x.1 x.2.1 x.2.2.1 x.2.2.2.1 x.2.2.2.2.1 x.2.2.2.2.2.1 x.2.2.2.2.2.2.1 x.2.2.2.2.2.2.2) f = F at ih ⊢
    obtain ⟨l1, l2⟩ := hF.len
    have hlt := hR.lt
    have hsl := hL.sl
    unfold camshaftref09_way.b3
    rcases Nat.lt_or_ge i z with hiz | hge
    · have hat := (hL.at_ i h1 (by omega)).2
      have hWi : opAt l i = 21 → StepsI (Wp (i + 1) (mN m i)) := fun h => .inr (hW i h1 hiz h).2
      have hD' := stepW_ok (bI_bet most) hD (hF.right (show i < l.length by omega)) hWi
      rw [if_pos (decide_eq_true (by omega))]
      simp only [cut_ix h1 (show i < 1000000 by omega), Int.toNat_natCast, if_pos (in_ix (show i - a < s.length by omega)), hat, next_ix (show i < 1000000 by omega)]
      rw [show z - i = (z - (i + 1)) + 1 by omega]
      by_cases hn1 : D i = -1
      · have e : runW (bI most) Wp l m (z - (i + 1) + 1) i D = runW (bI most) Wp l m (z - (i + 1)) (i + 1) D := by
          show runW (bI most) Wp l m (z - (i + 1)) (i + 1) (stepW (bI most) Wp l m i D) = _
          unfold stepW
          rw [if_pos hn1]
        rw [if_pos (by rw [hn1]; rfl), e]
        exact ih hL hD (by omega) (by omega) (by omega)
      · rw [if_neg (by rw [bne_iff_ne.2 hn1]; decide), ref_j0w n W hF hR h1 hiz (hW i h1 hiz) d s (a : Int) (z : Int), Option.bind_some]
        have hc := costI_ok (hF.right (show i < l.length by omega)) hWi
        obtain ⟨d1, s1, k1, k2⟩ := ref_hands n W (l := l) (m := m) (by omega) h1 hiz most hc (hopsR_in hR h1 hiz) (by have := hopsR_len l m i; omega) (z : Int) n 0 hL hD hn1 rfl (Nat.zero_le _) (by have := hopsR_len l m i; omega)
        rw [show ((0 : Nat) : Int) = 0 from rfl] at k2
        unfold camshaftref09_way.b2.l
        simp only
        rw [k2, Option.bind_some]
        simp only
        rw [next_ix (by omega)]
        rw [List.drop_zero, hopsR_eq] at k1
        have e : (hopsI l m i).foldl (fun g k => putI (bI most) g k (addI (D i) (costI Wp l m i))) D = stepW (bI most) Wp l m i D := by
          unfold stepW
          rw [if_neg hn1]
        rw [e] at k1
        exact ih k1 hD' (by omega) (by omega) (by omega)
    · have : i = z := by omega
      subst this
      rw [if_neg (by simp), Nat.sub_self]
      exact ⟨d, s, hL, rfl⟩
theorem ref_s (n : Nat) (hn3 : 3 < n) (W : WR) {l : List Ins} {m h : List Int} (hF : Fine l m h) (hn : l.length < n) {Wp : Nat → Nat → Int} {a z : Nat} (hR : Reg l m a z) (most : Bool) (hW : ∀ i, a ≤ i → i < z → opAt l i = 21 → W ((l, m, ((i + 1 : Nat) : Int), ((mN m i : Nat) : Int), most, ()), ()) = some (Wp (i + 1) (mN m i)) ∧ 0 ≤ Wp (i + 1) (mN m i) ∧ Wp (i + 1) (mN m i) ≤ 1048577) (hend : runW (bI most) Wp l m (z - a) a (startW a) z ≠ -1) :
    camshaftref09_way.s n W l m (a : Int) (z : Int) most = some (runW (bI most) Wp l m (z - a) a (startW a) z) := by
  obtain ⟨l1, l2⟩ := hF.len
  have hle := hR.le
  have hlt := hR.lt
  unfold camshaftref09_way.s camshaftref09_way.b3.l
  have c1 : (decide (0 ≤ ((z - a + 1 : Nat) : Int)) && (((z - a + 1 : Nat) : Int) == ((z - a + 1 : Nat) : Int)) && decide (((z - a + 1 : Nat) : Int) * (8 : Int) ≤ 140737488355328) && decide (1 ≤ 8)) = true := by simp; omega
  have c2 : (decide (0 ≤ ((z - a + 1 : Nat) : Int)) && (((z - a + 1 : Nat) : Int) == ((z - a + 1 : Nat) : Int)) && decide (((z - a + 1 : Nat) : Int) * (1 : Int) ≤ 140737488355328) && decide (1 ≤ 1)) = true := by simp; omega
  simp only [isub_ix hle (show z < 1000000 by omega), Int.toNat_natCast, List.length_replicate]
  rw [if_pos c1, if_pos c2, if_pos (by simp)]
  have h0 : LQ (List.replicate (z - a + 1) 0) ((List.replicate (z - a + 1) false).set 0 true) (startW a) a z := by
    refine ⟨by simp, by simp, fun k k1 k2 => ?_⟩
    rw [getD_setB (by simp)]
    unfold startW
    simp only [List.getD_eq_getElem?_getD, List.getElem?_replicate]
    have h3 : k - a < z - a + 1 := by omega
    by_cases e : k = a
    · subst e
      simp
    · have e3 : ¬ (k - a = 0) := by omega
      simp [h3, e3, e]
  obtain ⟨d', s', k1, k2⟩ := ref_run n hn3 W hF hR most hW n a h0 (startW_ok a) (Nat.le_refl _) hle (by omega)
  rw [k2, Option.bind_some]
  simp only [cut_ix hle (show z < 1000000 by omega), Int.toNat_natCast]
  rw [if_pos (in_ix (by rw [k1.dl]; omega)), (k1.at_ z hle (Nat.le_refl _)).1, if_neg hend]
theorem ref_it (n : Nat) (hn3 : 3 < n) {l : List Ins} {m h : List Int} (hF : Fine l m h) (hS : Come l) (hn : l.length < n) (most : Bool) : ∀ (g : Nat) {a z : Nat}, Way l m a z → z - a < g →
    it (fun (W : WR) x => camshaftref09_way.s n W x.1.1 x.1.2.1 x.1.2.2.1 x.1.2.2.2.1 x.1.2.2.2.2.1) g ((l, m, (a : Int), (z : Int), most, ()), ()) = some (wayF (bI most) l m g a z)
  | 0, a, z, hR, hg => by omega
  | g + 1, a, z, hR, hg => by
    have hlt := hR.reg.lt
    have ih := fun {a z : Nat} => ref_it n hn3 hF hS hn most g (a := a) (z := z)
    show camshaftref09_way.s n (it _ g) l m (a : Int) (z : Int) most = _
    refine ref_s n hn3 _ hF hn hR.reg most (fun i h1 h2 h3 => ?_) (fun h => ?_)
    · have ho := isOpen_iff.2 (Or.inl (b := opAt l i = 23) h3)
      have hRi := hF.way (show i < l.length by omega) ho
      obtain ⟨j, j1, j2, j3⟩ := hR.reg.loop i h1 h2 ho
      have hj : mN m i = j := by unfold mN; rw [j1]; rfl
      exact ⟨ih hRi (by omega), way_reach (bI_bet most) hF hS g hRi⟩
    · have := (way_reach (bI_bet most) hF hS (g + 1) hR).1
      rw [show wayF (bI most) l m (g + 1) a z = runW (bI most) (wayF (bI most) l m g) l m (z - a) a (startW a) z from rfl, h] at this
      omega
theorem ref_way_is (n : Nat) (hn3 : 3 < n) {l : List Ins} {m h : List Int} (hF : Fine l m h) (hS : Come l) (hn : l.length < n) (most : Bool) {a z : Nat} (hR : Way l m a z) : camshaftref09_way.f n l m (a : Int) (z : Int) most = some (wayF (bI most) l m n a z) := by
  have := hR.reg.lt
  exact ref_it n hn3 hF hS hn most n hR (by omega)
end Go.Proofs.Dk

/- Plain: steps of rows, sections. -/
namespace Go.Proofs.Dk
open Go
set_option maxRecDepth 100000
set_option linter.unusedVariables false
set_option linter.unusedSimpArgs false
/-- The steps of a row, or what is wrong. -/
noncomputable def allI (b : Int → Int → Int) (n : Nat) (l : List Ins) : Int × Int :=
  if locksI l ≠ 0 then (0, locksI l) else if stacksI l ≠ 0 then (0, stacksI l)
  else if addI (wayF b l (scanI l).1 n 0 (l.length - 1)) 1 = 1048577 then (0, 4) else (addI (wayF b l (scanI l).1 n 0 (l.length - 1)) 1, 0)
theorem locks_whole {l : List Ins} (h : locksI l = 0) : wholeI l = 0 := by
  unfold locksI at h
  split at h
  · exact h
  · rename_i h1
    by_cases e : wholeI l = 0
    · exact e
    · exact absurd e h1
theorem len1_ix {k : Nat} (h : 0 < k) (h2 : k < 1000000) : IntKind.wrap .i64 ((k : Int) - 1) = ((k - 1 : Nat) : Int) := last_ix h h2

theorem allmost_is (n : Nat) (l : List Ins) (hl : l.length < n) (hn3 : 3 < n) (hn : n < 1000000) : cost_all_most.f n l = some (allI bM n l) := by
  obtain ⟨o1, h1⟩ := locks_is n l hl hn
  obtain ⟨o2, h2⟩ := stacks_is n l hl hn3 hn
  unfold cost_all_most.f allI
  rw [h1, Option.bind_some]
  by_cases hk : locksI l = 0
  · have hw := locks_whole hk
    have hs := whole_scan hw
    have hF := whole_fine hw
    obtain ⟨l1, l2⟩ := hF.len
    rw [if_neg (fun h => (bne_iff_ne.1 h) hk), if_neg (show ¬ (locksI l ≠ 0) from fun h => h hk), h2, Option.bind_some]
    by_cases ht : stacksI l = 0
    · have hS := (come_is ht).2
      rw [if_neg (fun h => (bne_iff_ne.1 h) ht), if_neg (show ¬ (stacksI l ≠ 0) from fun h => h ht), match_is n l hl hn, Option.bind_some]
      simp only
      have hwy := way_reach bM_bet hF hS n hF.wayAll
      have hw1 := most_is n hF hl hF.all
      rw [show ((0 : Nat) : Int) = 0 from rfl] at hw1
      rw [if_neg (fun h => (bne_iff_ne.1 h) hs), len1_ix l1 (by omega), hw1, Option.bind_some, costadd_is n (by omega) hwy.2 (by decide) (by decide), Option.bind_some]
      generalize addI (wayF bM l (scanI l).1 n 0 (l.length - 1)) 1 = w
      by_cases e : w = 1048577
      · rw [if_pos e, if_pos (by simpa only [beq_iff_eq] using e)]
      · rw [if_neg e, if_neg (by simpa only [beq_iff_eq] using e)]
    · rw [if_pos (show (stacksI l != 0) = true from bne_iff_ne.2 ht), if_pos (show (stacksI l != 0) = true from bne_iff_ne.2 ht), if_pos ht]
  · rw [if_pos (show (locksI l != 0) = true from bne_iff_ne.2 hk), if_pos (show (locksI l != 0) = true from bne_iff_ne.2 hk), if_pos hk]

theorem allleast_is (n : Nat) (l : List Ins) (hl : l.length < n) (hn3 : 3 < n) (hn : n < 1000000) : cost_all_least.f n l = some (allI bL n l) := by
  obtain ⟨o1, h1⟩ := locks_is n l hl hn
  obtain ⟨o2, h2⟩ := stacks_is n l hl hn3 hn
  unfold cost_all_least.f allI
  rw [h1, Option.bind_some]
  by_cases hk : locksI l = 0
  · have hw := locks_whole hk
    have hs := whole_scan hw
    have hF := whole_fine hw
    obtain ⟨l1, l2⟩ := hF.len
    rw [if_neg (fun h => (bne_iff_ne.1 h) hk), if_neg (show ¬ (locksI l ≠ 0) from fun h => h hk), h2, Option.bind_some]
    by_cases ht : stacksI l = 0
    · have hS := (come_is ht).2
      rw [if_neg (fun h => (bne_iff_ne.1 h) ht), if_neg (show ¬ (stacksI l ≠ 0) from fun h => h ht), match_is n l hl hn, Option.bind_some]
      simp only
      have hwy := way_reach bL_bet hF hS n hF.wayAll
      have hw1 := least_is n hF hl hF.all
      rw [show ((0 : Nat) : Int) = 0 from rfl] at hw1
      rw [if_neg (fun h => (bne_iff_ne.1 h) hs), len1_ix l1 (by omega), hw1, Option.bind_some, costadd_is n (by omega) hwy.2 (by decide) (by decide), Option.bind_some]
      generalize addI (wayF bL l (scanI l).1 n 0 (l.length - 1)) 1 = w
      by_cases e : w = 1048577
      · rw [if_pos e, if_pos (by simpa only [beq_iff_eq] using e)]
      · rw [if_neg e, if_neg (by simpa only [beq_iff_eq] using e)]
    · rw [if_pos (show (stacksI l != 0) = true from bne_iff_ne.2 ht), if_pos (show (stacksI l != 0) = true from bne_iff_ne.2 ht), if_pos ht]
  · rw [if_pos (show (locksI l != 0) = true from bne_iff_ne.2 hk), if_pos (show (locksI l != 0) = true from bne_iff_ne.2 hk), if_pos hk]

theorem worst_is (n : Nat) (l : List Ins) (hl : l.length < n) (hn3 : 3 < n) (hn : n < 1000000) : cost_Worst.f n l = some (allI bM n l) := by
  unfold cost_Worst.f
  rw [allmost_is n l hl hn3 hn]
  rfl
theorem best_is (n : Nat) (l : List Ins) (hl : l.length < n) (hn3 : 3 < n) (hn : n < 1000000) : cost_Best.f n l = some (allI bL n l) := by
  unfold cost_Best.f
  rw [allleast_is n l hl hn3 hn]
  rfl
theorem ref_all_is (n : Nat) (l : List Ins) (hi : InR l) (hl : l.length < n) (hn3 : 3 < n) (hn : n < 1000000) (most : Bool) : camshaftref09_all.f n l most = some (allI (bI most) n l) := by
  obtain ⟨o1, h1⟩ := ref_locks_is n l hi hl hn
  obtain ⟨o2, h2⟩ := ref_stacks_is n l hi hl hn3 hn
  unfold camshaftref09_all.f camshaftref09_bad.f allI
  rw [h1, Option.bind_some]
  by_cases hk : locksI l = 0
  · have hw := locks_whole hk
    have hs := whole_scan hw
    have hF := whole_fine hw
    obtain ⟨l1, l2⟩ := hF.len
    rw [if_neg (fun h => (bne_iff_ne.1 h) hk), if_neg (show ¬ (locksI l ≠ 0) from fun h => h hk), h2, Option.bind_some, Option.bind_some]
    by_cases ht : stacksI l = 0
    · have hS := (come_is ht).2
      rw [if_neg (fun h => (bne_iff_ne.1 h) ht), if_neg (show ¬ (stacksI l ≠ 0) from fun h => h ht), ref_match_is n l hi hl hn, Option.bind_some]
      simp only
      have hwy := way_reach (bI_bet most) hF hS n hF.wayAll
      have hw1 := ref_way_is n hn3 hF hS hl most hF.wayAll
      rw [show ((0 : Nat) : Int) = 0 from rfl] at hw1
      rw [len1_ix l1 (by omega), hw1, Option.bind_some]
      generalize wayF (bI most) l (scanI l).1 n 0 (l.length - 1) = w at hwy
      rw [wrap_id (by omega) (by omega)]
      unfold addI
      by_cases e : w + 1 > 1048576
      · rw [if_pos (decide_eq_true e), if_pos (by omega)]
      · rw [if_neg (by simpa using e), if_neg (by omega), if_neg (by omega)]
    · rw [if_pos (show (stacksI l != 0) = true from bne_iff_ne.2 ht), if_pos ht]
  · rw [if_pos (show (locksI l != 0) = true from bne_iff_ne.2 hk), if_pos hk, Option.bind_some, if_pos (show (locksI l != 0) = true from bne_iff_ne.2 hk)]
theorem ref_worst_is (n : Nat) (l : List Ins) (hi : InR l) (hl : l.length < n) (hn3 : 3 < n) (hn : n < 1000000) : camshaftref09_Worst.f n l = some (allI bM n l) := by
  unfold camshaftref09_Worst.f
  rw [ref_all_is n l hi hl hn3 hn true]
  rfl
theorem ref_best_is (n : Nat) (l : List Ins) (hi : InR l) (hl : l.length < n) (hn3 : 3 < n) (hn : n < 1000000) : camshaftref09_Best.f n l = some (allI bL n l) := by
  unfold camshaftref09_Best.f
  rw [ref_all_is n l hi hl hn3 hn false]
  rfl
/-- How long blocks are locked. -/
def sectS (l : List Ins) (m : List Int) (n : Nat) : Nat → Nat → List (Int × Int)
  | 0, _ => []
  | r + 1, i => (if opAt l i = 23 then [(argA l i, wayF bM l m n (i + 1) (mN m i) + 1)] else []) ++ sectS l m n r (i + 1)
noncomputable def sectI (n : Nat) (l : List Ins) : List (Int × Int) × Int := if (allI bM n l).2 ≠ 0 then ([], (allI bM n l).2) else (sectS l (scanI l).1 n l.length 0, 0)
theorem sect_loop (n : Nat) {l : List Ins} {m h : List Int} (hF : Fine l m h) (hn : l.length < n) : ∀ (f i : Nat) {o : List (Int × Int)}, o.length ≤ i → i ≤ l.length → l.length < f + i →
    it (fun F (x : (List (Int × Int)) × (List (Int × (Int × Int))) × Int × Int × (List (Int × (Int × Int))) × (List Int)) => cost_Sections.b0 n F x.1 x.2.1 x.2.2.1 x.2.2.2.1 x.2.2.2.2.1 x.2.2.2.2.2) f (o, l, (l.length : Int), (i : Int), l, m) = some (o ++ sectS l m n (l.length - i) i, l, m)
  | 0, i, o, ho, hi, hf => by omega
  | f + 1, i, o, ho, hi, hf => by
    have ih := fun {o : List (Int × Int)} => sect_loop n hF hn f (i + 1) (o := o)
    show cost_Sections.b0 n (it _ f) o l (l.length : Int) (i : Int) l m = _
    generalize it (fun F (x : (List (Int × Int)) × (List (Int × (Int × Int))) × Int × Int × (List (Int × (Int × Int))) × (List Int)) => cost_Sections.b0 n F x.1 x.2.1 x.2.2.1 x.2.2.2.1 x.2.2.2.2.1 x.2.2.2.2.2) f = F at ih ⊢
    obtain ⟨l1, l2⟩ := hF.len
    unfold cost_Sections.b0
    rcases Nat.lt_or_ge i l.length with hlt | hge
    · rw [if_pos (decide_eq_true (by omega)), if_pos (in_ix hlt), Int.toNat_natCast, next_ix (by omega), show l.length - i = (l.length - (i + 1)) + 1 by omega]
      rw [show sectS l m n (l.length - (i + 1) + 1) i = (if opAt l i = 23 then [(argA l i, wayF bM l m n (i + 1) (mN m i) + 1)] else []) ++ sectS l m n (l.length - (i + 1)) (i + 1) from rfl]
      by_cases h23 : (l.getD i (0, 0, 0)).1 = 23
      · rw [if_pos (show ((l.getD i (0, 0, 0)).1 == 23) = true by simpa only [beq_iff_eq] using h23), if_pos (show opAt l i = 23 from h23), if_pos (in_ix (by rw [hF.nest.hm]; exact hlt))]
        have ho2 : isOpen l i = true := isOpen_iff.2 (.inr h23)
        obtain ⟨j, j1, j2, j3⟩ := hF.nest.open_ i hlt ho2
        have hj : mN m i = j := by unfold mN; rw [j1]; rfl
        have hR := hF.reg hlt ho2
        rw [hj] at hR ⊢
        have hwy := wayF_ok bM_bet hF n hR
        rw [j1, sect_is n hF hn hR, Option.bind_some, if_pos (by simp; omega)]
        have hwr : IntKind.wrap .i64 (wayF bM l m n (i + 1) j + 1) = wayF bM l m n (i + 1) j + 1 := by
          rcases hwy with h | h
          · rw [h]; rfl
          · exact wrap_id (by omega) (by omega)
        rw [hwr, ih (by simp; omega) (by omega) (by omega), List.append_assoc]
      · rw [if_neg (show ¬ ((l.getD i (0, 0, 0)).1 == 23) = true by simpa only [beq_iff_eq] using h23), if_neg (show ¬ opAt l i = 23 from h23), ih (by omega) (by omega) (by omega), List.nil_append]
    · have : i = l.length := by omega
      subst this
      rw [if_neg (by simp), Nat.sub_self]
      simp [sectS]
theorem all_zero {b : Int → Int → Int} {n : Nat} {l : List Ins} (h : (allI b n l).2 = 0) : locksI l = 0 ∧ stacksI l = 0 := by
  unfold allI at h
  by_cases h1 : locksI l = 0
  · rw [if_neg (show ¬ (locksI l ≠ 0) from fun h => h h1)] at h
    by_cases h2 : stacksI l = 0
    · exact ⟨h1, h2⟩
    · rw [if_pos h2] at h
      exact absurd h h2
  · rw [if_pos h1] at h
    exact absurd h h1
theorem sections_is (n : Nat) (l : List Ins) (hl : l.length < n) (hn3 : 3 < n) (hn : n < 1000000) : cost_Sections.f n l = some (sectI n l) := by
  unfold cost_Sections.f sectI
  rw [worst_is n l hl hn3 hn, Option.bind_some]
  by_cases h0 : (allI bM n l).2 = 0
  · obtain ⟨hk, ht⟩ := all_zero h0
    obtain ⟨o1, h1⟩ := locks_is n l hl hn
    obtain ⟨o2, h2⟩ := stacks_is n l hl hn3 hn
    have hF := whole_fine (locks_whole hk)
    have hlp := sect_loop n hF hl n 0 (o := []) (Nat.zero_le _) (Nat.zero_le _) (by omega)
    rw [show ((0 : Nat) : Int) = 0 from rfl, Nat.sub_zero] at hlp
    unfold cost_Sections.b0.l
    rw [if_neg (fun h => (bne_iff_ne.1 h) h0), if_neg (show ¬ ((allI bM n l).2 ≠ 0) from fun h => h h0), h1, Option.bind_some, if_neg (fun h => (bne_iff_ne.1 h) hk), h2, Option.bind_some, if_neg (fun h => (bne_iff_ne.1 h) ht), match_is n l hl hn, Option.bind_some]
    simp only
    rw [hlp, Option.bind_some, List.nil_append]
  · rw [if_pos (bne_iff_ne.2 h0), if_pos h0]
theorem refsect_loop (n : Nat) (hn3 : 3 < n) {l : List Ins} {m h : List Int} (hF : Fine l m h) (hS : Come l) (hn : l.length < n) : ∀ (f i : Nat) {o : List (Int × Int)}, o.length ≤ i → i ≤ l.length → l.length < f + i →
    it (fun F (x : (List (Int × (Int × Int))) × (List Int) × (List (Int × Int)) × Int) => camshaftref09_Sections.b0 n F x.1 x.2.1 x.2.2.1 x.2.2.2) f (l, m, o, (i : Int)) = some (o ++ sectS l m n (l.length - i) i)
  | 0, i, o, ho, hi, hf => by omega
  | f + 1, i, o, ho, hi, hf => by
    have ih := fun {o : List (Int × Int)} => refsect_loop n hn3 hF hS hn f (i + 1) (o := o)
    show camshaftref09_Sections.b0 n (it _ f) l m o (i : Int) = _
    generalize it (fun F (x : (List (Int × (Int × Int))) × (List Int) × (List (Int × Int)) × Int) => camshaftref09_Sections.b0 n F x.1 x.2.1 x.2.2.1 x.2.2.2) f = F at ih ⊢
    obtain ⟨l1, l2⟩ := hF.len
    unfold camshaftref09_Sections.b0
    rcases Nat.lt_or_ge i l.length with hlt | hge
    · rw [if_pos (decide_eq_true (by omega)), if_pos (in_ix hlt), Int.toNat_natCast, next_ix (by omega), show l.length - i = (l.length - (i + 1)) + 1 by omega]
      rw [show sectS l m n (l.length - (i + 1) + 1) i = (if opAt l i = 23 then [(argA l i, wayF bM l m n (i + 1) (mN m i) + 1)] else []) ++ sectS l m n (l.length - (i + 1)) (i + 1) from rfl]
      by_cases h23 : (l.getD i (0, 0, 0)).1 = 23
      · rw [if_pos (show ((l.getD i (0, 0, 0)).1 == 23) = true by simpa only [beq_iff_eq] using h23), if_pos (show opAt l i = 23 from h23), if_pos (in_ix hlt), if_pos (in_ix (by rw [hF.nest.hm]; exact hlt))]
        have ho2 : isOpen l i = true := isOpen_iff.2 (.inr h23)
        obtain ⟨j, j1, j2, j3⟩ := hF.nest.open_ i hlt ho2
        have hj : mN m i = j := by unfold mN; rw [j1]; rfl
        have hR := hF.way hlt ho2
        rw [hj] at hR ⊢
        have hwy := way_reach bM_bet hF hS n hR
        rw [j1, ref_way_is n hn3 hF hS hn true hR, Option.bind_some, if_pos (by simp; omega), bI_most, wrap_id (e := wayF bM l m n (i + 1) j + 1) (by omega) (by omega), ih (by simp; omega) (by omega) (by omega), List.append_assoc]
      · rw [if_neg (show ¬ ((l.getD i (0, 0, 0)).1 == 23) = true by simpa only [beq_iff_eq] using h23), if_neg (show ¬ opAt l i = 23 from h23), ih (by omega) (by omega) (by omega), List.nil_append]
    · have : i = l.length := by omega
      subst this
      rw [if_neg (by simp), Nat.sub_self]
      simp [sectS]
theorem ref_sections_is (n : Nat) (l : List Ins) (hi : InR l) (hl : l.length < n) (hn3 : 3 < n) (hn : n < 1000000) : camshaftref09_Sections.f n l = some (sectI n l) := by
  unfold camshaftref09_Sections.f sectI
  rw [ref_worst_is n l hi hl hn3 hn, Option.bind_some]
  by_cases h0 : (allI bM n l).2 = 0
  · obtain ⟨hk, ht⟩ := all_zero h0
    have hF := whole_fine (locks_whole hk)
    have hlp := refsect_loop n hn3 hF (come_is ht).2 hl n 0 (o := []) (Nat.zero_le _) (Nat.zero_le _) (by omega)
    rw [show ((0 : Nat) : Int) = 0 from rfl, Nat.sub_zero] at hlp
    unfold camshaftref09_Sections.b0.l
    rw [if_neg (fun h => (bne_iff_ne.1 h) h0), if_neg (show ¬ ((allI bM n l).2 ≠ 0) from fun h => h h0), ref_match_is n l hi hl hn, Option.bind_some]
    simp only
    rw [hlp, Option.bind_some, List.nil_append]
  · rw [if_pos (bne_iff_ne.2 h0), if_pos h0]
end Go.Proofs.Dk

/- Plain: rows in which nothing is left out; sections that are alike. -/
namespace Go.Proofs.Dk
open Go
set_option maxRecDepth 100000
set_option linter.unusedVariables false
set_option linter.unusedSimpArgs false
def strQ (l : List Ins) (k : Nat) : Bool := !((opAt l k == 19 || opAt l k == 20) && decide (argA l k > 0))
def strB (l : List Ins) : Bool := allF (strQ l) l.length 0
theorem str_loop (n : Nat) {l : List Ins} (hl : l.length < 1000000) : ∀ (f i : Nat), i ≤ l.length → l.length < f + i →
    it (fun F (x : (List (Int × (Int × Int))) × Int × Int) => cost_Straight.b0 n F x.1 x.2.1 x.2.2) f (l, (l.length : Int), (i : Int)) = some (if allF (strQ l) (l.length - i) i = true then .inr ((), ()) else .inl ((false, ()), ()))
  | 0, i, hi, hf => by omega
  | f + 1, i, hi, hf => by
    have ih := str_loop n hl f (i + 1)
    show cost_Straight.b0 n (it _ f) l (l.length : Int) (i : Int) = _
    generalize it (fun F (x : (List (Int × (Int × Int))) × Int × Int) => cost_Straight.b0 n F x.1 x.2.1 x.2.2) f = F at ih ⊢
    unfold cost_Straight.b0
    rcases Nat.lt_or_ge i l.length with hlt | hge
    · rw [if_pos (decide_eq_true (by omega)), if_pos (in_ix hlt), show l.length - i = (l.length - (i + 1)) + 1 by omega]
      rw [show allF (strQ l) (l.length - (i + 1) + 1) i = (strQ l i && allF (strQ l) (l.length - (i + 1)) (i + 1)) from rfl, next_ix (by omega), ih (by omega) (by omega)]
      simp only [Int.toNat_natCast]
      have hq : strQ l i = !(((l.getD i (0, 0, 0)).1 == 19 || (l.getD i (0, 0, 0)).1 == 20) && decide ((l.getD i (0, 0, 0)).2.1 > 0)) := rfl
      rw [hq]
      by_cases hA : (l.getD i (0, 0, 0)).2.1 > 0
      · have eA : decide ((l.getD i (0, 0, 0)).2.1 > 0) = true := decide_eq_true hA
        rcases Bool.eq_false_or_eq_true ((l.getD i (0, 0, 0)).1 == 19) with h1 | h1 <;> rcases Bool.eq_false_or_eq_true ((l.getD i (0, 0, 0)).1 == 20) with h2 | h2 <;> simp only [h1, h2, eA] <;> simp
      · have eA : decide ((l.getD i (0, 0, 0)).2.1 > 0) = false := decide_eq_false hA
        rcases Bool.eq_false_or_eq_true ((l.getD i (0, 0, 0)).1 == 19) with h1 | h1 <;> rcases Bool.eq_false_or_eq_true ((l.getD i (0, 0, 0)).1 == 20) with h2 | h2 <;> simp only [h1, h2, eA] <;> simp
    · have : i = l.length := by omega
      subst this
      rw [if_neg (by simp), Nat.sub_self]
      simp [allF]
theorem straight_is (n : Nat) (l : List Ins) (hl : l.length < n) (hn : n < 1000000) : cost_Straight.f n l = some (strB l) := by
  unfold cost_Straight.f cost_Straight.b0.l strB
  have h0 := str_loop n (l := l) (by omega) n 0 (Nat.zero_le _) (by omega)
  rw [show ((0 : Nat) : Int) = 0 from rfl, Nat.sub_zero] at h0
  rw [h0, Option.bind_some]
  rcases Bool.eq_false_or_eq_true (allF (strQ l) l.length 0) with hb | hb <;> rw [hb] <;> rfl
theorem refstr_loop (n : Nat) {l : List Ins} (hl : l.length < 1000000) : ∀ (f i : Nat), i ≤ l.length → l.length < f + i →
    it (fun F (x : (List (Int × (Int × Int))) × Int) => camshaftref09_Straight.b0 n F x.1 x.2) f (l, (i : Int)) = some (if allF (strQ l) (l.length - i) i = true then .inr ((), ()) else .inl ((false, ()), ()))
  | 0, i, hi, hf => by omega
  | f + 1, i, hi, hf => by
    have ih := refstr_loop n hl f (i + 1)
    show camshaftref09_Straight.b0 n (it _ f) l (i : Int) = _
    generalize it (fun F (x : (List (Int × (Int × Int))) × Int) => camshaftref09_Straight.b0 n F x.1 x.2) f = F at ih ⊢
    unfold camshaftref09_Straight.b0
    rcases Nat.lt_or_ge i l.length with hlt | hge
    · simp only [if_pos (in_ix hlt)]
      rw [if_pos (decide_eq_true (by omega)), show l.length - i = (l.length - (i + 1)) + 1 by omega]
      rw [show allF (strQ l) (l.length - (i + 1) + 1) i = (strQ l i && allF (strQ l) (l.length - (i + 1)) (i + 1)) from rfl, next_ix (by omega), ih (by omega) (by omega)]
      simp only [Int.toNat_natCast]
      have hq : strQ l i = !(((l.getD i (0, 0, 0)).1 == 19 || (l.getD i (0, 0, 0)).1 == 20) && decide ((l.getD i (0, 0, 0)).2.1 > 0)) := rfl
      rw [hq]
      by_cases hA : (l.getD i (0, 0, 0)).2.1 > 0
      · have eA : decide ((l.getD i (0, 0, 0)).2.1 > 0) = true := decide_eq_true hA
        rcases Bool.eq_false_or_eq_true ((l.getD i (0, 0, 0)).1 == 19) with h1 | h1 <;> rcases Bool.eq_false_or_eq_true ((l.getD i (0, 0, 0)).1 == 20) with h2 | h2 <;> simp only [h1, h2, eA] <;> simp
      · have eA : decide ((l.getD i (0, 0, 0)).2.1 > 0) = false := decide_eq_false hA
        rcases Bool.eq_false_or_eq_true ((l.getD i (0, 0, 0)).1 == 19) with h1 | h1 <;> rcases Bool.eq_false_or_eq_true ((l.getD i (0, 0, 0)).1 == 20) with h2 | h2 <;> simp only [h1, h2, eA] <;> simp
    · have : i = l.length := by omega
      subst this
      rw [if_neg (by simp), Nat.sub_self]
      simp [allF]
theorem ref_straight_is (n : Nat) (l : List Ins) (hl : l.length < n) (hn : n < 1000000) : camshaftref09_Straight.f n l = some (strB l) := by
  unfold camshaftref09_Straight.f camshaftref09_Straight.b0.l strB
  have h0 := refstr_loop n (l := l) (by omega) n 0 (Nat.zero_le _) (by omega)
  rw [show ((0 : Nat) : Int) = 0 from rfl, Nat.sub_zero] at h0
  rw [h0, Option.bind_some]
  rcases Bool.eq_false_or_eq_true (allF (strQ l) l.length 0) with hb | hb <;> rw [hb] <;> rfl
theorem plain_loop (n : Nat) {s : List (Int × Int)} (hs : s.length < 1000000) : ∀ (f i : Nat), i ≤ s.length → s.length < f + i →
    it (fun F (x : (List (Int × Int)) × (List (Int × Int)) × Int) => camshaftlaw09_Plain.b0 n F x.1 x.2.1 x.2.2) f (s, s.take i, (i : Int)) = some s
  | 0, i, hi, hf => by omega
  | f + 1, i, hi, hf => by
    have ih := plain_loop n hs f (i + 1)
    show camshaftlaw09_Plain.b0 n (it _ f) s (s.take i) (i : Int) = _
    generalize it (fun F (x : (List (Int × Int)) × (List (Int × Int)) × Int) => camshaftlaw09_Plain.b0 n F x.1 x.2.1 x.2.2) f = F at ih ⊢
    unfold camshaftlaw09_Plain.b0
    rcases Nat.lt_or_ge i s.length with hlt | hge
    · have hcap : (decide (((s.take i).length + 1) * 16 ≤ 140737488355328) && decide (1 ≤ 16)) = true := by simp; omega
      have e : s.take i ++ [((s.getD i ((0 : Int), (0 : Int))).1, (s.getD i ((0 : Int), (0 : Int))).2)] = s.take (i + 1) := by
        rw [List.take_succ_eq_append_getElem hlt, List.getD_eq_getElem?_getD, List.getElem?_eq_getElem hlt]
        rfl
      simp only [if_pos (in_ix hlt), Int.toNat_natCast, next_ix (show i < 1000000 by omega), e]
      rw [if_pos (decide_eq_true (by omega)), if_pos hcap]
      exact ih (by omega) (by omega)
    · have : i = s.length := by omega
      subst this
      rw [if_neg (by simp), List.take_length]
theorem plain_is (n : Nat) (s : List (Int × Int)) (hs : s.length < n) (hn : n < 1000000) : camshaftlaw09_Plain.f n s = some s := by
  unfold camshaftlaw09_Plain.f camshaftlaw09_Plain.b0.l
  have h0 := plain_loop n (s := s) (by omega) n 0 (Nat.zero_le _) (by omega)
  rw [show ((0 : Nat) : Int) = 0 from rfl, List.take_zero] at h0
  rw [h0]
  rfl
theorem same_loop (n : Nat) {s : List (Int × Int)} (hs : s.length < 1000000) : ∀ (f i : Nat), i ≤ s.length → s.length < f + i →
    it (fun F (x : (List (Int × Int)) × (List (Int × Int)) × Int) => camshaftref09_Same.b0 n F x.1 x.2.1 x.2.2) f (s, s, (i : Int)) = some (.inr ((), ()))
  | 0, i, hi, hf => by omega
  | f + 1, i, hi, hf => by
    have ih := same_loop n hs f (i + 1)
    show camshaftref09_Same.b0 n (it _ f) s s (i : Int) = _
    generalize it (fun F (x : (List (Int × Int)) × (List (Int × Int)) × Int) => camshaftref09_Same.b0 n F x.1 x.2.1 x.2.2) f = F at ih ⊢
    unfold camshaftref09_Same.b0
    rcases Nat.lt_or_ge i s.length with hlt | hge
    · simp only [if_pos (in_ix hlt), Int.toNat_natCast, next_ix (show i < 1000000 by omega)]
      rw [if_pos (decide_eq_true (by omega)), if_neg (by simp)]
      exact ih (by omega) (by omega)
    · have : i = s.length := by omega
      subst this
      rw [if_neg (by simp)]
theorem same_is (n : Nat) (s : List (Int × Int)) (hs : s.length < n) (hn : n < 1000000) : camshaftref09_Same.f n s s = some true := by
  unfold camshaftref09_Same.f camshaftref09_Same.b0.l
  have h0 := same_loop n (s := s) (by omega) n 0 (Nat.zero_le _) (by omega)
  rw [show ((0 : Nat) : Int) = 0 from rfl] at h0
  rw [if_neg (by simp), h0]
  rfl
theorem sectS_len {l : List Ins} {m : List Int} {n : Nat} : ∀ (r i : Nat), (sectS l m n r i).length ≤ r
  | 0, i => Nat.le_refl _
  | r + 1, i => by
    have := sectS_len (l := l) (m := m) (n := n) r (i + 1)
    unfold sectS
    rw [List.length_append]
    split <;> simp <;> omega
theorem sectI_len (n : Nat) (l : List Ins) : (sectI n l).1.length ≤ l.length := by
  unfold sectI
  split
  · exact Nat.zero_le _
  · exact sectS_len _ _
theorem known_is : camshaftlaw09_known.f 300 = some true := by kernel_rfl
end Go.Proofs.Dk

/- Plain: longest ways: what stands in a way is no longer than it. -/
namespace Go.Proofs.Dk
open Go
set_option maxRecDepth 100000
set_option linter.unusedVariables false
set_option linter.unusedSimpArgs false
theorem putM_ge {D : Nat → Int} {k : Nat} {v : Int} (hv : 0 ≤ v) (hD : StepsI (D k)) : ∀ j, D j ≤ putI bM D k v j := fun j => by
  unfold putI
  by_cases e : j = k
  · subst e
    rw [if_pos rfl]
    split
    · omega
    · unfold bM; split <;> omega
  · rw [if_neg e]; omega
theorem putM_at {D : Nat → Int} {k : Nat} {v : Int} (hv : 0 ≤ v) : v ≤ putI bM D k v k := by
  unfold putI
  rw [if_pos rfl]
  split
  · omega
  · unfold bM; split <;> omega
theorem putsM_ge {v : Int} (hv : 0 ≤ v ∧ v ≤ 1048577) : ∀ (ks : List Nat) {D : Nat → Int}, (∀ k, StepsI (D k)) → (∀ j, D j ≤ ks.foldl (fun g k => putI bM g k v) D j) ∧ ∀ j ∈ ks, v ≤ ks.foldl (fun g k => putI bM g k v) D j
  | [], D, hD => ⟨fun j => Int.le_refl _, fun j hj => by cases hj⟩
  | q :: ks, D, hD => by
    obtain ⟨h1, h2⟩ := putsM_ge hv ks (D := putI bM D q v) (putI_ok bM_bet hD q hv)
    refine ⟨fun j => Int.le_trans (putM_ge hv.1 (hD q) j) (h1 j), fun j hj => ?_⟩
    rcases List.mem_cons.1 hj with e | e
    · subst e
      exact Int.le_trans (putM_at hv.1) (h1 j)
    · exact h2 j e
theorem StepsI.nn {v : Int} (h : StepsI v) (h1 : v ≠ -1) : 0 ≤ v ∧ v ≤ 1048577 := h.elim (fun h => absurd h h1) id
theorem stepM_ge {W : Nat → Nat → Int} {l : List Ins} {m : List Int} {i : Nat} {D : Nat → Int} (hD : ∀ k, StepsI (D k)) (hr : rightI (l.getD i (0, 0, 0)) = true) (hW : opAt l i = 21 → StepsI (W (i + 1) (mN m i))) : (∀ j, D j ≤ stepW bM W l m i D j) ∧ (D i ≠ -1 → ∀ j ∈ hopsI l m i, addI (D i) (costI W l m i) ≤ stepW bM W l m i D j) := by
  unfold stepW
  by_cases e : D i = -1
  · rw [if_pos e]
    exact ⟨fun j => Int.le_refl _, fun h => absurd e h⟩
  · rw [if_neg e]
    obtain ⟨h1, h2⟩ := putsM_ge (addI_ok ((hD i).nn e).1 (costI_ok hr hW).1) (hopsI l m i) hD
    exact ⟨h1, fun _ => h2⟩
theorem addI_le {a b c d : Int} (h : a ≤ b) (k : c ≤ d) : addI a c ≤ addI b d := by unfold addI; split <;> split <;> omega
theorem addI_left {a b : Int} (ha : a ≤ 1048577) (hb : 0 ≤ b) : a ≤ addI a b := by unfold addI; split <;> omega
theorem addI_assoc {a b c : Int} (ha : 0 ≤ a) (hb : 0 ≤ b) (hc : 0 ≤ c) : addI (addI a b) c = addI a (addI b c) := by unfold addI; split <;> split <;> split <;> (try split) <;> omega
theorem addI_comm (a b : Int) : addI a b = addI b a := by unfold addI; rw [Int.add_comm]
theorem right_jump {A B o : Int} (ho : o = 19 ∨ o = 20) (h : rightI (o, A, B) = true) : 0 ≤ A ∧ A ≤ 199 := by
  rcases ho with rfl | rfl
  · have h1 := (right_is 0 (19, A, B)).symm.trans (opR19 0 A B)
    rw [h] at h1
    by_cases h2 : 0 ≤ A
    · by_cases h3 : A ≤ 199
      · exact ⟨h2, h3⟩
      · simp [h2, h3] at h1
    · simp [h2] at h1
  · have h1 := (right_is 0 (20, A, B)).symm.trans (opR20 0 A B)
    rw [h] at h1
    by_cases h2 : 0 ≤ A
    · by_cases h3 : A ≤ 199
      · exact ⟨h2, h3⟩
      · simp [h2, h3] at h1
    · simp [h2] at h1
/-- Where instructions of a way go to. -/
theorem Reg.hop {l : List Ins} {m : List Int} {a z : Nat} (hR : Reg l m a z) {i : Nat} (h1 : a ≤ i) (h2 : i < z) : hopsI l m i ≠ [] ∧ ∀ k ∈ hopsI l m i, i < k ∧ k ≤ z := by
  unfold hopsI
  by_cases h21 : opAt l i = 21
  · rw [if_pos h21]
    obtain ⟨j, j1, j2, j3⟩ := hR.loop i h1 h2 (isOpen_iff.2 (.inl h21))
    refine ⟨by simp, fun k hk => ?_⟩
    have : k = mN m i + 1 := by simpa using hk
    unfold mN at this
    rw [j1] at this
    simp at this
    omega
  · rw [if_neg h21]
    by_cases h19 : opAt l i = 19
    · rw [if_pos h19]
      have := hR.jump i h1 h2 (.inl h19)
      refine ⟨by simp, fun k hk => ?_⟩
      have e : k = jumpTo l i := by simpa using hk
      subst e
      refine ⟨?_, this⟩
      unfold jumpTo
      omega
    · rw [if_neg h19]
      by_cases h20 : opAt l i = 20
      · rw [if_pos h20]
        have := hR.jump i h1 h2 (.inr h20)
        refine ⟨by simp, fun k hk => ?_⟩
        have e : k = jumpTo l i ∨ k = i + 1 := by simpa using hk
        rcases e with e | e
        · subst e
          refine ⟨?_, this⟩
          unfold jumpTo
          omega
        · omega
      · rw [if_neg h20]
        exact ⟨by simp, fun k hk => by
          have e : k = i + 1 := by simpa using hk
          omega⟩
theorem runW_add {b : Int → Int → Int} {W : Nat → Nat → Int} {l : List Ins} {m : List Int} : ∀ (r s i : Nat) (D : Nat → Int), runW b W l m (r + s) i D = runW b W l m s (i + r) (runW b W l m r i D)
  | 0, s, i, D => by rw [Nat.zero_add]; rfl
  | r + 1, s, i, D => by
    rw [show r + 1 + s = (r + s) + 1 by omega]
    show runW b W l m (r + s) (i + 1) _ = runW b W l m s (i + (r + 1)) (runW b W l m r (i + 1) _)
    rw [runW_add r s (i + 1), show i + 1 + r = i + (r + 1) by omega]
/-- No way gets shorter. -/
theorem runM_ge {W : Nat → Nat → Int} {l : List Ins} {m : List Int} (hr : ∀ i, i < l.length → rightI (l.getD i (0, 0, 0)) = true) : ∀ (r i : Nat) {D : Nat → Int}, (∀ k, StepsI (D k)) → r + i ≤ l.length → (∀ k, i ≤ k → k < r + i → opAt l k = 21 → StepsI (W (k + 1) (mN m k))) → ∀ j, D j ≤ runW bM W l m r i D j
  | 0, i, D, hD, hl, hW, j => Int.le_refl _
  | r + 1, i, D, hD, hl, hW, j => by
    have hWi := hW i (Nat.le_refl _) (by omega)
    have hri := hr i (by omega)
    exact Int.le_trans ((stepM_ge hD hri hWi).1 j) (runM_ge hr r (i + 1) (stepW_ok bM_bet hD hri hWi) (by omega) (fun k h1 h2 => hW k (by omega) (by omega)) j)
/-- What has been come to goes on to the end. -/
theorem runM_end {W : Nat → Nat → Int} {l : List Ins} {m : List Int} (hr : ∀ i, i < l.length → rightI (l.getD i (0, 0, 0)) = true) {a z : Nat} (hR : Reg l m a z) (hW : ∀ i, a ≤ i → i < z → opAt l i = 21 → StepsI (W (i + 1) (mN m i))) {c : Int} (hc : 0 ≤ c) : ∀ (r i : Nat) {D : Nat → Int}, (∀ k, StepsI (D k)) → a ≤ i → i + r = z → (∃ k, i ≤ k ∧ k ≤ z ∧ c ≤ D k) → c ≤ runW bM W l m r i D z
  | 0, i, D, hD, hi, hz, ⟨k, k1, k2, k3⟩ => by
    have : k = z := by omega
    subst this
    exact k3
  | r + 1, i, D, hD, hi, hz, ⟨k, k1, k2, k3⟩ => by
    have hlt := hR.lt
    have hWi := hW i hi (by omega)
    have hri := hr i (by omega)
    obtain ⟨s1, s2⟩ := stepM_ge hD hri hWi
    refine runM_end hr hR hW hc r (i + 1) (stepW_ok bM_bet hD hri hWi) (by omega) (by omega) ?_
    by_cases e : k = i
    · subst e
      have hDk : D k ≠ -1 := by omega
      obtain ⟨n1, n2⟩ := hR.hop hi (by omega)
      obtain ⟨q, qs, hq⟩ := List.exists_cons_of_ne_nil n1
      have hqm : q ∈ hopsI l m k := by rw [hq]; exact List.mem_cons_self ..
      obtain ⟨q1, q2⟩ := n2 q hqm
      refine ⟨q, by omega, q2, ?_⟩
      have := s2 hDk q hqm
      have h3 := addI_left ((hD k).nn hDk).2 (costI_ok hri hWi).1
      omega
    · exact ⟨k, by omega, k2, Int.le_trans k3 (s1 k)⟩
theorem runW_congr {b : Int → Int → Int} {W W' : Nat → Nat → Int} {l : List Ins} {m : List Int} : ∀ (r i : Nat) (D : Nat → Int), (∀ k, i ≤ k → k < i + r → opAt l k = 21 → W (k + 1) (mN m k) = W' (k + 1) (mN m k)) → runW b W l m r i D = runW b W' l m r i D
  | 0, i, D, h => rfl
  | r + 1, i, D, h => by
    have e : costI W l m i = costI W' l m i := by
      unfold costI
      by_cases e : opAt l i = 21
      · rw [if_pos e, if_pos e, h i (Nat.le_refl _) (by omega) e]
      · rw [if_neg e, if_neg e]
    have e2 : stepW b W l m i D = stepW b W' l m i D := by unfold stepW; rw [e]
    show runW b W l m r (i + 1) _ = runW b W' l m r (i + 1) _
    rw [e2]
    exact runW_congr r (i + 1) _ fun k h1 h2 => h k (by omega) (by omega)
/-- Rounds enough. -/
theorem wayF_fuel {b : Int → Int → Int} {l : List Ins} {m h : List Int} (hF : Fine l m h) : ∀ (f g : Nat) {a z : Nat}, Reg l m a z → z - a < f → z - a < g → wayF b l m f a z = wayF b l m g a z
  | 0, g, a, z, hR, h1, h2 => by omega
  | f + 1, 0, a, z, hR, h1, h2 => by omega
  | f + 1, g + 1, a, z, hR, h1, h2 => by
    have hle := hR.le
    have hlt := hR.lt
    unfold wayF
    rw [runW_congr (z - a) a (startW a) fun k k1 k2 k3 => ?_]
    obtain ⟨j, j1, j2, j3⟩ := hR.loop k k1 (by omega) (isOpen_iff.2 (.inl k3))
    have hj : mN m k = j := by unfold mN; rw [j1]; rfl
    rw [hj]
    exact wayF_fuel hF f g (hj ▸ hF.reg (by omega) (isOpen_iff.2 (.inl k3))) (by omega) (by omega)
/-- A way that stands in another one, from a place that has been come to. -/
theorem runM_in {W : Nat → Nat → Int} {l : List Ins} {m : List Int} (hr : ∀ i, i < l.length → rightI (l.getD i (0, 0, 0)) = true) {c : Int} (hc : 0 ≤ c ∧ c ≤ 1048577) : ∀ (r i : Nat) {D D0 : Nat → Int}, (∀ k, StepsI (D k)) → (∀ k, StepsI (D0 k)) → r + i ≤ l.length → (∀ k, i ≤ k → k < r + i → opAt l k = 21 → StepsI (W (k + 1) (mN m k))) → (∀ j, i ≤ j → D0 j ≠ -1 → addI c (D0 j) ≤ D j) → ∀ j, i + r ≤ j → runW bM W l m r i D0 j ≠ -1 → addI c (runW bM W l m r i D0 j) ≤ runW bM W l m r i D j
  | 0, i, D, D0, hD, hD0, hl, hW, h, j, hj, hn => h j hj hn
  | r + 1, i, D, D0, hD, hD0, hl, hW, h, j, hj, hn => by
    have hWi := hW i (Nat.le_refl _) (by omega)
    have hri := hr i (by omega)
    have hco := costI_ok hri hWi
    obtain ⟨s1, s2⟩ := stepM_ge hD hri hWi
    refine runM_in hr hc r (i + 1) (stepW_ok bM_bet hD hri hWi) (stepW_ok bM_bet hD0 hri hWi) (by omega) (fun k h1 h2 => hW k (by omega) (by omega)) (fun q hq hq2 => ?_) j (by omega) hn
    by_cases e : D0 i = -1
    · have e2 : stepW bM W l m i D0 = D0 := by unfold stepW; rw [if_pos e]
      rw [e2] at hq2 ⊢
      exact Int.le_trans (h q (by omega) hq2) (s1 q)
    · have hi := h i (Nat.le_refl _) e
      have hD0i := (hD0 i).nn e
      have hci := addI_ok hc.1 hD0i.1
      have hDi : D i ≠ -1 := by omega
      have hDi2 := (hD i).nn hDi
      have s2 := s2 hDi
      have hv : addI c (addI (D0 i) (costI W l m i)) ≤ addI (D i) (costI W l m i) := by
        rw [← addI_assoc hc.1 hD0i.1 hco.1]
        exact addI_le hi (Int.le_refl _)
      have key : ∀ (ks : List Nat) {E : Nat → Int}, (∀ k, StepsI (E k)) → (∀ k ∈ ks, k ∈ hopsI l m i) → (∀ k, i + 1 ≤ k → E k ≠ -1 → addI c (E k) ≤ stepW bM W l m i D k) → ∀ k, i + 1 ≤ k → ks.foldl (fun g k => putI bM g k (addI (D0 i) (costI W l m i))) E k ≠ -1 → addI c (ks.foldl (fun g k => putI bM g k (addI (D0 i) (costI W l m i))) E k) ≤ stepW bM W l m i D k := by
        intro ks
        induction ks with
        | nil => intro E hE hk h0 k hk2 hn; exact h0 k hk2 hn
        | cons q ks ih =>
          intro E hE hk h0
          refine ih (putI_ok bM_bet hE q (addI_ok hD0i.1 hco.1)) (fun k h => hk k (List.mem_cons_of_mem _ h)) (fun k hk2 hn => ?_)
          show addI c (putI bM E q (addI (D0 i) (costI W l m i)) k) ≤ _
          replace hn : putI bM E q (addI (D0 i) (costI W l m i)) k ≠ -1 := hn
          by_cases ek : k = q
          · subst ek
            have h1 := s2 k (hk k (List.mem_cons_self ..))
            unfold putI at hn ⊢
            rw [if_pos rfl] at hn ⊢
            by_cases eE : E k = -1
            · rw [if_pos eE]
              exact Int.le_trans hv h1
            · rw [if_neg eE]
              have h2 := h0 k hk2 eE
              unfold bM
              split
              · exact Int.le_trans hv h1
              · exact h2
          · unfold putI at hn ⊢
            rw [if_neg ek] at hn ⊢
            exact h0 k hk2 hn
      have e2 : stepW bM W l m i D0 = (hopsI l m i).foldl (fun g k => putI bM g k (addI (D0 i) (costI W l m i))) D0 := by unfold stepW; rw [if_neg e]
      rw [e2] at hq2 ⊢
      exact key (hopsI l m i) hD0 (fun k h => h) (fun k hk hn => Int.le_trans (h k (by omega) hn) (s1 k)) q hq hq2
/-- A block's way within another way. -/
theorem way_lock {l : List Ins} {m h : List Int} (hF : Fine l m h) (hC : Closed l m) (hS : Come l) {n : Nat} (hn : l.length < n) {a z : Nat} (hR : Way l m a z) {q : Nat} (hq : RIn l m a z q) (hqz : q < z) (ho : opAt l q = 23) : addI 2 (wayF bM l m n (q + 1) (mN m q)) ≤ wayF bM l m n a z := by
  have hlt := hR.reg.lt
  obtain ⟨q1, q2, q3⟩ := hq
  have hqo : isOpen l q = true := isOpen_iff.2 (.inr ho)
  obtain ⟨j, j1, j2, j3⟩ := hR.reg.loop q q1 hqz hqo
  have hj : mN m q = j := by unfold mN; rw [j1]; rfl
  rw [hj]
  obtain ⟨n, rfl⟩ : ∃ n', n = n' + 1 := ⟨n - 1, by omega⟩
  have hRq : Reg l m (q + 1) j := hj ▸ hF.reg (by omega) hqo
  have hr : ∀ i, i < l.length → rightI (l.getD i (0, 0, 0)) = true := fun i hi => hF.right hi
  have hW : ∀ i, a ≤ i → i < z → opAt l i = 21 → StepsI (wayF bM l m n (i + 1) (mN m i)) := fun i i1 i2 i3 => wayF_ok bM_bet hF n (hF.reg (by omega) (isOpen_iff.2 (.inl i3)))
  have hopj : opAt l j = 24 := by
    obtain ⟨j', c1, c2, c3, c4, c5⟩ := hC.op_ q (by omega) hqo
    rw [j1] at c1
    have : j = j' := by omega
    subst this
    show (l.getD j (0, 0, 0)).1 = 24
    rw [c4]
    unfold ends
    rw [if_neg (by show ¬ (l.getD q (0, 0, 0)).1 = 21; rw [show (l.getD q (0, 0, 0)).1 = 23 from ho]; decide)]
  show addI 2 (runW bM (wayF bM l m n) l m (j - (q + 1)) (q + 1) (startW (q + 1)) j) ≤ runW bM (wayF bM l m n) l m (z - a) a (startW a) z
  -- to the block
  rw [show z - a = (q - a) + (z - q) by omega, runW_add, show a + (q - a) = q by omega]
  have hD1 : ∀ k, StepsI (runW bM (wayF bM l m n) l m (q - a) a (startW a) k) := runW_ok bM_bet hr (q - a) a (startW_ok a) (by omega) (fun k k1 k2 => hW k k1 (by omega))
  have hDq : runW bM (wayF bM l m n) l m (q - a) a (startW a) q ≠ -1 := by
    have hRq' : ∀ k, RIn l m a z k → k ≤ q → runW bM (wayF bM l m n) l m (q - a) a (startW a) k ≠ -1 := by
      -- reached ahead of it
      have gen : ∀ (r i : Nat) {D : Nat → Int}, (∀ k, StepsI (D k)) → a ≤ i → i + r = q → (∀ k, RIn l m a z k → k = a ∨ (∃ p, RIn l m a z p ∧ p < i ∧ k ∈ hopsI l m p) → D k ≠ -1) → ∀ k, RIn l m a z k → k ≤ q → runW bM (wayF bM l m n) l m r i D k ≠ -1 := by
        intro r
        induction r with
        | zero =>
          intro i D hD hi hz hI k hk hkq
          refine hI k hk ?_
          by_cases e : k = a
          · exact .inl e
          · obtain ⟨p, p1, p2, p3⟩ := pred_in hF hS hR hk (by have := hk.1; omega)
            exact .inr ⟨p, p1, by omega, p3⟩
        | succ r ih =>
          intro i D hD hi hz hI k hk hkq
          have hWi := hW i hi (by omega)
          have hri := hr i (by omega)
          refine ih (i + 1) (stepW_ok bM_bet hD hri hWi) (by omega) (by omega) (fun k' hk' hp => ?_) k hk hkq
          obtain ⟨s1, s2⟩ := stepM_ge hD hri hWi
          have old : D k' ≠ -1 → stepW bM (wayF bM l m n) l m i D k' ≠ -1 := fun h => by
            have := s1 k'
            have := ((hD k').nn h).1
            omega
          rcases hp with h1 | ⟨p, p1, p2, p3⟩
          · exact old (hI k' hk' (.inl h1))
          · by_cases e : p = i
            · subst e
              have hDp : D p ≠ -1 := by
                refine hI p p1 ?_
                by_cases e : p = a
                · exact .inl e
                · obtain ⟨p', a1, a2, a3⟩ := pred_in hF hS hR p1 (by omega)
                  exact .inr ⟨p', a1, a2, a3⟩
              have h3 := s2 hDp k' p3
              have h4 := addI_ok ((hD p).nn hDp).1 (costI_ok hri hWi).1
              omega
            · exact old (hI k' hk' (.inr ⟨p, p1, by omega, p3⟩))
      intro k hk hkq
      refine gen (q - a) a (startW_ok a) (Nat.le_refl _) (by omega) (fun k' hk' hp => ?_) k hk hkq
      rcases hp with e | ⟨p, p1, p2, _⟩
      · subst e; unfold startW; rw [if_pos rfl]; decide
      · have := p1.1; omega
    exact hRq' q ⟨q1, q2, q3⟩ (Nat.le_refl _)
  generalize hDD : runW bM (wayF bM l m n) l m (q - a) a (startW a) = D at hD1 hDq
  have hd := (hD1 q).nn hDq
  -- the block's own step
  rw [show z - q = 1 + ((j - (q + 1)) + (z - j)) by omega, runW_add]
  show addI 2 _ ≤ runW bM (wayF bM l m n) l m ((j - (q + 1)) + (z - j)) (q + 1) (stepW bM (wayF bM l m n) l m q D) z
  have hWq := hW q q1 hqz
  have hrq := hr q (by omega)
  obtain ⟨s1, s2⟩ := stepM_ge hD1 hrq hWq
  have hD2 := stepW_ok bM_bet hD1 hrq hWq
  have hop : hopsI l m q = [q + 1] := by unfold hopsI; rw [if_neg (by rw [ho]; decide), if_neg (by rw [ho]; decide), if_neg (by rw [ho]; decide)]
  have hcq : costI (wayF bM l m n) l m q = 1 := by unfold costI; rw [if_neg (by rw [ho]; decide)]
  have h2 := s2 hDq (q + 1) (by rw [hop]; simp)
  rw [hcq] at h2
  generalize stepW bM (wayF bM l m n) l m q D = D2 at hD2 h2
  have h3 : (1 : Int) ≤ D2 (q + 1) := by
    have : (1 : Int) ≤ addI (D q) 1 := by unfold addI; split <;> omega
    omega
  -- what stands in it
  rw [runW_add, show q + 1 + (j - (q + 1)) = j by omega]
  have hw0 := way_reach bM_bet hF hS (n + 1) (show Way l m (q + 1) j from hj ▸ hF.way (by omega) hqo)
  have hw1 : wayF bM l m (n + 1) (q + 1) j = runW bM (wayF bM l m n) l m (j - (q + 1)) (q + 1) (startW (q + 1)) j := rfl
  rw [hw1] at hw0
  have h4 := runM_in hr (c := 1) (by decide) (W := wayF bM l m n) (j - (q + 1)) (q + 1) (D := D2) (D0 := startW (q + 1)) hD2 (startW_ok _) (by omega) (fun k k1 k2 => hW k (by omega) (by omega)) (fun k k1 k2 => by
    unfold startW at k2 ⊢
    by_cases e : k = q + 1
    · subst e; rw [if_pos rfl]; unfold addI; split <;> omega
    · rw [if_neg e] at k2; exact absurd rfl k2) j (by omega) (by omega)
  have hD3 := runW_ok bM_bet hr (W := wayF bM l m n) (j - (q + 1)) (q + 1) hD2 (by omega) (fun k k1 k2 => hW k (by omega) (by omega))
  generalize runW bM (wayF bM l m n) l m (j - (q + 1)) (q + 1) (startW (q + 1)) j = w at hw0 h4
  generalize runW bM (wayF bM l m n) l m (j - (q + 1)) (q + 1) D2 = D3 at hD3 h4
  -- behind it
  rw [show z - j = (z - (j + 1)) + 1 by omega]
  show addI 2 w ≤ runW bM (wayF bM l m n) l m (z - (j + 1)) (j + 1) (stepW bM (wayF bM l m n) l m j D3) z
  have hWj := hW j (by omega) (by omega)
  have hrj := hr j (by omega)
  obtain ⟨t1, t2⟩ := stepM_ge hD3 hrj hWj
  have h1w := addI_ok (show (0 : Int) ≤ 1 by decide) hw0.1
  have hDj : D3 j ≠ -1 := by omega
  have hopj' : hopsI l m j = [j + 1] := by unfold hopsI; rw [if_neg (by rw [hopj]; decide), if_neg (by rw [hopj]; decide), if_neg (by rw [hopj]; decide)]
  have hcj : costI (wayF bM l m n) l m j = 1 := by unfold costI; rw [if_neg (by rw [hopj]; decide)]
  have h5 := t2 hDj (j + 1) (by rw [hopj']; simp)
  rw [hcj] at h5
  refine runM_end hr hR.reg hW (by have := addI_ok (show (0 : Int) ≤ 2 by decide) hw0.1; omega) (z - (j + 1)) (j + 1) (stepW_ok bM_bet hD3 hrj hWj) (by omega) (by omega) ⟨j + 1, by omega, by omega, ?_⟩
  refine Int.le_trans ?_ h5
  have : addI 2 w = addI (addI 1 w) 1 := by unfold addI; split <;> split <;> (try split) <;> omega
  rw [this]
  exact addI_le h4 (Int.le_refl _)
end Go.Proofs.Dk

/- Plain: sections stand in one another. -/
namespace Go.Proofs.Dk
open Go
set_option maxRecDepth 100000
set_option linter.unusedVariables false
set_option linter.unusedSimpArgs false
theorem locks_ok {l : List Ins} (h : locksI l = 0) {i : Nat} (hi : i < l.length) : badI l (scanI l).1 i = false := by
  have hw := locks_whole h
  unfold locksI at h
  rw [if_neg (show ¬ (wholeI l ≠ 0) from fun k => k hw)] at h
  by_cases ha : allF (okQ l (scanI l).1) l.length 0 = true
  · have := allF_iff.1 ha i (Nat.zero_le _) (by omega)
    unfold okQ at this
    simpa using this
  · rw [if_neg ha] at h
    cases h
/-- Blocks that are locked: each one stands in those ahead of it. -/
theorem locks_in {l : List Ins} (h : locksI l = 0) {p q : Nat} (hpq : p < q) (hq : q < l.length) (hp3 : opAt l p = 23) (hq3 : opAt l q = 23) : q < mN (scanI l).1 p ∧ argA l p < argA l q := by
  have hs := whole_scan (locks_whole h)
  have hC := scanI_closed hs
  have hb := locks_ok h hq
  unfold badI at hb
  rw [if_pos hq3, Bool.or_eq_false_iff] at hb
  obtain ⟨hb1, hb2⟩ := hb
  obtain ⟨j, j1, j2, j3, j4, j5⟩ := hC.op_ p (by omega) (isOpen_iff.2 (.inr hp3))
  have hj : mN (scanI l).1 p = j := by unfold mN; rw [j1]; rfl
  have hopj : opAt l j = 24 := by
    show (l.getD j (0, 0, 0)).1 = 24
    rw [j4]
    unfold ends
    rw [if_neg (by rw [show (l.getD p (0, 0, 0)).1 = 23 from hp3]; decide)]
  have hlt : q < j := by
    rcases Nat.lt_trichotomy j q with hlt | he | hgt
    · exfalso
      have : freedB l q = true := anyB_iff.2 ⟨j, hlt, by simp [hopj]⟩
      rw [this] at hb1; cases hb1
    · subst he; rw [hopj] at hq3; cases hq3
    · exact hgt
  refine ⟨by omega, ?_⟩
  rcases Int.lt_or_le (argA l p) (argA l q) with h1 | h1
  · exact h1
  · exfalso
    have he : enc l (scanI l).1 p q = true := (enc_iff (isOpen_iff.2 (.inr hp3)) j1).2 ⟨hpq, by omega⟩
    have : overB l (scanI l).1 q = true := anyB_iff.2 ⟨p, hpq, by rw [he, hp3]; simp; exact h1⟩
    rw [this] at hb2; cases hb2
/-- No block is locked in a loop. -/
theorem locks_rin {l : List Ins} (h : locksI l = 0) {a z q : Nat} (ha : a ≤ q) (hz : q ≤ z) (hq : q < l.length) (hq3 : opAt l q = 23) : RIn l (scanI l).1 a z q := by
  have hs := whole_scan (locks_whole h)
  have hC := scanI_closed hs
  have hb := locks_ok h hq
  unfold badI at hb
  rw [if_pos hq3, Bool.or_eq_false_iff] at hb
  refine ⟨ha, hz, fun p p1 p2 p3 => ?_⟩
  obtain ⟨j, j1, j2, j3, j4, j5⟩ := hC.op_ p (by omega) (isOpen_iff.2 (.inl p3))
  have hj : mN (scanI l).1 p = j := by unfold mN; rw [j1]; rfl
  rcases Nat.lt_or_ge (mN (scanI l).1 p) q with h1 | h1
  · exact h1
  · exfalso
    have he : enc l (scanI l).1 p q = true := (enc_iff (isOpen_iff.2 (.inl p3)) j1).2 ⟨p2, by omega⟩
    have : overB l (scanI l).1 q = true := anyB_iff.2 ⟨p, p2, by rw [he, p3]; simp⟩
    rw [this] at hb; cases hb.2
theorem sect_mem {l : List Ins} {m : List Int} {n : Nat} : ∀ (r i : Nat), ∀ e ∈ sectS l m n r i, ∃ p, i ≤ p ∧ p < i + r ∧ opAt l p = 23 ∧ e = (argA l p, wayF bM l m n (p + 1) (mN m p) + 1)
  | 0, i, e, he => by cases he
  | r + 1, i, e, he => by
    unfold sectS at he
    rcases List.mem_append.1 he with h | h
    · split at h
      · rename_i h3
        refine ⟨i, Nat.le_refl _, by omega, h3, ?_⟩
        simpa using h
      · cases h
    · obtain ⟨p, p1, p2, p3⟩ := sect_mem r (i + 1) e h
      exact ⟨p, by omega, by omega, p3⟩
theorem fine_closed {l : List Ins} (h : locksI l = 0) : Fine l (scanI l).1 (scanI l).2.1 ∧ Closed l (scanI l).1 := ⟨whole_fine (locks_whole h), scanI_closed (whole_scan (locks_whole h))⟩
/-- A section's length, and what it tells of the one around it. -/
theorem sect_pair {l : List Ins} {n : Nat} (h : locksI l = 0) (hS : Come l) (hn : l.length < n) (hw : wayF bM l (scanI l).1 n 0 (l.length - 1) < 1048577) : ∀ (r i : Nat), i + r = l.length → (sectS l (scanI l).1 n r i).Pairwise (fun a b => b.2 + 2 ≤ a.2 ∧ a.1 < b.1) ∧ ∀ e ∈ sectS l (scanI l).1 n r i, 1 ≤ e.2 ∧ e.2 + 1 ≤ wayF bM l (scanI l).1 n 0 (l.length - 1) := by
  obtain ⟨hF, hC⟩ := fine_closed h
  obtain ⟨l1, l2⟩ := hF.len
  have hend : ∀ p, p < l.length → opAt l p = 23 → p < l.length - 1 := fun p hp h3 => by
    have := hF.succ hp (by rw [h3]; decide)
    omega
  have one : ∀ p, p < l.length → opAt l p = 23 → 0 ≤ wayF bM l (scanI l).1 n (p + 1) (mN (scanI l).1 p) ∧ wayF bM l (scanI l).1 n (p + 1) (mN (scanI l).1 p) + 2 ≤ wayF bM l (scanI l).1 n 0 (l.length - 1) := fun p hp h3 => by
    have k1 := way_lock hF hC hS hn hF.wayAll (locks_rin h (Nat.zero_le p) (by have := hend p hp h3; omega) hp h3) (hend p hp h3) h3
    have k2 := way_reach bM_bet hF hS n (hF.way hp (isOpen_iff.2 (.inr h3)))
    refine ⟨k2.1, ?_⟩
    unfold addI at k1
    split at k1 <;> omega
  intro r
  induction r with
  | zero => intro i hi; exact ⟨List.Pairwise.nil, fun e he => by cases he⟩
  | succ r ih =>
    intro i hi
    obtain ⟨g1, g2⟩ := ih (i + 1) (by omega)
    unfold sectS
    by_cases h3 : opAt l i = 23
    · rw [if_pos h3]
      have hi1 : i < l.length := by omega
      obtain ⟨o1, o2⟩ := one i hi1 h3
      refine ⟨List.Pairwise.cons (fun e he => ?_) g1, fun e he => ?_⟩
      · obtain ⟨p, p1, p2, p3, rfl⟩ := sect_mem r (i + 1) e he
        have hp1 : p < l.length := by omega
        obtain ⟨c1, c2⟩ := locks_in h (show i < p by omega) hp1 h3 p3
        have k1 := way_lock hF hC hS hn (hF.way hi1 (isOpen_iff.2 (.inr h3))) (locks_rin h (show i + 1 ≤ p by omega) (by omega) hp1 p3) c1 p3
        have k2 := (one p hp1 p3).1
        refine ⟨?_, c2⟩
        show _ + 1 + 2 ≤ _ + 1
        unfold addI at k1
        split at k1 <;> omega
      · rcases List.mem_cons.1 he with rfl | he
        · exact ⟨by show 1 ≤ _ + 1; omega, by show _ + 1 + 1 ≤ _; omega⟩
        · exact g2 e he
    · rw [if_neg h3, List.nil_append]
      exact ⟨g1, g2⟩
/-- The fewest are no more than the most. -/
theorem put_le {D E : Nat → Int} (hD : ∀ k, StepsI (D k)) (hE : ∀ k, StepsI (E k)) (h : ∀ k, (D k = -1 ↔ E k = -1) ∧ D k ≤ E k) {k : Nat} {u v : Int} (huv : u ≤ v) (hu : 0 ≤ u) : ∀ j, (putI bL D k u j = -1 ↔ putI bM E k v j = -1) ∧ putI bL D k u j ≤ putI bM E k v j := fun j => by
  unfold putI
  by_cases e : j = k
  · subst e
    rw [if_pos rfl, if_pos rfl]
    obtain ⟨h1, h2⟩ := h j
    by_cases e2 : D j = -1
    · rw [if_pos e2, if_pos (h1.1 e2)]
      exact ⟨by constructor <;> intro <;> omega, huv⟩
    · have e3 : ¬ E j = -1 := fun k => e2 (h1.2 k)
      rw [if_neg e2, if_neg e3]
      have a1 := ((hD j).nn e2).1
      have a2 := ((hE j).nn e3).1
      unfold bL bM
      split <;> split <;> exact ⟨by constructor <;> intro <;> omega, by omega⟩
  · rw [if_neg e, if_neg e]
    exact h j
theorem puts_le {u v : Int} (huv : u ≤ v) (hu : 0 ≤ u ∧ u ≤ 1048577) (hv : v ≤ 1048577) : ∀ (ks : List Nat) {D E : Nat → Int}, (∀ k, StepsI (D k)) → (∀ k, StepsI (E k)) → (∀ k, (D k = -1 ↔ E k = -1) ∧ D k ≤ E k) → ∀ j, (ks.foldl (fun g k => putI bL g k u) D j = -1 ↔ ks.foldl (fun g k => putI bM g k v) E j = -1) ∧ ks.foldl (fun g k => putI bL g k u) D j ≤ ks.foldl (fun g k => putI bM g k v) E j
  | [], D, E, hD, hE, h, j => h j
  | k :: ks, D, E, hD, hE, h, j => puts_le huv hu hv ks (D := putI bL D k u) (E := putI bM E k v) (putI_ok bL_bet hD k hu) (putI_ok bM_bet hE k ⟨by omega, hv⟩) (put_le hD hE h huv hu.1) j
theorem loopI_le {v w A : Int} (hv : 0 ≤ v) (hvw : v ≤ w) (hw : w ≤ 1048577) (hA : 1 ≤ A) : loopI v A ≤ loopI w A := by
  have key : ∀ x : Int, 0 ≤ x → x ≤ 1048577 → (if x + 1 ≥ 1048577 then loopI x A = 1048577 else loopI x A = min (1 + A * (x + 1)) 1048577) := fun x hx hx2 => by
    unfold loopI
    by_cases h : x + 1 ≥ 1048577
    · rw [if_pos h]
      have : addI x 1 = 1048577 := by unfold addI; split <;> omega
      rw [if_pos this]
    · rw [if_neg h]
      have : addI x 1 = x + 1 := by unfold addI; split <;> omega
      rw [this, if_neg (by omega)]
      unfold addI
      omega
  have k1 := key v hv (by omega)
  have k2 := key w (by omega) hw
  have hm : A * (v + 1) ≤ A * (w + 1) := Int.mul_le_mul_of_nonneg_left (by omega) (by omega)
  have hb : loopI v A ≤ 1048577 := (loopI_cap v A)
  split at k1 <;> split at k2 <;> omega
where
  loopI_cap (v A : Int) : loopI v A ≤ 1048577 := by
    unfold loopI
    split
    · omega
    · unfold addI; split <;> omega
theorem run_le {W W' : Nat → Nat → Int} {l : List Ins} {m : List Int} (hr : ∀ i, i < l.length → rightI (l.getD i (0, 0, 0)) = true) : ∀ (r i : Nat) {D E : Nat → Int}, (∀ k, StepsI (D k)) → (∀ k, StepsI (E k)) → r + i ≤ l.length → (∀ k, i ≤ k → k < r + i → opAt l k = 21 → StepsI (W (k + 1) (mN m k)) ∧ StepsI (W' (k + 1) (mN m k)) ∧ 0 ≤ W (k + 1) (mN m k) ∧ W (k + 1) (mN m k) ≤ W' (k + 1) (mN m k)) → (∀ k, (D k = -1 ↔ E k = -1) ∧ D k ≤ E k) → ∀ j, (runW bL W l m r i D j = -1 ↔ runW bM W' l m r i E j = -1) ∧ runW bL W l m r i D j ≤ runW bM W' l m r i E j
  | 0, i, D, E, hD, hE, hl, hW, h, j => h j
  | r + 1, i, D, E, hD, hE, hl, hW, h, j => by
    have hWi := hW i (Nat.le_refl _) (by omega)
    have hri := hr i (by omega)
    have w1 := costI_ok hri (fun e => (hWi e).1)
    have w2 := costI_ok hri (fun e => (hWi e).2.1)
    have hc : costI W l m i ≤ costI W' l m i := by
      unfold costI
      by_cases e : opAt l i = 21
      · rw [if_pos e, if_pos e]
        obtain ⟨q1, q2, q3, q4⟩ := hWi e
        have hA : 1 ≤ argA l i := by
          have hri' := hri
          rw [show l.getD i (0, 0, 0) = (21, argA l i, (l.getD i (0, 0, 0)).2.2) from by rw [← e]] at hri'
          exact (right21 hri').1
        exact loopI_le q3 q4 (q2.nn (by omega)).2 hA
      · rw [if_neg e, if_neg e]; omega
    refine run_le hr r (i + 1) (stepW_ok bL_bet hD hri (fun e => (hWi e).1)) (stepW_ok bM_bet hE hri (fun e => (hWi e).2.1)) (by omega) (fun k h1 h2 => hW k (by omega) (by omega)) (fun k => ?_) j
    unfold stepW
    by_cases e : D i = -1
    · rw [if_pos e, if_pos ((h i).1.1 e)]
      exact h k
    · have e' : ¬ E i = -1 := fun x => e ((h i).1.2 x)
      rw [if_neg e, if_neg e']
      exact puts_le (addI_le (h i).2 hc) (addI_ok ((hD i).nn e).1 w1.1) (addI_ok ((hE i).nn e').1 w2.1).2 _ hD hE h k
theorem way_le {l : List Ins} {m h : List Int} (hF : Fine l m h) (hS : Come l) : ∀ (f : Nat) {a z : Nat}, Way l m a z → wayF bL l m f a z ≤ wayF bM l m f a z
  | 0, a, z, hR => Int.le_refl _
  | f + 1, a, z, hR => by
    have hlt := hR.reg.lt
    have hle := hR.reg.le
    refine (run_le (fun i hi => hF.right hi) (z - a) a (startW_ok a) (startW_ok a) (by omega) (fun k k1 k2 k3 => ?_) (fun k => ⟨Iff.rfl, Int.le_refl _⟩) z).2
    have hk := hF.way (show k < l.length by omega) (isOpen_iff.2 (.inl k3))
    exact ⟨wayF_ok bL_bet hF f hk.reg, wayF_ok bM_bet hF f hk.reg, (way_reach bL_bet hF hS f hk).1, way_le hF hS f hk⟩
/-- What is told of all. -/
theorem allI_err (n : Nat) (l : List Ins) (h : (allI bM n l).2 = 0) : (allI bL n l).2 = 0 ∧ 1 ≤ (allI bL n l).1 ∧ (allI bL n l).1 ≤ (allI bM n l).1 ∧ (allI bM n l).1 = wayF bM l (scanI l).1 n 0 (l.length - 1) + 1 ∧ (allI bM n l).1 ≤ 1048576 := by
  obtain ⟨h1, h2⟩ := all_zero h
  obtain ⟨hF, hC⟩ := fine_closed h1
  have hS := (come_is h2).2
  have r1 := way_reach bL_bet hF hS n hF.wayAll
  have r2 := way_reach bM_bet hF hS n hF.wayAll
  have r3 := way_le hF hS n hF.wayAll
  unfold allI at h ⊢
  rw [if_neg (show ¬ (locksI l ≠ 0) from fun k => k h1), if_neg (show ¬ (stacksI l ≠ 0) from fun k => k h2)] at h ⊢
  rw [if_neg (show ¬ (locksI l ≠ 0) from fun k => k h1), if_neg (show ¬ (stacksI l ≠ 0) from fun k => k h2)]
  split at h
  · cases h
  · rename_i hne
    rw [if_neg hne]
    unfold addI at hne ⊢
    split at hne
    · exact absurd rfl hne
    · rename_i h5
      rw [if_neg h5, if_neg (show ¬ (1048577 < wayF bL l (scanI l).1 n 0 (l.length - 1) + 1) by omega), if_neg (by omega)]
      exact ⟨rfl, by show 1 ≤ _ + 1; omega, by show _ + 1 ≤ _ + 1; omega, rfl, by show _ + 1 ≤ (1048576 : Int); omega⟩
end Go.Proofs.Dk

/- Plain: straight rows: each instruction is gone through. -/
namespace Go.Proofs.Dk
open Go
set_option maxRecDepth 100000
set_option linter.unusedVariables false
set_option linter.unusedSimpArgs false
/-- What is left out: nothing. -/
def Str (l : List Ins) : Prop := ∀ k, k < l.length → opAt l k = 19 ∨ opAt l k = 20 → argA l k = 0
theorem strB_is {l : List Ins} (h : strB l = true) (hr : ∀ i, i < l.length → rightI (l.getD i (0, 0, 0)) = true) : Str l := fun k hk ho => by
  have h1 := allF_iff.1 h k (Nat.zero_le _) (by omega)
  unfold strQ at h1
  have h2 : 0 ≤ argA l k := by
    have h3 := hr k hk
    exact (right_jump (o := opAt l k) (A := argA l k) (B := (l.getD k (0, 0, 0)).2.2) ho h3).1
  have h3 : (opAt l k == 19 || opAt l k == 20) = true := by rcases ho with e | e <;> rw [e] <;> rfl
  rw [h3] at h1
  simp at h1
  omega
def nextS (l : List Ins) (m : List Int) (i : Nat) : Nat := if opAt l i = 21 then mN m i + 1 else i + 1
theorem str_hop {l : List Ins} {m : List Int} (h : Str l) {i : Nat} (hi : i < l.length) : hopsI l m i ≠ [] ∧ ∀ k ∈ hopsI l m i, k = nextS l m i := by
  unfold hopsI nextS
  have hj : opAt l i = 19 ∨ opAt l i = 20 → jumpTo l i = i + 1 := fun e => by
    have := h i hi e
    unfold jumpTo
    rw [show (l.getD i (0, 0, 0)).2.1 = 0 from this]
    rfl
  by_cases h21 : opAt l i = 21
  · rw [if_pos h21, if_pos h21]; simp
  · rw [if_neg h21, if_neg h21]
    by_cases h19 : opAt l i = 19
    · rw [if_pos h19, hj (.inl h19)]; simp
    · rw [if_neg h19]
      by_cases h20 : opAt l i = 20
      · rw [if_pos h20, hj (.inr h20)]; simp
      · rw [if_neg h20]; simp
/-- The steps, with no end. -/
def costU (W : Nat → Nat → Int) (l : List Ins) (m : List Int) (i : Nat) : Int := if opAt l i = 21 then 1 + argA l i * (W (i + 1) (mN m i) + 1) else 1
def runU (W : Nat → Nat → Int) (l : List Ins) (m : List Int) : Nat → Nat → Nat → Int → Int
  | 0, _, _, v => v
  | r + 1, i, k, v => if k = i then runU W l m r (i + 1) (nextS l m i) (v + costU W l m i) else runU W l m r (i + 1) k v
def wayU (l : List Ins) (m : List Int) : Nat → Nat → Nat → Int
  | 0, _, _ => 0
  | f + 1, a, z => runU (wayU l m f) l m (z - a) a a 0
def capI (v : Int) : Int := if 1048577 < v then 1048577 else v
theorem addI_cap {a b : Int} (ha : 0 ≤ a) (hb : 0 ≤ b) : addI (capI a) (capI b) = capI (a + b) := by unfold addI capI; split <;> split <;> split <;> (try split) <;> omega
theorem loopI_cap {w A : Int} (hw : 0 ≤ w) (hA : 1 ≤ A) : loopI (capI w) A = capI (1 + A * (w + 1)) := by
  have h0 : w + 1 ≤ A * (w + 1) := by
    have := Int.mul_le_mul_of_nonneg_right hA (show 0 ≤ w + 1 by omega)
    omega
  unfold loopI
  by_cases h : w + 1 ≥ 1048577
  · have : addI (capI w) 1 = 1048577 := by unfold addI capI; split <;> split <;> omega
    rw [if_pos this]
    unfold capI
    rw [if_pos (by omega)]
  · have : addI (capI w) 1 = w + 1 := by unfold addI capI; split <;> split <;> omega
    rw [this, if_neg (by omega)]
    unfold addI capI
    rfl
theorem foldl_same {b : Int → Int → Int} (hb : ∀ x, b x x = x) {v : Int} {q : Nat} (hv : v ≠ -1) : ∀ (ks : List Nat) {D : Nat → Int}, (∀ k ∈ ks, k = q) → (ks ≠ [] ∨ D q = v) → (D q = -1 ∨ D q = v) → ∀ j, ks.foldl (fun g k => putI b g k v) D j = if j = q then v else D j
  | [], D, hk, h1, h2, j => by
    rcases h1 with h | h
    · exact absurd rfl h
    · by_cases e : j = q
      · rw [if_pos e, e]; exact h
      · rw [if_neg e]; rfl
  | k :: ks, D, hk, h1, h2, j => by
    have e : k = q := hk k (List.mem_cons_self ..)
    subst e
    have hp : ∀ j, putI b D k v j = if j = k then v else D j := fun j => by
      unfold putI
      by_cases e : j = k
      · rw [if_pos e, if_pos e]
        by_cases e2 : D k = -1
        · rw [if_pos e2]
        · rw [if_neg e2]
          rcases h2 with h | h
          · exact absurd h e2
          · rw [h, hb]
      · rw [if_neg e, if_neg e]
    have := foldl_same hb hv ks (D := putI b D k v) (fun x hx => hk x (List.mem_cons_of_mem _ hx)) (.inr (by rw [hp, if_pos rfl])) (.inr (by rw [hp, if_pos rfl])) j
    rw [List.foldl_cons, this, hp]
    by_cases e : j = k
    · rw [if_pos e, if_pos e]
    · rw [if_neg e, if_neg e]
theorem nextS_gt {l : List Ins} {m : List Int} {a z : Nat} (hR : Reg l m a z) {i : Nat} (h1 : a ≤ i) (h2 : i < z) : i < nextS l m i ∧ nextS l m i ≤ z := by
  unfold nextS
  by_cases h21 : opAt l i = 21
  · rw [if_pos h21]
    obtain ⟨j, j1, j2, j3⟩ := hR.loop i h1 h2 (isOpen_iff.2 (.inl h21))
    unfold mN
    rw [j1]
    simp
    omega
  · rw [if_neg h21]; omega
theorem costU_ok {W : Nat → Nat → Int} {l : List Ins} {m : List Int} {i : Nat} (hr : rightI (l.getD i (0, 0, 0)) = true) (hW : opAt l i = 21 → 0 ≤ W (i + 1) (mN m i)) : 1 ≤ costU W l m i := by
  unfold costU
  by_cases e : opAt l i = 21
  · rw [if_pos e]
    have hri := hr
    rw [show l.getD i (0, 0, 0) = (21, argA l i, (l.getD i (0, 0, 0)).2.2) from by rw [← e]] at hri
    have hA := (right21 hri).1
    have h1 := hW e
    have := Int.mul_nonneg (show 0 ≤ argA l i by omega) (show 0 ≤ W (i + 1) (mN m i) + 1 by omega)
    omega
  · rw [if_neg e]; omega
theorem runU_ok {W : Nat → Nat → Int} {l : List Ins} {m : List Int} (hr : ∀ i, i < l.length → rightI (l.getD i (0, 0, 0)) = true) {a z : Nat} (hR : Reg l m a z) (hW : ∀ i, a ≤ i → i < z → opAt l i = 21 → 0 ≤ W (i + 1) (mN m i)) : ∀ (r i k : Nat) {v : Int}, a ≤ i → i + r = z → i ≤ k → k ≤ z → v ≤ runU W l m r i k v
  | 0, i, k, v, hi, hz, hk, hkz => Int.le_refl _
  | r + 1, i, k, v, hi, hz, hk, hkz => by
    unfold runU
    by_cases e : k = i
    · rw [if_pos e]
      obtain ⟨n1, n2⟩ := nextS_gt hR hi (by omega)
      have := runU_ok hr hR hW r (i + 1) (nextS l m i) (v := v + costU W l m i) (by omega) (by omega) (by omega) n2
      have := costU_ok (hr i (by have := hR.lt; omega)) (hW i hi (by omega))
      omega
    · rw [if_neg e]
      exact runU_ok hr hR hW r (i + 1) k (by omega) (by omega) (by omega) hkz
theorem wayU_nn {l : List Ins} {m h : List Int} (hF : Fine l m h) : ∀ (f : Nat) {a z : Nat}, Reg l m a z → 0 ≤ wayU l m f a z
  | 0, a, z, hR => Int.le_refl _
  | f + 1, a, z, hR => by
    have hle := hR.le
    have hlt := hR.lt
    exact runU_ok (fun i hi => hF.right hi) hR (fun i h1 h2 h3 => wayU_nn hF f (hF.reg (by omega) (isOpen_iff.2 (.inl h3)))) (z - a) a a (Nat.le_refl _) (by omega) (Nat.le_refl _) hle
/-- A straight row's way: cut off where all ends. -/
theorem run_str {b : Int → Int → Int} (hb : Bet b) {W U : Nat → Nat → Int} {l : List Ins} {m : List Int} (hs : Str l) (hr : ∀ i, i < l.length → rightI (l.getD i (0, 0, 0)) = true) {a z : Nat} (hR : Reg l m a z) (hW : ∀ i, a ≤ i → i < z → opAt l i = 21 → 0 ≤ U (i + 1) (mN m i) ∧ W (i + 1) (mN m i) = capI (U (i + 1) (mN m i))) : ∀ (r i k : Nat) {v : Int} {D : Nat → Int}, a ≤ i → i + r = z → i ≤ k → k ≤ z → 0 ≤ v → (∀ j, i ≤ j → D j = if j = k then capI v else -1) → runW b W l m r i D z = capI (runU U l m r i k v)
  | 0, i, k, v, D, hi, hz, hk, hkz, hv, hD => by
    have : z = k := by omega
    show D z = capI v
    rw [hD z (by omega), if_pos this]
  | r + 1, i, k, v, D, hi, hz, hk, hkz, hv, hD => by
    have hlt := hR.lt
    have hc0 : ∀ x : Int, 0 ≤ x → capI x ≠ -1 := fun x hx => by unfold capI; split <;> omega
    have hself : ∀ x, b x x = x := fun x => by rcases hb x x with h | h <;> exact h
    show runW b W l m r (i + 1) (stepW b W l m i D) z = _
    unfold runU
    by_cases e : k = i
    · subst e
      rw [if_pos rfl]
      obtain ⟨n1, n2⟩ := nextS_gt hR hi (by omega)
      obtain ⟨o1, o2⟩ := str_hop (m := m) hs (show k < l.length by omega)
      have hcu := costU_ok (m := m) (W := U) (hr k (by omega)) (fun e => (hW k hi (by omega) e).1)
      refine run_str hb hs hr hR hW r (k + 1) (nextS l m k) (by omega) (by omega) n1 n2 (by omega) (fun j hj => ?_)
      have hDk : D k = capI v := by rw [hD k (Nat.le_refl _), if_pos rfl]
      have hcost : costI W l m k = capI (costU U l m k) := by
        unfold costI costU
        by_cases e : opAt l k = 21
        · rw [if_pos e, if_pos e]
          obtain ⟨w1, w2⟩ := hW k hi (by omega) e
          have hri := hr k (by omega)
          rw [show l.getD k (0, 0, 0) = (21, argA l k, (l.getD k (0, 0, 0)).2.2) from by rw [← e]] at hri
          rw [w2, loopI_cap w1 (right21 hri).1]
        · rw [if_neg e, if_neg e]; rfl
      unfold stepW
      rw [if_neg (by rw [hDk]; exact hc0 v hv), hDk, hcost, addI_cap hv (by omega)]
      rw [foldl_same hself (hc0 _ (by omega)) _ o2 (.inl o1) (.inl (by rw [hD _ (by omega), if_neg (by omega)]))]
      by_cases e : j = nextS l m k
      · rw [if_pos e, if_pos e]
      · rw [if_neg e, if_neg e, hD j (by omega), if_neg (by omega)]
    · rw [if_neg e]
      refine run_str hb hs hr hR hW r (i + 1) k (by omega) (by omega) (by omega) hkz hv (fun j hj => ?_)
      unfold stepW
      rw [if_pos (by rw [hD i (Nat.le_refl _), if_neg (fun h => e h.symm)])]
      exact hD j (by omega)
theorem way_str {b : Int → Int → Int} (hb : Bet b) {l : List Ins} {m h : List Int} (hF : Fine l m h) (hs : Str l) : ∀ (f : Nat) {a z : Nat}, Reg l m a z → wayF b l m f a z = capI (wayU l m f a z)
  | 0, a, z, hR => rfl
  | f + 1, a, z, hR => by
    have hle := hR.le
    have hlt := hR.lt
    refine run_str hb hs (fun i hi => hF.right hi) hR (fun i h1 h2 h3 => ?_) (z - a) a a (Nat.le_refl _) (by omega) (Nat.le_refl _) hle (Int.le_refl _) (fun j hj => rfl)
    have hq := hF.reg (show i < l.length by omega) (isOpen_iff.2 (.inl h3))
    exact ⟨wayU_nn hF f hq, way_str hb hF hs f hq⟩
/-- No fewer steps than instructions. -/
theorem runU_len {W : Nat → Nat → Int} {l : List Ins} {m : List Int} (hr : ∀ i, i < l.length → rightI (l.getD i (0, 0, 0)) = true) {a z : Nat} (hR : Reg l m a z) (hW : ∀ i, a ≤ i → i < z → opAt l i = 21 → ((mN m i - (i + 1) : Nat) : Int) ≤ W (i + 1) (mN m i)) : ∀ (r i k : Nat) {v : Int}, a ≤ i → i + r = z → i ≤ k → k ≤ z → v + (z - k : Nat) ≤ runU W l m r i k v
  | 0, i, k, v, hi, hz, hk, hkz => by unfold runU; omega
  | r + 1, i, k, v, hi, hz, hk, hkz => by
    have hlt := hR.lt
    unfold runU
    by_cases e : k = i
    · subst e
      rw [if_pos rfl]
      obtain ⟨n1, n2⟩ := nextS_gt hR hi (by omega)
      have h1 := runU_len hr hR hW r (k + 1) (nextS l m k) (v := v + costU W l m k) (by omega) (by omega) (by omega) n2
      have h2 : ((nextS l m k - k : Nat) : Int) ≤ costU W l m k := by
        unfold costU nextS
        by_cases e : opAt l k = 21
        · rw [if_pos e, if_pos e]
          have hw := hW k hi (by omega) e
          have hri := hr k (by omega)
          rw [show l.getD k (0, 0, 0) = (21, argA l k, (l.getD k (0, 0, 0)).2.2) from by rw [← e]] at hri
          have hA := (right21 hri).1
          have := Int.mul_le_mul_of_nonneg_right hA (show 0 ≤ W (k + 1) (mN m k) + 1 by omega)
          omega
        · rw [if_neg e, if_neg e]; omega
      omega
    · rw [if_neg e]
      exact runU_len hr hR hW r (i + 1) k (by omega) (by omega) (by omega) hkz
theorem wayU_len {l : List Ins} {m h : List Int} (hF : Fine l m h) : ∀ (f : Nat) {a z : Nat}, Reg l m a z → z - a < f → ((z - a : Nat) : Int) ≤ wayU l m f a z
  | 0, a, z, hR, hf => by omega
  | f + 1, a, z, hR, hf => by
    have hle := hR.le
    have hlt := hR.lt
    have := runU_len (fun i hi => hF.right hi) hR (W := wayU l m f) (fun i h1 h2 h3 => by
      obtain ⟨j, j1, j2, j3⟩ := hR.loop i h1 h2 (isOpen_iff.2 (.inl h3))
      have hj : mN m i = j := by unfold mN; rw [j1]; rfl
      exact wayU_len hF f (hF.reg (by omega) (isOpen_iff.2 (.inl h3))) (by omega)) (z - a) a a (v := 0) (Nat.le_refl _) (by omega) (Nat.le_refl _) hle
    rw [Int.zero_add] at this
    exact this
end Go.Proofs.Dk

/- Plain: rows alike but for a loop's rounds. -/
namespace Go.Proofs.Dk
open Go
set_option maxRecDepth 100000
set_option linter.unusedVariables false
set_option linter.unusedSimpArgs false
/-- Rows that are alike but for the rounds of the loop at q. -/
structure Near (l l' : List Ins) (q : Nat) : Prop where
  len : l'.length = l.length
  else_ : ∀ i, i ≠ q → l'.getD i (0, 0, 0) = l.getD i (0, 0, 0)
  op : opAt l q = 21 ∧ opAt l' q = 21
theorem Near.opAt {l l' : List Ins} {q : Nat} (h : Near l l' q) (i : Nat) : opAt l' i = opAt l i := by
  by_cases e : i = q
  · subst e; rw [h.op.1, h.op.2]
  · unfold Go.Proofs.Dk.opAt; rw [h.else_ i e]
theorem Near.scanStep {l l' : List Ins} {q : Nat} (h : Near l l' q) (i : Nat) (m hh : List Int) (op : List (Int × Ins)) : scanStep (l'.getD i (0, 0, 0)) i m hh op = scanStep (l.getD i (0, 0, 0)) i m hh op := by
  by_cases e : i = q
  · subst e
    have h1 : (l.getD i (0, 0, 0)).1 = 21 := h.op.1
    have h2 : (l'.getD i (0, 0, 0)).1 = 21 := h.op.2
    unfold Go.Proofs.Dk.scanStep ends
    simp only [h1, h2, true_or, if_true]
  · rw [h.else_ i e]
theorem Near.scanS {l l' : List Ins} {q : Nat} (h : Near l l' q) : ∀ (r i : Nat) (m hh : List Int) (op : List (Int × Ins)), scanS l' r i m hh op = scanS l r i m hh op
  | 0, i, m, hh, op => rfl
  | r + 1, i, m, hh, op => by
    unfold Go.Proofs.Dk.scanS
    rw [h.scanStep]
    split
    · exact Near.scanS h r _ _ _ _
    · rfl
theorem Near.scanI {l l' : List Ins} {q : Nat} (h : Near l l' q) (h1 : (scanI l).2.2 = 0) (h2 : (Go.Proofs.Dk.scanI l').2.2 = 0) : Go.Proofs.Dk.scanI l' = Go.Proofs.Dk.scanI l := by
  have r1 := (scanI_nest h1).row
  have r2 := (scanI_nest h2).row
  unfold Go.Proofs.Dk.scanI
  rw [if_pos r1, if_pos r2, h.len, h.scanS]
theorem Near.hops {l l' : List Ins} {q : Nat} (h : Near l l' q) (m : List Int) (i : Nat) : hopsI l' m i = hopsI l m i := by
  have ej : i ≠ q → jumpTo l' i = jumpTo l i := fun e => by unfold jumpTo; rw [h.else_ i e]
  unfold hopsI
  rw [h.opAt i]
  by_cases e : i = q
  · subst e; rw [if_pos h.op.1, if_pos h.op.1]
  · rw [ej e]
theorem loopI_key {x A : Int} (hx : 0 ≤ x) (hx2 : x ≤ 1048577) : (if x + 1 ≥ 1048577 then loopI x A = 1048577 else loopI x A = min (1 + A * (x + 1)) 1048577) := by
  unfold loopI
  by_cases h : x + 1 ≥ 1048577
  · rw [if_pos h]
    have : addI x 1 = 1048577 := by unfold addI; split <;> omega
    rw [if_pos this]
  · rw [if_neg h]
    have : addI x 1 = x + 1 := by unfold addI; split <;> omega
    rw [this, if_neg (by omega)]
    unfold addI
    omega
theorem loopI_le2 {v w A B : Int} (hv : 0 ≤ v) (hvw : v ≤ w) (hw : w ≤ 1048577) (hA : 1 ≤ A) (hAB : A ≤ B) : loopI v A ≤ loopI w B := by
  have k1 := loopI_key (A := A) hv (by omega)
  have k2 := loopI_key (A := B) (show 0 ≤ w by omega) hw
  have m1 : A * (v + 1) ≤ A * (w + 1) := Int.mul_le_mul_of_nonneg_left (by omega) (by omega)
  have m2 : A * (w + 1) ≤ B * (w + 1) := Int.mul_le_mul_of_nonneg_right hAB (by omega)
  have hb : loopI v A ≤ 1048577 := by
    unfold loopI
    split
    · omega
    · unfold addI; split <;> omega
  split at k1 <;> split at k2 <;> omega
/-- What grows with what it is made of. -/
def Mono (b : Int → Int → Int) : Prop := ∀ x y x' y', x ≤ x' → y ≤ y' → b x y ≤ b x' y'
theorem bM_mono : Mono bM := fun x y x' y' h1 h2 => by unfold bM; split <;> split <;> omega
theorem bL_mono : Mono bL := fun x y x' y' h1 h2 => by unfold bL; split <;> split <;> omega
theorem putB_le {b : Int → Int → Int} (hb : Bet b) (hm : Mono b) {D E : Nat → Int} (hD : ∀ k, StepsI (D k)) (hE : ∀ k, StepsI (E k)) (h : ∀ k, (D k = -1 ↔ E k = -1) ∧ D k ≤ E k) {k : Nat} {u v : Int} (huv : u ≤ v) (hu : 0 ≤ u) : ∀ j, (putI b D k u j = -1 ↔ putI b E k v j = -1) ∧ putI b D k u j ≤ putI b E k v j := fun j => by
  unfold putI
  by_cases e : j = k
  · subst e
    rw [if_pos rfl, if_pos rfl]
    obtain ⟨h1, h2⟩ := h j
    by_cases e2 : D j = -1
    · rw [if_pos e2, if_pos (h1.1 e2)]
      exact ⟨by constructor <;> intro <;> omega, huv⟩
    · have e3 : ¬ E j = -1 := fun k => e2 (h1.2 k)
      rw [if_neg e2, if_neg e3]
      have a1 := ((hD j).nn e2).1
      have a2 := ((hE j).nn e3).1
      have b1 : b (D j) u ≠ -1 := by rcases hb (D j) u with e | e <;> omega
      have b2 : b (E j) v ≠ -1 := by rcases hb (E j) v with e | e <;> omega
      exact ⟨⟨fun h => absurd h b1, fun h => absurd h b2⟩, hm _ _ _ _ h2 huv⟩
  · rw [if_neg e, if_neg e]
    exact h j
theorem putsB_le {b : Int → Int → Int} (hb : Bet b) (hm : Mono b) {u v : Int} (huv : u ≤ v) (hu : 0 ≤ u ∧ u ≤ 1048577) (hv : v ≤ 1048577) : ∀ (ks : List Nat) {D E : Nat → Int}, (∀ k, StepsI (D k)) → (∀ k, StepsI (E k)) → (∀ k, (D k = -1 ↔ E k = -1) ∧ D k ≤ E k) → ∀ j, (ks.foldl (fun g k => putI b g k u) D j = -1 ↔ ks.foldl (fun g k => putI b g k v) E j = -1) ∧ ks.foldl (fun g k => putI b g k u) D j ≤ ks.foldl (fun g k => putI b g k v) E j
  | [], D, E, hD, hE, h, j => h j
  | k :: ks, D, E, hD, hE, h, j => putsB_le hb hm huv hu hv ks (D := putI b D k u) (E := putI b E k v) (putI_ok hb hD k hu) (putI_ok hb hE k ⟨by omega, hv⟩) (putB_le hb hm hD hE h huv hu.1) j
theorem arg21 {l : List Ins} {i : Nat} (hr : rightI (l.getD i (0, 0, 0)) = true) (e : opAt l i = 21) : 1 ≤ argA l i ∧ argA l i ≤ 1000 := by
  rw [show l.getD i (0, 0, 0) = (21, argA l i, (l.getD i (0, 0, 0)).2.2) from by rw [← e]] at hr
  exact right21 hr
theorem runN_le {b : Int → Int → Int} (hb : Bet b) (hm : Mono b) {W W' : Nat → Nat → Int} {l l' : List Ins} {q : Nat} (hN : Near l l' q) (hA : argA l q ≤ argA l' q) {m : List Int} (hr : ∀ i, i < l.length → rightI (l.getD i (0, 0, 0)) = true) (hr' : ∀ i, i < l'.length → rightI (l'.getD i (0, 0, 0)) = true) : ∀ (r i : Nat) {D E : Nat → Int}, (∀ k, StepsI (D k)) → (∀ k, StepsI (E k)) → r + i ≤ l.length → (∀ k, i ≤ k → k < r + i → opAt l k = 21 → StepsI (W (k + 1) (mN m k)) ∧ StepsI (W' (k + 1) (mN m k)) ∧ 0 ≤ W (k + 1) (mN m k) ∧ W (k + 1) (mN m k) ≤ W' (k + 1) (mN m k)) → (∀ k, (D k = -1 ↔ E k = -1) ∧ D k ≤ E k) → ∀ j, (runW b W l m r i D j = -1 ↔ runW b W' l' m r i E j = -1) ∧ runW b W l m r i D j ≤ runW b W' l' m r i E j
  | 0, i, D, E, hD, hE, hl, hW, h, j => h j
  | r + 1, i, D, E, hD, hE, hl, hW, h, j => by
    have hWi := hW i (Nat.le_refl _) (by omega)
    have hri := hr i (by omega)
    have hri' := hr' i (by rw [hN.len]; omega)
    have w1 := costI_ok hri (fun e => (hWi e).1)
    have w2 := costI_ok (W := W') (m := m) hri' (fun e => (hWi (by rw [hN.opAt] at e; exact e)).2.1)
    have hc : costI W l m i ≤ costI W' l' m i := by
      unfold costI
      rw [hN.opAt]
      by_cases e : opAt l i = 21
      · rw [if_pos e, if_pos e]
        obtain ⟨q1, q2, q3, q4⟩ := hWi e
        refine loopI_le2 q3 q4 (q2.nn (by omega)).2 (arg21 hri e).1 ?_
        by_cases eq : i = q
        · subst eq; exact hA
        · unfold argA; rw [hN.else_ i eq]; omega
      · rw [if_neg e, if_neg e]; omega
    refine runN_le hb hm hN hA hr hr' r (i + 1) (stepW_ok hb hD hri (fun e => (hWi e).1)) (stepW_ok hb hE hri' (fun e => (hWi (by rw [hN.opAt] at e; exact e)).2.1)) (by omega) (fun k h1 h2 => hW k (by omega) (by omega)) (fun k => ?_) j
    unfold stepW
    rw [hN.hops]
    by_cases e : D i = -1
    · rw [if_pos e, if_pos ((h i).1.1 e)]
      exact h k
    · have e' : ¬ E i = -1 := fun x => e ((h i).1.2 x)
      rw [if_neg e, if_neg e']
      exact putsB_le hb hm (addI_le (h i).2 hc) (addI_ok ((hD i).nn e).1 w1.1) (addI_ok ((hE i).nn e').1 w2.1).2 _ hD hE h k

theorem wayN_le {b : Int → Int → Int} (hb : Bet b) (hm : Mono b) {l l' : List Ins} {q : Nat} (hN : Near l l' q) (hA : argA l q ≤ argA l' q) {m h h' : List Int} (hF : Fine l m h) (hF' : Fine l' m h') (hS : Come l) : ∀ (f : Nat) {a z : Nat}, Way l m a z → wayF b l m f a z ≤ wayF b l' m f a z
  | 0, a, z, hR => Int.le_refl _
  | f + 1, a, z, hR => by
    have hlt := hR.reg.lt
    have hle := hR.reg.le
    refine (runN_le hb hm hN hA (fun i hi => hF.right hi) (fun i hi => hF'.right hi) (z - a) a (startW_ok a) (startW_ok a) (by omega) (fun k k1 k2 k3 => ?_) (fun k => ⟨Iff.rfl, Int.le_refl _⟩) z).2
    have hk := hF.way (show k < l.length by omega) (isOpen_iff.2 (.inl k3))
    have hk' := hF'.reg (show k < l'.length by rw [hN.len]; omega) (isOpen_iff.2 (.inl (by rw [hN.opAt]; exact k3)))
    exact ⟨wayF_ok hb hF f hk.reg, wayF_ok hb hF' f hk', (way_reach hb hF hS f hk).1, wayN_le hb hm hN hA hF hF' hS f hk⟩
/-- Where the loop does not stand. -/
theorem runU_out {W W' : Nat → Nat → Int} {l l' : List Ins} {q : Nat} (hN : Near l l' q) {m : List Int} : ∀ (r i k : Nat) (v : Int), (q < i ∨ i + r ≤ q) → (∀ j, i ≤ j → j < i + r → opAt l j = 21 → W (j + 1) (mN m j) = W' (j + 1) (mN m j)) → runU W l m r i k v = runU W' l' m r i k v
  | 0, i, k, v, hq, hW => rfl
  | r + 1, i, k, v, hq, hW => by
    have e1 : nextS l' m i = nextS l m i := by unfold nextS; rw [hN.opAt]
    have e2 : costU W l m i = costU W' l' m i := by
      unfold costU
      rw [hN.opAt]
      by_cases e : opAt l i = 21
      · rw [if_pos e, if_pos e, hW i (Nat.le_refl _) (by omega) e]
        unfold argA
        rw [hN.else_ i (by omega)]
      · rw [if_neg e, if_neg e]
    unfold runU
    rw [e1, e2]
    split
    · exact runU_out hN r (i + 1) _ _ (by omega) (fun j h1 h2 => hW j (by omega) (by omega))
    · exact runU_out hN r (i + 1) _ _ (by omega) (fun j h1 h2 => hW j (by omega) (by omega))
theorem wayU_out {l l' : List Ins} {q : Nat} (hN : Near l l' q) {m h : List Int} (hF : Fine l m h) : ∀ (f : Nat) {a z : Nat}, Reg l m a z → (q < a ∨ z ≤ q) → wayU l m f a z = wayU l' m f a z
  | 0, a, z, hR, hq => rfl
  | f + 1, a, z, hR, hq => by
    have hlt := hR.lt
    have hle := hR.le
    refine runU_out hN (z - a) a a 0 (by omega) (fun j h1 h2 h3 => ?_)
    obtain ⟨w, j1, j2, j3⟩ := hR.loop j h1 (by omega) (isOpen_iff.2 (.inl h3))
    have hj : mN m j = w := by unfold mN; rw [j1]; rfl
    exact wayU_out hN hF f (hF.reg (by omega) (isOpen_iff.2 (.inl h3))) (by omega)
/-- By as much in each further round. -/
theorem runU_ap {W0 W1 W2 : Nat → Nat → Int} {l0 l1 l2 : List Ins} {q : Nat} (h1 : Near l0 l1 q) (h2 : Near l0 l2 q) (a1 : argA l1 q = argA l0 q + 1) (a2 : argA l2 q = argA l0 q + 2) {m : List Int} : ∀ (r i k : Nat) (v0 v1 v2 : Int), v0 + v2 = 2 * v1 → (∀ j, i ≤ j → j < i + r → opAt l0 j = 21 → W0 (j + 1) (mN m j) + W2 (j + 1) (mN m j) = 2 * W1 (j + 1) (mN m j)) → (i ≤ q → q < i + r → W0 (q + 1) (mN m q) = W1 (q + 1) (mN m q) ∧ W0 (q + 1) (mN m q) = W2 (q + 1) (mN m q)) → runU W0 l0 m r i k v0 + runU W2 l2 m r i k v2 = 2 * runU W1 l1 m r i k v1
  | 0, i, k, v0, v1, v2, hv, hW, hq => hv
  | r + 1, i, k, v0, v1, v2, hv, hW, hq => by
    have e1 : nextS l1 m i = nextS l0 m i := by unfold nextS; rw [h1.opAt]
    have e2 : nextS l2 m i = nextS l0 m i := by unfold nextS; rw [h2.opAt]
    have ec : costU W0 l0 m i + costU W2 l2 m i = 2 * costU W1 l1 m i := by
      unfold costU
      rw [h1.opAt, h2.opAt]
      by_cases e : opAt l0 i = 21
      · rw [if_pos e, if_pos e, if_pos e]
        by_cases eq : i = q
        · subst eq
          obtain ⟨w1, w2⟩ := hq (Nat.le_refl _) (by omega)
          rw [← w1, ← w2, a1, a2]
          generalize argA l0 i = A
          generalize W0 (i + 1) (mN m i) + 1 = w
          rw [Int.add_mul, Int.add_mul]
          omega
        · have g1 : argA l1 i = argA l0 i := by unfold argA; rw [h1.else_ i eq]
          have g2 : argA l2 i = argA l0 i := by unfold argA; rw [h2.else_ i eq]
          have hw := hW i (Nat.le_refl _) (by omega) e
          rw [g1, g2]
          have : argA l0 i * (W0 (i + 1) (mN m i) + 1) + argA l0 i * (W2 (i + 1) (mN m i) + 1) = 2 * (argA l0 i * (W1 (i + 1) (mN m i) + 1)) := by
            rw [← Int.mul_add, show W0 (i + 1) (mN m i) + 1 + (W2 (i + 1) (mN m i) + 1) = 2 * (W1 (i + 1) (mN m i) + 1) by omega, Int.mul_left_comm]
          omega
      · rw [if_neg e, if_neg e, if_neg e]; rfl
    unfold runU
    rw [e1, e2]
    by_cases e : k = i
    · rw [if_pos e, if_pos e, if_pos e]
      exact runU_ap h1 h2 a1 a2 r (i + 1) _ _ _ _ (by omega) (fun j k1 k2 => hW j (by omega) (by omega)) (fun k1 k2 => hq (by omega) (by omega))
    · rw [if_neg e, if_neg e, if_neg e]
      exact runU_ap h1 h2 a1 a2 r (i + 1) _ _ _ _ hv (fun j k1 k2 => hW j (by omega) (by omega)) (fun k1 k2 => hq (by omega) (by omega))
theorem wayU_ap {l0 l1 l2 : List Ins} {q : Nat} (h1 : Near l0 l1 q) (h2 : Near l0 l2 q) (a1 : argA l1 q = argA l0 q + 1) (a2 : argA l2 q = argA l0 q + 2) {m h : List Int} (hF : Fine l0 m h) : ∀ (f : Nat) {a z : Nat}, Reg l0 m a z → wayU l0 m f a z + wayU l2 m f a z = 2 * wayU l1 m f a z
  | 0, a, z, hR => rfl
  | f + 1, a, z, hR => by
    have hlt := hR.lt
    have hle := hR.le
    refine runU_ap h1 h2 a1 a2 (z - a) a a 0 0 0 rfl (fun j k1 k2 k3 => ?_) (fun k1 k2 => ?_)
    · exact wayU_ap h1 h2 a1 a2 hF f (hF.reg (by omega) (isOpen_iff.2 (.inl k3)))
    · have hq := hF.reg (show q < l0.length by omega) (isOpen_iff.2 (.inl h1.op.1))
      exact ⟨wayU_out h1 hF f hq (.inl (by omega)), wayU_out h2 hF f hq (.inl (by omega))⟩
end Go.Proofs.Dk

/- Plain: rows that stand behind others. -/
namespace Go.Proofs.Dk
open Go
set_option maxRecDepth 100000
set_option linter.unusedVariables false
set_option linter.unusedSimpArgs false
def shO (p : Nat) (e : Int × Ins) : Int × Ins := (e.1 + p, e.2)
theorem getD_setI {l : List Int} {i j : Nat} {v : Int} (hi : i < l.length) : (l.set i v).getD j 0 = if j = i then v else l.getD j 0 := by
  rw [List.getD_eq_getElem?_getD, List.getElem?_set]
  by_cases e : i = j
  · rw [if_pos e, if_pos e.symm, if_pos (by omega)]; rfl
  · rw [if_neg e, if_neg (fun h => e h.symm), List.getD_eq_getElem?_getD]
theorem getD_set3 {l : List Int} {i k j : Nat} {u v w : Int} (hi : i < l.length) (hk : k < l.length) : (((l.set i u).set i v).set k w).getD j 0 = if j = k then w else if j = i then v else l.getD j 0 := by
  rw [getD_setI (by rw [List.length_set, List.length_set]; exact hk), getD_setI (by rw [List.length_set]; exact hi), getD_setI hi]
  by_cases e : j = i
  · rw [if_pos e, if_pos e]
  · rw [if_neg e, if_neg e, if_neg e]
/-- Scans: one row within another one. -/
theorem scan_off {l l' : List Ins} {p L : Nat} (hag : ∀ i, i < L → l'.getD (i + p) (0, 0, 0) = l.getD i (0, 0, 0)) (hL : L ≤ l.length) (hL' : L + p ≤ l'.length) (op0 : List (Int × Ins)) : ∀ (r i : Nat) {m h m1 h1 m' h' : List Int} {op op1 : List (Int × Ins)}, ScanI l i m h op → i + r ≤ L → m'.length = l'.length → (∀ j, j < i → m.getD j 0 ≠ -1 → m'.getD (j + p) 0 = m.getD j 0 + p) → scanS l r i m h op = some (m1, h1, op1) →
    ∃ m1' h1', scanS l' r (i + p) m' h' (op0 ++ op.map (shO p)) = some (m1', h1', op0 ++ op1.map (shO p)) ∧ m1'.length = l'.length ∧ (∀ j, j < i + r → m1.getD j 0 ≠ -1 → m1'.getD (j + p) 0 = m1.getD j 0 + p) ∧ (∀ j, j < p → m1'.getD j 0 = m'.getD j 0) ∧ ScanI l (i + r) m1 h1 op1
  | 0, i, m, h, m1, h1, m', h', op, op1, hI, hi, hm', hM, hs => by
    simp only [scanS, Option.some.injEq, Prod.mk.injEq] at hs
    obtain ⟨rfl, rfl, rfl⟩ := hs
    exact ⟨m', h', rfl, hm', hM, fun j hj => rfl, hI⟩
  | r + 1, i, m, h, m1, h1, m', h', op, op1, hI, hi, hm', hM, hs => by
    have hil : i < l.length := by omega
    have hstep0 : ∃ q, scanStep (l.getD i (0, 0, 0)) i m h op = some q ∧ scanS l r (i + 1) q.1 q.2.1 q.2.2 = some (m1, h1, op1) := by
      unfold scanS at hs
      split at hs
      · rename_i a b c hq
        exact ⟨_, hq, hs⟩
      · cases hs
    obtain ⟨⟨m2, h2, op2⟩, hq, hs2⟩ := hstep0
    have hI2 := hI.step hil hq
    have hmlen := hI.hm
    have hgo : ∃ m2' h2', scanStep (l'.getD (i + p) (0, 0, 0)) (i + p) m' h' (op0 ++ op.map (shO p)) = some (m2', h2', op0 ++ op2.map (shO p)) ∧ m2'.length = l'.length ∧ (∀ j, j < i + 1 → m2.getD j 0 ≠ -1 → m2'.getD (j + p) 0 = m2.getD j 0 + p) ∧ (∀ j, j < p → m2'.getD j 0 = m'.getD j 0) := by
      rw [hag i (by omega)]
      have hset : ∀ j, j < i + 1 → (m.set i (-1)).getD j 0 ≠ -1 → (m'.set (i + p) (-1)).getD (j + p) 0 = (m.set i (-1)).getD j 0 + p := fun j hj hn => by
        rw [getD_setI (by omega)] at hn ⊢
        rw [getD_setI (by omega)]
        by_cases e : j = i
        · rw [if_pos e] at hn; exact absurd rfl hn
        · rw [if_neg e] at hn ⊢
          rw [if_neg (by omega)]
          exact hM j (by omega) hn
      have hfr : ∀ j, j < p → (m'.set (i + p) (-1)).getD j 0 = m'.getD j 0 := fun j hj => by rw [getD_setI (by omega), if_neg (by omega)]
      unfold scanStep at hq ⊢
      simp only at hq ⊢
      by_cases h1 : (l.getD i (0, 0, 0)).1 = 21 ∨ (l.getD i (0, 0, 0)).1 = 23
      · rw [if_pos h1] at hq ⊢
        simp only [Option.some.injEq, Prod.mk.injEq] at hq
        obtain ⟨rfl, rfl, rfl⟩ := hq
        have eo : op0 ++ op.map (shO p) ++ [(((i + p : Nat) : Int), ends (l.getD i (0, 0, 0)))] = op0 ++ (op ++ [((i : Int), ends (l.getD i (0, 0, 0)))]).map (shO p) := by
          rw [List.map_append, ← List.append_assoc]
          simp [shO]
        rw [eo]
        exact ⟨_, _, rfl, by simp [hm'], hset, hfr⟩
      · rw [if_neg h1] at hq ⊢
        by_cases h2 : (l.getD i (0, 0, 0)).1 = 22 ∨ (l.getD i (0, 0, 0)).1 = 24
        · rw [if_pos h2] at hq ⊢
          by_cases h3 : op.length = 0
          · rw [if_pos h3] at hq; cases hq
          · rw [if_neg h3] at hq
            have hln : (op0 ++ op.map (shO p)).length - 1 = op0.length + (op.length - 1) := by simp; omega
            have hlast : (op0 ++ op.map (shO p)).getD ((op0 ++ op.map (shO p)).length - 1) (0, 0, 0, 0) = shO p (op.getD (op.length - 1) (0, 0, 0, 0)) := by
              rw [hln, List.getD_eq_getElem?_getD, List.getElem?_append_right (by omega), show op0.length + (op.length - 1) - op0.length = op.length - 1 by omega, List.getElem?_map, List.getD_eq_getElem?_getD, List.getElem?_eq_getElem (by omega)]
              rfl
            rw [if_neg (show ¬ (op0 ++ op.map (shO p)).length = 0 by rw [List.length_append, List.length_map]; omega), hlast]
            by_cases h4 : (op.getD (op.length - 1) (0, 0, 0, 0)).2 = l.getD i (0, 0, 0)
            · rw [if_pos h4] at hq
              rw [if_pos (show (shO p (op.getD (op.length - 1) (0, 0, 0, 0))).2 = _ from h4)]
              simp only [Option.some.injEq, Prod.mk.injEq] at hq
              obtain ⟨rfl, rfl, rfl⟩ := hq
              obtain ⟨k, k1, k2, k3, _⟩ := hI.at_ _ (last_mem (d := ((0 : Int), (0 : Int), (0 : Int), (0 : Int))) (show 0 < op.length by omega))
              have e1 : (shO p (op.getD (op.length - 1) (0, 0, 0, 0))).1 = ((k + p : Nat) : Int) := by
                show (op.getD (op.length - 1) (0, 0, 0, 0)).1 + (p : Int) = _
                rw [k2]; simp
              have eo : (op0 ++ op.map (shO p)).take ((op0 ++ op.map (shO p)).length - 1) = op0 ++ (op.take (op.length - 1)).map (shO p) := by
                rw [hln, List.take_length_add_append, ← List.map_take]
              rw [k2, e1, eo]
              simp only [Int.toNat_natCast]
              refine ⟨_, _, rfl, by simp [hm'], fun j hj hn => ?_, fun j hj => ?_⟩
              · rw [getD_set3 (by omega) (by omega)] at hn ⊢
                rw [getD_set3 (by omega) (by omega)]
                by_cases e : j = k
                · rw [if_pos e, if_pos (by omega)]; simp
                · rw [if_neg e] at hn ⊢
                  rw [if_neg (by omega)]
                  by_cases e2 : j = i
                  · rw [if_pos e2, if_pos (by omega)]; simp
                  · rw [if_neg e2] at hn ⊢
                    rw [if_neg (by omega)]
                    exact hM j (by omega) hn
              · rw [getD_set3 (by omega) (by omega), if_neg (by omega), if_neg (by omega)]
            · rw [if_neg h4] at hq; cases hq
        · rw [if_neg h2] at hq ⊢
          simp only [Option.some.injEq, Prod.mk.injEq] at hq
          obtain ⟨rfl, rfl, rfl⟩ := hq
          exact ⟨_, _, rfl, by simp [hm'], hset, hfr⟩
    obtain ⟨m2', h2', g1, g2, g3, g4⟩ := hgo
    obtain ⟨m1', h1', f1, f2, f3, f4, f5⟩ := scan_off hag hL hL' op0 r (i + 1) (m' := m2') (h' := h2') hI2 (by omega) g2 g3 hs2
    refine ⟨m1', h1', ?_, f2, fun j hj => f3 j (by omega), fun j hj => (f4 j hj).trans (g4 j hj), by rw [show i + (r + 1) = i + 1 + r by omega]; exact f5⟩
    show scanS l' (r + 1) (i + p) m' h' (op0 ++ op.map (shO p)) = _
    unfold scanS
    rw [g1]
    simp only
    rw [show i + p + 1 = i + 1 + p by omega]
    exact f1
theorem scanS_add {l : List Ins} : ∀ (r s i : Nat) (m h : List Int) (op : List (Int × Ins)), scanS l (r + s) i m h op = match scanS l r i m h op with | some (m, h, op) => scanS l s (i + r) m h op | none => none
  | 0, s, i, m, h, op => by rw [Nat.zero_add]; rfl
  | r + 1, s, i, m, h, op => by
    rw [show r + 1 + s = (r + s) + 1 by omega]
    show (match scanStep (l.getD i (0, 0, 0)) i m h op with | some (m, h, op) => scanS l (r + s) (i + 1) m h op | none => none) = match (match scanStep (l.getD i (0, 0, 0)) i m h op with | some (m, h, op) => scanS l r (i + 1) m h op | none => none) with | some (m, h, op) => scanS l s (i + (r + 1)) m h op | none => none
    cases scanStep (l.getD i (0, 0, 0)) i m h op with
    | none => rfl
    | some q =>
      obtain ⟨a, b, c⟩ := q
      have := scanS_add (l := l) r s (i + 1) a b c
      rw [show i + 1 + r = i + (r + 1) by omega] at this
      exact this
/-- A way within another row: the same steps, and what has been gone ahead. -/
def offs (x v : Int) : Int := if v = -1 then -1 else addI x v
structure Within (l l' : List Ins) (m m' : List Int) (p a z : Nat) : Prop where
  ins : ∀ i, a ≤ i → i < z → l'.getD (i + p) (0, 0, 0) = l.getD i (0, 0, 0)
  mat : ∀ i, a ≤ i → i < z → opAt l i = 21 → mN m' (i + p) = mN m i + p
theorem Within.hops {l l' : List Ins} {m m' : List Int} {p a z : Nat} (h : Within l l' m m' p a z) {i : Nat} (h1 : a ≤ i) (h2 : i < z) : opAt l' (i + p) = opAt l i ∧ argA l' (i + p) = argA l i ∧ hopsI l' m' (i + p) = (hopsI l m i).map (· + p) := by
  have e := h.ins i h1 h2
  have eo : Go.Proofs.Dk.opAt l' (i + p) = Go.Proofs.Dk.opAt l i := by unfold opAt; rw [e]
  refine ⟨eo, by unfold argA; rw [e], ?_⟩
  unfold hopsI
  rw [eo]
  have ej : jumpTo l' (i + p) = jumpTo l i + p := by unfold jumpTo; rw [e]; omega
  by_cases e21 : opAt l i = 21
  · rw [if_pos e21, if_pos e21, h.mat i h1 h2 e21]
    simp; omega
  · rw [if_neg e21, if_neg e21, ej]
    split
    · rfl
    · split
      · simp; omega
      · simp; omega
theorem puts_off {x v : Int} {p : Nat} (hx : 0 ≤ x ∧ x ≤ 1048577) (hv : 0 ≤ v ∧ v ≤ 1048577) : ∀ (ks : List Nat) {D E : Nat → Int}, (∀ k, StepsI (D k)) → ∀ i, (∀ j, i ≤ j → E (j + p) = offs x (D j)) → ∀ j, i ≤ j → (ks.map (· + p)).foldl (fun g k => putI bM g k (addI x v)) E (j + p) = offs x (ks.foldl (fun g k => putI bM g k v) D j)
  | [], D, E, hD, i, h, j, hj => h j hj
  | k :: ks, D, E, hD, i, h, j, hj => by
    rw [List.map_cons, List.foldl_cons, List.foldl_cons]
    refine puts_off hx hv ks (putI_ok bM_bet hD k hv) i (fun q hq => ?_) j hj
    unfold putI
    by_cases e : q = k
    · subst e
      rw [if_pos rfl, if_pos rfl, h q hq]
      unfold offs
      by_cases e2 : D q = -1
      · rw [if_pos e2, if_pos e2, if_pos rfl, if_neg (by omega)]
      · have hd := (hD q).nn e2
        have ha := addI_ok hx.1 hd.1
        rw [if_neg e2, if_neg e2, if_neg (by omega)]
        have hb : bM (D q) v ≠ -1 := by unfold bM; split <;> omega
        rw [if_neg hb]
        unfold bM addI
        split <;> split <;> split <;> (try split) <;> omega
    · rw [if_neg e, if_neg (by omega)]
      exact h q hq
theorem run_off {W W' : Nat → Nat → Int} {l l' : List Ins} {m m' : List Int} {p a z : Nat} (hw : Within l l' m m' p a z) (hr : ∀ i, i < l.length → rightI (l.getD i (0, 0, 0)) = true) (hz : z ≤ l.length) {x : Int} (hx : 0 ≤ x ∧ x ≤ 1048577) (hW : ∀ i, a ≤ i → i < z → opAt l i = 21 → StepsI (W (i + 1) (mN m i)) ∧ W' (i + p + 1) (mN m i + p) = W (i + 1) (mN m i)) : ∀ (r i : Nat) {D E : Nat → Int}, (∀ k, StepsI (D k)) → a ≤ i → i + r ≤ z → (∀ j, i ≤ j → E (j + p) = offs x (D j)) → ∀ j, i + r ≤ j → runW bM W' l' m' r (i + p) E (j + p) = offs x (runW bM W l m r i D j)
  | 0, i, D, E, hD, hi, hiz, h, j, hj => h j hj
  | r + 1, i, D, E, hD, hi, hiz, h, j, hj => by
    have hri := hr i (by omega)
    have hWi := hW i hi (by omega)
    obtain ⟨o1, o2, o3⟩ := hw.hops hi (by omega)
    have hc : costI W' l' m' (i + p) = costI W l m i := by
      unfold costI
      rw [o1]
      by_cases e : opAt l i = 21
      · rw [if_pos e, if_pos e, o2, hw.mat i hi (by omega) e, (hWi e).2]
      · rw [if_neg e, if_neg e]
    have hco := costI_ok hri (fun e => (hWi e).1)
    show runW bM W' l' m' r (i + p + 1) (stepW bM W' l' m' (i + p) E) (j + p) = offs x (runW bM W l m r (i + 1) (stepW bM W l m i D) j)
    rw [show i + p + 1 = i + 1 + p by omega]
    refine run_off hw hr hz hx hW r (i + 1) (stepW_ok bM_bet hD hri (fun e => (hWi e).1)) (by omega) (by omega) (fun q hq => ?_) j (by omega)
    unfold stepW
    have hEi := h i (Nat.le_refl _)
    by_cases e : D i = -1
    · have : E (i + p) = -1 := by rw [hEi]; unfold offs; rw [if_pos e]
      rw [if_pos e, if_pos this]
      exact h q (by omega)
    · have hd := (hD i).nn e
      have ha := addI_ok hx.1 hd.1
      have hE : E (i + p) = addI x (D i) := by rw [hEi]; unfold offs; rw [if_neg e]
      rw [if_neg e, if_neg (by omega), hE, hc, o3, addI_assoc hx.1 hd.1 hco.1]
      exact puts_off hx (addI_ok hd.1 hco.1) (hopsI l m i) hD i h q (by omega)
theorem offs_zero {v : Int} (h : StepsI v) : offs 0 v = v := by
  unfold offs
  by_cases e : v = -1
  · rw [if_pos e, e]
  · have := h.nn e
    rw [if_neg e]
    unfold addI
    split <;> omega
/-- The same way in another row. -/
theorem way_off {l l' : List Ins} {m m' h : List Int} {p : Nat} (hF : Fine l m h) : ∀ (f : Nat) {a z : Nat}, Reg l m a z → Within l l' m m' p a z → wayF bM l' m' f (a + p) (z + p) = wayF bM l m f a z
  | 0, a, z, hR, hw => rfl
  | f + 1, a, z, hR, hw => by
    have hlt := hR.lt
    have hle := hR.le
    have hst : StepsI (wayF bM l m (f + 1) a z) := wayF_ok bM_bet hF (f + 1) hR
    have h0 := run_off (W := wayF bM l m f) (W' := wayF bM l' m' f) hw (fun i hi => hF.right hi) (by omega) (x := 0) (by decide) (fun i i1 i2 i3 => by
      obtain ⟨w, j1, j2, j3⟩ := hR.loop i i1 i2 (isOpen_iff.2 (.inl i3))
      have hj : mN m i = w := by unfold mN; rw [j1]; rfl
      have hq := hF.reg (show i < l.length by omega) (isOpen_iff.2 (.inl i3))
      refine ⟨wayF_ok bM_bet hF f hq, ?_⟩
      rw [show i + p + 1 = i + 1 + p by omega]
      exact way_off hF f hq ⟨fun k k1 k2 => hw.ins k (by omega) (by omega), fun k k1 k2 k3 => hw.mat k (by omega) (by omega) k3⟩) (z - a) a (E := startW (a + p)) (startW_ok a) (Nat.le_refl _) (by omega) (fun j hj => by
        rw [offs_zero (startW_ok a j)]
        unfold startW
        by_cases e : j = a
        · rw [if_pos e, if_pos (by omega)]
        · rw [if_neg e, if_neg (by omega)]) z (by omega)
    show runW bM (wayF bM l' m' f) l' m' (z + p - (a + p)) (a + p) (startW (a + p)) (z + p) = _
    rw [show z + p - (a + p) = z - a by omega, h0]
    exact offs_zero hst
end Go.Proofs.Dk

/- Plain: rows one behind the other, a loop around a row. -/
namespace Go.Proofs.Dk
open Go
set_option maxRecDepth 100000
set_option linter.unusedVariables false
set_option linter.unusedSimpArgs false
theorem scanI_ok {l : List Ins} (h : (scanI l).2.2 = 0) : ∃ m hh, scanS l l.length 0 (List.replicate l.length 0) (List.replicate l.length 0) [] = some (m, hh, []) ∧ (scanI l).1 = m := by
  have hr := (scanI_nest h).row
  unfold scanI at h ⊢
  rw [if_pos hr] at h ⊢
  cases hs : scanS l l.length 0 (List.replicate l.length 0) (List.replicate l.length 0) [] with
  | none => rw [hs] at h; cases h
  | some q =>
    obtain ⟨m, hh, op⟩ := q
    rw [hs] at h
    simp only at h ⊢
    by_cases h0 : 0 < op.length
    · rw [if_pos h0] at h; cases h
    · rw [if_neg h0]
      have : op = [] := List.length_eq_zero_iff.1 (by omega)
      subst this
      exact ⟨m, hh, rfl, rfl⟩
/-- All but the end. -/
theorem scan_init {l : List Ins} {m hh : List Int} (hl : 0 < l.length) (he : opAt l (l.length - 1) = 25) (hs : scanS l l.length 0 (List.replicate l.length 0) (List.replicate l.length 0) [] = some (m, hh, [])) : ∃ m1 h1, scanS l (l.length - 1) 0 (List.replicate l.length 0) (List.replicate l.length 0) [] = some (m1, h1, []) ∧ m1.length = l.length ∧ m = m1.set (l.length - 1) (-1) := by
  have e : l.length = (l.length - 1) + 1 := by omega
  have hs2 := hs
  rw [show scanS l l.length 0 (List.replicate l.length 0) (List.replicate l.length 0) [] = scanS l ((l.length - 1) + 1) 0 (List.replicate l.length 0) (List.replicate l.length 0) [] by rw [← e], scanS_add] at hs2
  cases hq : scanS l (l.length - 1) 0 (List.replicate l.length 0) (List.replicate l.length 0) [] with
  | none => rw [hq] at hs2; cases hs2
  | some q =>
    obtain ⟨m1, h1, op⟩ := q
    rw [hq] at hs2
    have hst : scanStep (l.getD (l.length - 1) (0, 0, 0)) (l.length - 1) m1 h1 op = some (m1.set (l.length - 1) (-1), (if 0 < op.length then (h1.set (l.length - 1) (-1)).set (l.length - 1) (op.getD (op.length - 1) (0, 0, 0, 0)).1 else h1.set (l.length - 1) (-1)), op) := by
      unfold scanStep
      have h25 : (l.getD (l.length - 1) (0, 0, 0)).1 = 25 := he
      simp only [h25]
      rw [if_neg (by decide), if_neg (by decide)]
    have hs3 : scanS l 1 (l.length - 1) m1 h1 op = some (m, hh, []) := by
      have : 0 + (l.length - 1) = l.length - 1 := by omega
      rw [this] at hs2
      exact hs2
    unfold scanS at hs3
    rw [hst] at hs3
    simp only [scanS, Option.some.injEq, Prod.mk.injEq] at hs3
    obtain ⟨a1, a2, a3⟩ := hs3
    subst a3
    have hL := (scan_off (l := l) (l' := l) (p := 0) (L := l.length) (fun i hi => rfl) (Nat.le_refl _) (Nat.le_refl _) [] (l.length - 1) 0 (m' := List.replicate l.length 0) (h' := List.replicate l.length 0) (ScanI.start l) (by omega) (by simp) (fun j hj => by omega) hq)
    obtain ⟨_, _, _, _, _, _, hI⟩ := hL
    exact ⟨m1, h1, rfl, hI.hm, a1.symm⟩
theorem Fine.mat {l : List Ins} {m h : List Int} (hF : Fine l m h) {i : Nat} (hi : i < l.length) (e : opAt l i = 21) : m.getD i 0 = ((mN m i : Nat) : Int) ∧ m.getD i 0 ≠ -1 := by
  obtain ⟨j, j1, j2, j3⟩ := hF.nest.open_ i hi (isOpen_iff.2 (.inl e))
  unfold mN
  rw [j1]
  exact ⟨rfl, by omega⟩
/-- Beyond a way's end nothing is told. -/
theorem run_beyond {b : Int → Int → Int} {W : Nat → Nat → Int} {l : List Ins} {m : List Int} {a z : Nat} (hR : Reg l m a z) {j : Nat} (hj : z < j) : ∀ (r i : Nat) {D : Nat → Int}, a ≤ i → i + r ≤ z → runW b W l m r i D j = D j
  | 0, i, D, hi, hz => rfl
  | r + 1, i, D, hi, hz => by
    show runW b W l m r (i + 1) (stepW b W l m i D) j = _
    rw [run_beyond hR hj r (i + 1) (by omega) (by omega)]
    unfold stepW
    split
    · rfl
    · have hh := (hR.hop hi (show i < z by omega)).2
      have key : ∀ (ks : List Nat) (E : Nat → Int), (∀ k ∈ ks, k ≤ z) → ks.foldl (fun g k => putI b g k (addI (D i) (costI W l m i))) E j = E j := by
        intro ks
        induction ks with
        | nil => intro E _; rfl
        | cons q ks ih =>
          intro E hk
          rw [List.foldl_cons, ih _ (fun k h => hk k (List.mem_cons_of_mem _ h))]
          have := hk q (List.mem_cons_self ..)
          unfold putI
          rw [if_neg (by omega)]
      exact key _ D fun k hk => (hh k hk).2
theorem run_none {b : Int → Int → Int} {W : Nat → Nat → Int} {l : List Ins} {m : List Int} : ∀ (r i : Nat) {D : Nat → Int}, (∀ j, i ≤ j → j < i + r → D j = -1) → runW b W l m r i D = D
  | 0, i, D, h => rfl
  | r + 1, i, D, h => by
    have : stepW b W l m i D = D := by unfold stepW; rw [if_pos (h i (Nat.le_refl _) (by omega))]
    show runW b W l m r (i + 1) (stepW b W l m i D) = _
    rw [this]
    exact run_none r (i + 1) fun j h1 h2 => h j (by omega) (by omega)
theorem locks_fine {l : List Ins} (h : locksI l = 0) : (scanI l).2.2 = 0 ∧ Fine l (scanI l).1 (scanI l).2.1 := ⟨whole_scan (locks_whole h), whole_fine (locks_whole h)⟩
theorem all_row {b : Int → Int → Int} {n : Nat} {l : List Ins} (h : (allI b n l).2 = 0) : (allI b n l).1 = wayF b l (scanI l).1 n 0 (l.length - 1) + 1 ∧ wayF b l (scanI l).1 n 0 (l.length - 1) ≤ 1048575 := by
  obtain ⟨h1, h2⟩ := all_zero h
  unfold allI at h ⊢
  rw [if_neg (show ¬ (locksI l ≠ 0) from fun k => k h1), if_neg (show ¬ (stacksI l ≠ 0) from fun k => k h2)] at h ⊢
  split at h
  · cases h
  · rename_i hne
    rw [if_neg hne]
    unfold addI at hne ⊢
    split at hne
    · exact absurd rfl hne
    · rename_i h5
      rw [if_neg h5]
      exact ⟨rfl, by omega⟩
/-- One row behind another one. -/
theorem sums_both {a b : List Ins} (hlen : a.length + b.length < 290) (ea : (allI bM 300 a).2 = 0) (eb : (allI bM 300 b).2 = 0) (ec : (allI bM 300 (a.take (a.length - 1) ++ b)).2 = 0) : (allI bM 300 (a.take (a.length - 1) ++ b)).1 = (allI bM 300 a).1 + (allI bM 300 b).1 - 1 := by
  obtain ⟨a1, a2⟩ := all_row ea
  obtain ⟨b1, b2⟩ := all_row eb
  obtain ⟨c1, c2⟩ := all_row ec
  obtain ⟨za, ta⟩ := all_zero ea
  obtain ⟨zb, tb⟩ := all_zero eb
  obtain ⟨zc, tc⟩ := all_zero ec
  obtain ⟨sa, Fa⟩ := locks_fine za
  obtain ⟨sb, Fb⟩ := locks_fine zb
  obtain ⟨sc, Fc⟩ := locks_fine zc
  obtain ⟨la, _⟩ := Fa.len
  obtain ⟨lb, _⟩ := Fb.len
  generalize hc : a.take (a.length - 1) ++ b = c at *
  have hcl : c.length = a.length - 1 + b.length := by rw [← hc]; simp
  have ia : ∀ i, i < a.length - 1 → c.getD (i + 0) (0, 0, 0) = a.getD i (0, 0, 0) := fun i hi => by
    rw [← hc, List.getD_eq_getElem?_getD, Nat.add_zero, List.getElem?_append_left (by simp; omega), List.getElem?_take, if_pos hi, List.getD_eq_getElem?_getD]
  have ib : ∀ i, i < b.length → c.getD (i + (a.length - 1)) (0, 0, 0) = b.getD i (0, 0, 0) := fun i hi => by
    have e : (a.take (a.length - 1)).length = a.length - 1 := by simp
    rw [← hc, List.getD_eq_getElem?_getD, List.getElem?_append_right (by omega), e, Nat.add_sub_cancel, List.getD_eq_getElem?_getD]
  obtain ⟨ma, ha, s1, e1⟩ := scanI_ok sa
  obtain ⟨mb, hb, s2, e2⟩ := scanI_ok sb
  obtain ⟨mc, hcc, s3, e3⟩ := scanI_ok sc
  obtain ⟨m1, h1, t1, t2, t3⟩ := scan_init la (Fa.last) s1
  obtain ⟨m1', h1', u1, u2, u3, u4, u5⟩ := scan_off (l := a) (l' := c) (p := 0) (L := a.length - 1) ia (by omega) (by omega) [] (a.length - 1) 0 (m' := List.replicate c.length 0) (h' := List.replicate c.length 0) (ScanI.start a) (by omega) (by simp) (fun j hj => by omega) t1
  obtain ⟨m2', h2', v1, v2, v3, v4, v5⟩ := scan_off (l := b) (l' := c) (p := a.length - 1) (L := b.length) ib (Nat.le_refl _) (by omega) [] b.length 0 (m' := m1') (h' := h1') (ScanI.start b) (by omega) u2 (fun j hj => by omega) s2
  have hm : mc = m2' := by
    rw [hcl, scanS_add] at s3
    rw [hcl] at u1
    simp only [Nat.zero_add, Nat.add_zero, List.map_nil, List.append_nil] at u1 v1 s3
    rw [u1] at s3
    simp only at s3
    rw [v1] at s3
    simp only [Option.some.injEq, Prod.mk.injEq] at s3
    exact s3.1.symm
  rw [e1] at Fa a1 a2
  rw [e2] at Fb b1 b2
  rw [e3, hm] at Fc c1 c2
  have Wa : Within a c ma m2' 0 0 (a.length - 1) := ⟨fun i _ hi => ia i hi, fun i _ hi e => by
    obtain ⟨k1, k2⟩ := Fa.mat (show i < a.length by omega) e
    have k3 : ma.getD i 0 = m1.getD i 0 := by rw [t3, getD_setI (by omega), if_neg (by omega)]
    have k4 := u3 i (by omega) (by rw [← k3]; exact k2)
    have k5 := v4 i hi
    unfold mN
    rw [Nat.add_zero] at k4 ⊢
    rw [k5, k4, ← k3]
    omega⟩
  have Wb : Within b c mb m2' (a.length - 1) 0 (b.length - 1) := ⟨fun i _ hi => ib i (by omega), fun i _ hi e => by
    obtain ⟨k1, k2⟩ := Fb.mat (show i < b.length by omega) e
    have k4 := v3 i (by omega) k2
    unfold mN
    rw [k4, k1]
    omega⟩
  have Ra := Fa.all
  have Rb := Fb.all
  have g1 := run_off (W := wayF bM a ma 299) (W' := wayF bM c m2' 299) Wa (fun i hi => Fa.right hi) (by omega) (x := 0) (by decide) (fun i i1 i2 i3 => by
    have hq := Fa.reg (show i < a.length by omega) (isOpen_iff.2 (.inl i3))
    obtain ⟨w, j1, j2, j3⟩ := Ra.loop i i1 i2 (isOpen_iff.2 (.inl i3))
    have hj : mN ma i = w := by unfold mN; rw [j1]; rfl
    refine ⟨wayF_ok bM_bet Fa 299 hq, ?_⟩
    rw [show i + 0 + 1 = i + 1 + 0 by omega]
    exact way_off Fa 299 hq ⟨fun k k1 k2 => Wa.ins k (by omega) (by omega), fun k k1 k2 k3 => Wa.mat k (by omega) (by omega) k3⟩) (a.length - 1) 0 (D := startW 0) (E := startW 0) (startW_ok 0) (Nat.le_refl _) (by omega) (fun j hj => by rw [offs_zero (startW_ok 0 j)]; rfl)
  simp only [Nat.add_zero, Nat.zero_add] at g1
  have wa0 := way_reach bM_bet Fa (come_is ta).2 300 Fa.wayAll
  have wb0 := way_reach bM_bet Fb (come_is tb).2 300 Fb.wayAll
  have hwa : runW bM (wayF bM a ma 299) a ma (a.length - 1) 0 (startW 0) (a.length - 1) = wayF bM a ma 300 0 (a.length - 1) := rfl
  have hwb : runW bM (wayF bM b mb 299) b mb (b.length - 1) 0 (startW 0) (b.length - 1) = wayF bM b mb 300 0 (b.length - 1) := rfl
  have hst := runW_ok bM_bet (W := wayF bM a ma 299) (l := a) (m := ma) (fun i hi => Fa.right hi) (a.length - 1) 0 (startW_ok 0) (by omega) (fun k k1 k2 k3 => wayF_ok bM_bet Fa 299 (Fa.reg (by omega) (isOpen_iff.2 (.inl k3))))
  have g2 := run_off (W := wayF bM b mb 299) (W' := wayF bM c m2' 299) Wb (fun i hi => Fb.right hi) (by omega) (x := wayF bM a ma 300 0 (a.length - 1)) wa0 (fun i i1 i2 i3 => by
    have hq := Fb.reg (show i < b.length by omega) (isOpen_iff.2 (.inl i3))
    obtain ⟨w, j1, j2, j3⟩ := Rb.loop i i1 i2 (isOpen_iff.2 (.inl i3))
    have hj : mN mb i = w := by unfold mN; rw [j1]; rfl
    refine ⟨wayF_ok bM_bet Fb 299 hq, ?_⟩
    rw [show i + (a.length - 1) + 1 = i + 1 + (a.length - 1) by omega]
    exact way_off Fb 299 hq ⟨fun k k1 k2 => Wb.ins k (by omega) (by omega), fun k k1 k2 k3 => Wb.mat k (by omega) (by omega) k3⟩) (b.length - 1) 0 (D := startW 0) (E := runW bM (wayF bM c m2' 299) c m2' (a.length - 1) 0 (startW 0)) (startW_ok 0) (Nat.le_refl _) (by omega) (fun j hj => by
      rw [g1 (j + (a.length - 1)) (by omega), offs_zero (hst _)]
      by_cases e : j = 0
      · subst e
        rw [Nat.zero_add, hwa]
        show _ = offs _ 0
        unfold offs addI
        rw [if_neg (by decide)]
        split <;> omega
      · rw [run_beyond Ra (show a.length - 1 < j + (a.length - 1) by omega) (a.length - 1) 0 (Nat.le_refl _) (by omega)]
        unfold startW offs
        rw [if_neg (by omega), if_neg e, if_pos rfl]) (b.length - 1) (by omega)
  rw [hwb] at g2
  have hwc : wayF bM c m2' 300 0 (c.length - 1) = runW bM (wayF bM c m2' 299) c m2' (b.length - 1) (0 + (a.length - 1)) (runW bM (wayF bM c m2' 299) c m2' (a.length - 1) 0 (startW 0)) (b.length - 1 + (a.length - 1)) := by
    show runW bM (wayF bM c m2' 299) c m2' (c.length - 1 - 0) 0 (startW 0) (c.length - 1) = _
    rw [show c.length - 1 - 0 = (a.length - 1) + (b.length - 1) by omega, runW_add, show c.length - 1 = b.length - 1 + (a.length - 1) by omega]
  rw [hwc, g2] at c1 c2
  rw [c1, a1, b1]
  unfold offs addI at c2 ⊢
  rw [if_neg (by omega)] at c2 ⊢
  split at c2 <;> omega
/-- A loop around a row. -/
theorem sums_loop {a : List Ins} {n : Int} (hn : 1 ≤ n ∧ n ≤ 9) (hlen : a.length < 290) (ea : (allI bM 300 a).2 = 0) (ec : (allI bM 300 ([(21, n, 0)] ++ a.take (a.length - 1) ++ [(22, 0, 0), (25, 0, 0)])).2 = 0) : (allI bM 300 ([(21, n, 0)] ++ a.take (a.length - 1) ++ [(22, 0, 0), (25, 0, 0)])).1 = n * (allI bM 300 a).1 + 2 := by
  obtain ⟨a1, a2⟩ := all_row ea
  obtain ⟨c1, c2⟩ := all_row ec
  obtain ⟨za, ta⟩ := all_zero ea
  obtain ⟨zc, tc⟩ := all_zero ec
  obtain ⟨sa, Fa⟩ := locks_fine za
  obtain ⟨sc, Fc⟩ := locks_fine zc
  obtain ⟨la, _⟩ := Fa.len
  generalize hc : ([(21, n, 0)] ++ a.take (a.length - 1) ++ [(22, 0, 0), (25, 0, 0)] : List Ins) = c at *
  have e0 : (a.take (a.length - 1)).length = a.length - 1 := by simp
  have hcl : c.length = a.length + 2 := by rw [← hc]; simp; omega
  have i0 : c.getD 0 (0, 0, 0) = (21, n, 0) := by rw [← hc]; rfl
  have ia : ∀ i, i < a.length - 1 → c.getD (i + 1) (0, 0, 0) = a.getD i (0, 0, 0) := fun i hi => by
    rw [← hc, List.append_assoc, List.getD_eq_getElem?_getD, List.getElem?_append_right (by simp), List.getElem?_append_left (by simp [hi]), List.length_singleton, Nat.add_sub_cancel, List.getElem?_take, if_pos hi, List.getD_eq_getElem?_getD]
  have iN : c.getD a.length (0, 0, 0) = (22, 0, 0) := by
    rw [← hc, List.getD_eq_getElem?_getD, List.getElem?_append_right (by simp; omega)]
    have : a.length - ([((21 : Int), n, (0 : Int))] ++ a.take (a.length - 1)).length = 0 := by simp; omega
    rw [this]; rfl
  have iE : c.getD (a.length + 1) (0, 0, 0) = (25, 0, 0) := by
    rw [← hc, List.getD_eq_getElem?_getD, List.getElem?_append_right (by simp)]
    have : a.length + 1 - ([((21 : Int), n, (0 : Int))] ++ a.take (a.length - 1)).length = 1 := by simp; omega
    rw [this]; rfl
  obtain ⟨ma, ha, s1, e1⟩ := scanI_ok sa
  obtain ⟨mc, hcc, s3, e3⟩ := scanI_ok sc
  obtain ⟨m1, h1, t1, t2, t3⟩ := scan_init la (Fa.last) s1
  -- the loop's own step
  have st0 : scanStep (c.getD 0 (0, 0, 0)) 0 (List.replicate c.length 0) (List.replicate c.length 0) [] = some ((List.replicate c.length 0).set 0 (-1), (List.replicate c.length 0).set 0 (-1), [(0, (22, 0, 0))]) := by
    rw [i0]
    unfold scanStep ends
    simp
  obtain ⟨m2, h2, u1, u2, u3, u4, u5⟩ := scan_off (l := a) (l' := c) (p := 1) (L := a.length - 1) ia (by omega) (by omega) [(0, (22, 0, 0))] (a.length - 1) 0 (m' := (List.replicate c.length 0).set 0 (-1)) (h' := (List.replicate c.length 0).set 0 (-1)) (ScanI.start a) (by omega) (by simp) (fun j hj => by omega) t1
  simp only [List.map_nil, List.append_nil, Nat.zero_add] at u1 u3
  have stN : ∃ h4, scanStep (c.getD a.length (0, 0, 0)) a.length m2 h2 [(0, (22, 0, 0))] = some (((m2.set a.length (-1)).set a.length 0).set 0 (a.length : Int), h4, []) := by
    rw [iN]
    unfold scanStep
    simp
  obtain ⟨h4, stN⟩ := stN
  have stE : ∃ h5, scanStep (c.getD (a.length + 1) (0, 0, 0)) (a.length + 1) (((m2.set a.length (-1)).set a.length 0).set 0 (a.length : Int)) h4 [] = some ((((m2.set a.length (-1)).set a.length 0).set 0 (a.length : Int)).set (a.length + 1) (-1), h5, []) := by
    rw [iE]
    unfold scanStep
    simp
  obtain ⟨h5, stE⟩ := stE
  have hm : mc = (((m2.set a.length (-1)).set a.length 0).set 0 (a.length : Int)).set (a.length + 1) (-1) := by
    have q1 : scanS c (1 + ((a.length - 1) + 2)) 0 (List.replicate c.length 0) (List.replicate c.length 0) [] = some (mc, hcc, []) := by
      rw [show 1 + ((a.length - 1) + 2) = c.length by omega]; exact s3
    rw [show 1 + ((a.length - 1) + 2) = ((a.length - 1) + 2) + 1 by omega] at q1
    unfold scanS at q1
    rw [st0] at q1
    simp only at q1
    rw [scanS_add, u1] at q1
    simp only at q1
    rw [show 0 + 1 + (a.length - 1) = a.length by omega] at q1
    unfold scanS at q1
    rw [stN] at q1
    simp only at q1
    unfold scanS at q1
    rw [stE] at q1
    simp only [scanS, Option.some.injEq, Prod.mk.injEq] at q1
    exact q1.1.symm
  rw [e1] at Fa a1 a2
  rw [e3] at Fc c1 c2
  have gm : ∀ j, mc.getD j 0 = if j = a.length + 1 then -1 else if j = 0 then (a.length : Int) else if j = a.length then 0 else m2.getD j 0 := fun j => by
    rw [hm, getD_setI (by simp [u2]; omega)]
    by_cases e : j = a.length + 1
    · rw [if_pos e, if_pos e]
    · rw [if_neg e, if_neg e, getD_set3 (by omega) (by omega)]
  have m0 : mN mc 0 = a.length := by
    unfold mN
    rw [gm, if_neg (by omega), if_pos rfl]; simp
  have Wa : Within a c ma mc 1 0 (a.length - 1) := ⟨fun i _ hi => ia i hi, fun i _ hi e => by
    obtain ⟨k1, k2⟩ := Fa.mat (show i < a.length by omega) e
    have k3 : ma.getD i 0 = m1.getD i 0 := by rw [t3, getD_setI (by omega), if_neg (by omega)]
    have k4 := u3 i (by omega) (by rw [← k3]; exact k2)
    unfold mN
    rw [gm, if_neg (by omega), if_neg (by omega), if_neg (by omega), k4, ← k3, k1]
    omega⟩
  have hw := way_off Fa 299 Fa.all Wa
  rw [wayF_fuel Fa 299 300 Fa.all (by omega) (by omega), Nat.zero_add, show a.length - 1 + 1 = a.length by omega] at hw
  have wa0 := way_reach bM_bet Fa (come_is ta).2 300 Fa.wayAll
  have hwc : wayF bM c mc 300 0 (c.length - 1) = loopI (wayF bM a ma 300 0 (a.length - 1)) n := by
    show runW bM (wayF bM c mc 299) c mc (c.length - 1 - 0) 0 (startW 0) (c.length - 1) = _
    rw [show c.length - 1 - 0 = a.length + 1 by omega, show c.length - 1 = a.length + 1 by omega]
    show runW bM (wayF bM c mc 299) c mc a.length 1 (stepW bM (wayF bM c mc 299) c mc 0 (startW 0)) (a.length + 1) = _
    have o0 : opAt c 0 = 21 := by unfold opAt; rw [i0]
    have hD : stepW bM (wayF bM c mc 299) c mc 0 (startW 0) = putI bM (startW 0) (a.length + 1) (addI 0 (loopI (wayF bM a ma 300 0 (a.length - 1)) n)) := by
      unfold stepW
      rw [if_neg (show ¬ startW 0 0 = -1 by unfold startW; rw [if_pos rfl]; decide)]
      unfold hopsI costI
      rw [if_pos o0, if_pos o0, m0, Nat.zero_add, hw]
      unfold argA
      rw [i0]
      rfl
    rw [hD, run_none a.length 1 (fun j j1 j2 => by
      unfold putI startW
      rw [if_neg (by omega), if_neg (by omega)])]
    have hs0 : startW 0 (a.length + 1) = -1 := by unfold startW; rw [if_neg (by omega)]
    unfold putI
    rw [if_pos rfl, if_pos hs0]
    have := loopI_ok (w := wayF bM a ma 300 0 (a.length - 1)) (A := n) (.inr wa0) ⟨hn.1, by omega⟩
    unfold addI
    split <;> omega
  rw [hwc] at c1 c2
  have hk := loopI_key (A := n) wa0.1 wa0.2
  rw [c1, a1]
  generalize wayF bM a ma 300 0 (a.length - 1) = w at *
  split at hk
  · omega
  · rw [Int.mul_add, Int.mul_one] at hk ⊢
    omega
end Go.Proofs.Dk

/- CostSums: what it does, read off its text. -/
namespace Go.Proofs.Dk
open Go
set_option maxRecDepth 100000
set_option linter.unusedVariables false
/-! ### camshaftlaw09_CostSums: function 11 -/
noncomputable def camshaftlaw09_CostSums.f (n : Nat) (a0 : (List (Int × (Int × Int)))) (a1 : (List (Int × (Int × Int)))) (a2 : Int) : Option Bool := if (decide ((a0.length : Int) < 1)) then ((camshaftlaw09_known.f n ).bind fun y1 => (some y1)) else (if (decide ((IntKind.wrap .i64 ((a0.length : Int) + (a1.length : Int))) > 190)) then ((camshaftlaw09_known.f n ).bind fun y2 => (some y2)) else ((cost_Worst.f n a0).bind fun y3 => ((cost_Worst.f n a1).bind fun y4 => (if (decide (0 ≤ (IntKind.wrap .i64 ((a0.length : Int) - 1))) && decide ((IntKind.wrap .i64 ((a0.length : Int) - 1)) ≤ (a0.length : Int))) then (if (decide ((0 + ((a0.take ((IntKind.wrap .i64 ((a0.length : Int) - 1))).toNat).drop 0).length) * 24 ≤ 140737488355328) && decide (1 ≤ 24)) then (if (decide ((([] ++ ((a0.take ((IntKind.wrap .i64 ((a0.length : Int) - 1))).toNat).drop 0)).length + a1.length) * 24 ≤ 140737488355328) && decide (1 ≤ 24)) then ((cost_Worst.f n (([] ++ ((a0.take ((IntKind.wrap .i64 ((a0.length : Int) - 1))).toNat).drop 0)) ++ a1)).bind fun y5 => (if (decide (0 ≤ (IntKind.wrap .i64 ((a0.length : Int) - 1))) && decide ((IntKind.wrap .i64 ((a0.length : Int) - 1)) ≤ (a0.length : Int))) then (if (decide ((1 + ((a0.take ((IntKind.wrap .i64 ((a0.length : Int) - 1))).toNat).drop 0).length) * 24 ≤ 140737488355328) && decide (1 ≤ 24)) then (if (decide ((([(21, ((IntKind.wrap .i64 (1 + ((IntKind.wrap .i64 a2).tmod 9))), 0))] ++ ((a0.take ((IntKind.wrap .i64 ((a0.length : Int) - 1))).toNat).drop 0)).length + 2) * 24 ≤ 140737488355328) && decide (1 ≤ 24)) then ((cost_Worst.f n (([(21, ((IntKind.wrap .i64 (1 + ((IntKind.wrap .i64 a2).tmod 9))), 0))] ++ ((a0.take ((IntKind.wrap .i64 ((a0.length : Int) - 1))).toNat).drop 0)) ++ [(22, (0, 0)), (25, (0, 0))])).bind fun y6 => (if (y3.2 != 0) then ((camshaftlaw09_known.f n ).bind fun y7 => (some y7)) else (if (y4.2 != 0) then ((camshaftlaw09_known.f n ).bind fun y8 => (some y8)) else (if (decide ((IntKind.wrap .i64 (y3.1 + y4.1)) > 1073741824)) then ((camshaftlaw09_known.f n ).bind fun y9 => (some y9)) else (if (y5.2 != 0) then (if (y6.2 != 0) then ((camshaftlaw09_known.f n ).bind fun y10 => (some y10)) else (if (y6.1 == (IntKind.wrap .i64 ((IntKind.wrap .i64 ((IntKind.wrap .i64 (1 + ((IntKind.wrap .i64 a2).tmod 9))) * y3.1)) + 2))) then ((camshaftlaw09_known.f n ).bind fun y11 => (some y11)) else (some false))) else (if (y5.1 == (IntKind.wrap .i64 ((IntKind.wrap .i64 (y3.1 + y4.1)) - 1))) then (if (y6.2 != 0) then ((camshaftlaw09_known.f n ).bind fun y12 => (some y12)) else (if (y6.1 == (IntKind.wrap .i64 ((IntKind.wrap .i64 ((IntKind.wrap .i64 (1 + ((IntKind.wrap .i64 a2).tmod 9))) * y3.1)) + 2))) then ((camshaftlaw09_known.f n ).bind fun y13 => (some y13)) else (some false))) else (some false))))))) else none) else none) else none)) else none) else none) else none))))
noncomputable def camshaftlaw09_CostSums.fs (n : Nat) : FS := ⟨⟨[.val (.sl (.pair (.int .i64) (.pair (.int .i64) (.int .i64)))), .val (.sl (.pair (.int .i64) (.pair (.int .i64) (.int .i64)))), .val (.int .u8)], []⟩, ⟨[.val .bool], []⟩, Bool, fun y => ((y, ()), ()), fun o => o.1.1, fun x => camshaftlaw09_CostSums.f n x.1.1 x.1.2.1 x.1.2.2.1⟩
theorem camshaftlaw09_CostSums.e (n : Nat) : FnEq (c36 n) 14 11 0 (camshaftlaw09_CostSums.fs n) := fun x => by kernel_rfl
theorem camshaftlaw09_CostSums.ok (n : Nat) : SpecS Try.prog 11 (camshaftlaw09_CostSums.fs n) := ⟨fun hH hA hx hk => specOk (g36 n) (camshaftlaw09_CostSums.e n) (fun _ => rfl) rfl hH hA hx hk⟩
end Go.Proofs.Dk

/- CostSums is true. -/
namespace Go.Proofs.Dk
open Go
set_option maxRecDepth 100000
set_option linter.unusedVariables false
theorem camshaftlaw09_CostSums_true (a0 : (List (Int × (Int × Int)))) (a1 : (List (Int × (Int × Int)))) (a2 : Int) (ok0 : Sh.Ok (.sl (.pair (.int .i64) (.pair (.int .i64) (.int .i64)))) a0) (ok1 : Sh.Ok (.sl (.pair (.int .i64) (.pair (.int .i64) (.int .i64)))) a1) (ok2 : Sh.Ok (.int .u8) a2) (le0 : a0.length ≤ 140737488351232) (le1 : a1.length ≤ 140737488351232) : ∃ n, camshaftlaw09_CostSums.f n a0 a1 a2 = some true := by
  refine ⟨300, ?_⟩
  have hw : 0 ≤ a2 ∧ a2 ≤ 255 := by
    have h : (Lit.int .u8 a2).wf = true := ok2
    simp [Lit.wf, IntKind.bits, IntKind.signed, IntKind.min, IntKind.max] at h
    omega
  unfold camshaftlaw09_CostSums.f
  rw [known_is, Option.bind_some]
  by_cases hl0 : a0.length < 1
  · rw [if_pos (decide_eq_true (by omega))]
  rw [if_neg (fun h => hl0 (by have := of_decide_eq_true h; omega)), wrap_id (by omega) (by omega)]
  by_cases hl : a0.length + a1.length > 190
  · rw [if_pos (decide_eq_true (by omega))]
  rw [if_neg (fun h => hl (by have := of_decide_eq_true h; omega))]
  have hp : IntKind.wrap .i64 ((a0.length : Int) - 1) = ((a0.length - 1 : Nat) : Int) := last_ix (by omega) (by omega)
  have hd : ∃ n : Int, (1 ≤ n ∧ n ≤ 9) ∧ IntKind.wrap .i64 (1 + (IntKind.wrap .i64 a2).tmod 9) = n := by
    have e1 : IntKind.wrap .i64 a2 = a2 := wrap_id (by omega) (by omega)
    have h1 := Int.tmod_lt_of_pos a2 (show (0 : Int) < 9 by decide)
    have h2 := Int.tmod_nonneg 9 hw.1
    rw [e1]
    exact ⟨1 + a2.tmod 9, ⟨by omega, by omega⟩, wrap_id (by omega) (by omega)⟩
  obtain ⟨n, hn, en⟩ := hd
  have hc1 : (decide (0 ≤ ((a0.length - 1 : Nat) : Int)) && decide (((a0.length - 1 : Nat) : Int) ≤ (a0.length : Int))) = true := by simp
  simp only [hp, en, Int.toNat_natCast, List.drop_zero, List.nil_append, if_pos hc1]
  have ht : (a0.take (a0.length - 1)).length = a0.length - 1 := by simp
  have hlb : (a0.take (a0.length - 1) ++ a1).length = a0.length - 1 + a1.length := by rw [List.length_append, ht]
  have hll : ([((21 : Int), n, (0 : Int))] ++ a0.take (a0.length - 1) ++ [(22, 0, 0), (25, 0, 0)]).length = a0.length + 2 := by
    rw [List.length_append, List.length_append, ht]; simp only [List.length_cons, List.length_nil]; omega
  have c1 : (decide ((0 + (a0.take (a0.length - 1)).length) * 24 ≤ 140737488355328) && decide (1 ≤ 24)) = true := by rw [ht]; simp; omega
  have c2 : (decide (((a0.take (a0.length - 1)).length + a1.length) * 24 ≤ 140737488355328) && decide (1 ≤ 24)) = true := by rw [ht]; simp; omega
  have c3 : (decide ((1 + (a0.take (a0.length - 1)).length) * 24 ≤ 140737488355328) && decide (1 ≤ 24)) = true := by rw [ht]; simp; omega
  have c5 : (decide ((([((21 : Int), n, (0 : Int))] ++ a0.take (a0.length - 1)).length + 2) * 24 ≤ 140737488355328) && decide (1 ≤ 24)) = true := by rw [List.length_append, ht]; simp; omega
  rw [worst_is 300 a0 (by omega) (by decide) (by decide), Option.bind_some, worst_is 300 a1 (by omega) (by decide) (by decide), Option.bind_some, if_pos c1, if_pos c2, worst_is 300 _ (by omega) (by decide) (by decide), Option.bind_some, if_pos c3, if_pos c5, worst_is 300 _ (by omega) (by decide) (by decide), Option.bind_some]
  by_cases e0 : (allI bM 300 a0).2 = 0
  · by_cases e1 : (allI bM 300 a1).2 = 0
    · rw [if_neg (by simp [e0]), if_neg (by simp [e1])]
      obtain ⟨x1, x2, x3, x4, x5⟩ := allI_err 300 a0 e0
      obtain ⟨y1, y2, y3, y4, y5⟩ := allI_err 300 a1 e1
      have hs1 := @sums_both a0 a1 (by omega) e0 e1
      have hs2 := @sums_loop a0 n hn (by omega) e0
      generalize allI bM 300 (a0.take (a0.length - 1) ++ a1) = Z at hs1 ⊢
      generalize allI bM 300 ([((21 : Int), n, (0 : Int))] ++ a0.take (a0.length - 1) ++ [(22, 0, 0), (25, 0, 0)]) = U at hs2 ⊢
      have hbig : n * (allI bM 300 a0).1 ≤ 9 * (allI bM 300 a0).1 := Int.mul_le_mul_of_nonneg_right hn.2 (by omega)
      have hbig0 : 0 ≤ n * (allI bM 300 a0).1 := Int.mul_nonneg (by omega) (by omega)
      rw [wrap_id (e := (allI bM 300 a0).1 + (allI bM 300 a1).1) (by omega) (by omega), if_neg (fun h => by have := of_decide_eq_true h; omega), wrap_id (e := (allI bM 300 a0).1 + (allI bM 300 a1).1 - 1) (by omega) (by omega), wrap_id (e := n * (allI bM 300 a0).1) (by omega) (by omega), wrap_id (e := n * (allI bM 300 a0).1 + 2) (by omega) (by omega)]
      by_cases z0 : Z.2 = 0
      · rw [if_neg (by simp [z0]), if_pos (beq_iff_eq.2 (hs1 z0))]
        by_cases u0 : U.2 = 0
        · rw [if_neg (by simp [u0]), if_pos (beq_iff_eq.2 (hs2 u0))]
        · rw [if_pos (by simpa using u0)]
      · rw [if_pos (by simpa using z0)]
        by_cases u0 : U.2 = 0
        · rw [if_neg (by simp [u0]), if_pos (beq_iff_eq.2 (hs2 u0))]
        · rw [if_pos (by simpa using u0)]
    · rw [if_neg (by simp [e0]), if_pos (by simpa using e1)]
  · rw [if_pos (by simpa using e0)]
end Go.Proofs.Dk

/- A row that a law is given is no longer than it can be. -/
namespace Go.Proofs.Dk
open Go Go.RowKit
set_option linter.unusedVariables false
theorem opened_len {P : Program} {w : World} {H : Type} {enc : TypeId × Value → H} {t e : TypeId} {s : Sh} {a : List s.T} {v : Value} {x : DataW H} {ps : List MemPlace} {ts : List TypeId} {ds : List (DataW H)} (j : Nat) (ht : P.underlying t = some (.slice e)) (hB : decide (0 < P.bytesOf e) = true) (hsz : (DataW.weightsEach P ts ds).all (· ≤ reachBytes) = true) (h1 : ts[j]? = some t) (h2 : ds[j]? = some x) (hv : VR (I0 w) w (Sh.val (.sl s) a) v) (h : DataW.Trod enc P w 0 (fun _ => true) true t v x ps) : a.length ≤ 140737488351232 := by
  have hv' : VR (I0 w) w (.vs s a) v := hv
  obtain ⟨fuel, hf⟩ := h
  cases hv' with
  | vs _ _ _ hk =>
    obtain ⟨A, cap, hc, _, _⟩ := hk
    simp only [List.cons.injEq, and_true] at hc
    subst hc
    have hcs : (Value.slice A a.length cap).cells.toList = [.slice A a.length cap] := rfl
    rw [hcs] at hf
    rcases Go.Deep.open_slice ht hf with ⟨h0, _⟩ | ⟨b, len, cap', m, n', D, Pl, h0, _, hl, hm, hmm, hx, _⟩
    · simp only [List.cons.injEq, Value.slice.injEq, and_true] at h0
      omega
    · simp only [List.cons.injEq, Value.slice.injEq, and_true] at h0
      have hxd : x = .slice ((List.range len).map D) ((List.range (m - len)).map fun j => D (len + j)) := (Prod.mk.inj hx).1
      rw [hxd] at h2
      have z := sized_slice hsz h1 h2 ht
      have hB' : 1 ≤ P.bytesOf e := of_decide_eq_true hB
      have k1 : len * 1 ≤ len * P.bytesOf e := Nat.mul_le_mul_left _ hB'
      have k2 : len * P.bytesOf e ≤ (((List.range len).map D).length + ((List.range (m - len)).map fun j => D (len + j)).length) * P.bytesOf e := Nat.mul_le_mul_right _ (by simp)
      have k3 : reachBytes ≤ 140737488351232 := by decide
      have k4 := Nat.le_trans k2 (Nat.le_trans z k3)
      omega
end Go.Proofs.Dk

namespace Go.Proofs.Ytehmolbalfefjaa.costSums
open Go.ChangeShapes Go.WideShapes Go.ChangeAt Go.RowKit Go.Proofs.Dk
open Go.ChangeMaps (open_string shut_string)
set_option linter.unusedVariables false
theorem own : ownKnob Try.prog.godebug = none := by kernel_rfl
theorem laidOut : laidOutB Try.prog = true := by kernel_rfl
set_option maxRecDepth 100000 in
theorem lifted (os : Os) (started : os.Started) (H : Type) (enc : TypeId × Value → H) :
    ReturnsInHanded {} Try.checked os 11 .any (Rows.costSumsSpec.pre6 enc Try.prog Try.f11 Rows.costSumsRow.domain false) (Rows.costSumsSpec.post enc Try.prog Try.f11 false true false false) := by
  refine returnsInHanded_of_change_sized (C := Try.checked) own started (by kernel_rfl) Try.func11
    (ChangeSpec.witness6 (enc := enc) (C := Try.checked) false ⟨#[], #[.slice none 0 0, .slice none 0 0, .int .u8 0], []⟩ 8 (by kernel_rfl) (by kernel_rfl) (by kernel_rfl) (by kernel_rfl)) ?_
  intro W base args ds gs before hval0 hW hcnd hsz0 _
  have hval : ∀ (j : Nat) t v, Try.f11.params[j]? = some t → args[j]? = some v → Value.okWide Try.prog W .any base t v := hval0
  have hW' := hW
  obtain ⟨p, q, hA0, hV, rfl, hfz, hnd⟩ := hW
  have hA : DataW.TrodAll enc Try.prog W 0 (fun _ => true) true Try.f11.params.toList args.toList ds p := hA0
  rw [Try.params11] at hA hval
  obtain ⟨v0, vs0, d0, ds0, p0, q0, hargs, rfl, rfl, h0, r0⟩ := trodAll_cons hA
  obtain ⟨v1, vs1, d1, ds1, p1, q1, rfl, rfl, rfl, h1, r1⟩ := trodAll_cons r0
  obtain ⟨v2, vs2, d2, ds2, p2, q2, rfl, rfl, rfl, h2, r2⟩ := trodAll_cons r1
  obtain ⟨rfl, rfl, rfl⟩ := trodAll_nil r2
  obtain rfl : args = #[v0, v1, v2] := by cases args; simp_all
  obtain ⟨rfl, rfl⟩ := trodVars_none hV
  have lt0 : ∀ x ∈ p0, x.block < W.heap.size := by have k := h0; obtain ⟨m, hm⟩ := k; exact DataW.trod_lt m _ _ _ hm
  obtain ⟨a0, vr0, ok0⟩ := opened (s := (.sl (.pair (.int .i64) (.pair (.int .i64) (.int .i64))))) 9 (by kernel_rfl) (by kernel_rfl) (hval 0 41 v0 rfl rfl) h0
  have lt1 : ∀ x ∈ p1, x.block < W.heap.size := by have k := h1; obtain ⟨m, hm⟩ := k; exact DataW.trod_lt m _ _ _ hm
  obtain ⟨a1, vr1, ok1⟩ := opened (s := (.sl (.pair (.int .i64) (.pair (.int .i64) (.int .i64))))) 9 (by kernel_rfl) (by kernel_rfl) (hval 1 41 v1 rfl rfl) h1
  have lt2 : ∀ x ∈ p2, x.block < W.heap.size := by have k := h2; obtain ⟨m, hm⟩ := k; exact DataW.trod_lt m _ _ _ hm
  obtain ⟨a2, vr2, ok2⟩ := opened (s := (.int .u8)) 9 (by kernel_rfl) (by kernel_rfl) (hval 2 5 v2 rfl rfl) h2
  have le0 := opened_len (s := (.pair (.int .i64) (.pair (.int .i64) (.int .i64)))) 0 (t := 41) rfl (by kernel_rfl) hsz0 rfl rfl vr0 h0
  have le1 := opened_len (s := (.pair (.int .i64) (.pair (.int .i64) (.int .i64)))) 1 (t := 41) rfl (by kernel_rfl) hsz0 rfl rfl vr1 h1
  obtain ⟨N, hN⟩ := camshaftlaw09_CostSums_true a0 a1 a2 ok0 ok1 ok2 le0 le1
  refine (law_calls (S := camshaftlaw09_CostSums.fs N) (x := ((a0, a1, a2, ()), ())) (y := true) (fun hH hA hx hk => (camshaftlaw09_CostSums.ok N).ok hH hA hx hk) (A := [Sh.val (.sl (.pair (.int .i64) (.pair (.int .i64) (.int .i64)))) a0, Sh.val (.sl (.pair (.int .i64) (.pair (.int .i64) (.int .i64)))) a1, Sh.val (.int .u8) a2]) (args := [v0, v1, v2]) (.cons _ _ _ _ vr0 (.cons _ _ _ _ vr1 (.cons _ _ _ _ vr2 .nil))) (by kernel_rfl) hN (fun _ _ => rfl) (fun _ => rfl)).mono fun e W' hE => ?_
  obtain ⟨he, bel⟩ := hE
  subst he
  exact ⟨_, rfl, _, _, _, [], _, [], hW', trodAll_mk1 (shut_bool Try.underlying4 _), ⟨_, _, (Below.trod laidOut (by kernel_rfl) (of_decide_eq_true (by kernel_rfl)) h0 bel lt0), ⟨_, _, (Below.trod laidOut (by kernel_rfl) (of_decide_eq_true (by kernel_rfl)) h1 bel lt1), ⟨_, _, (Below.trod laidOut (by kernel_rfl) (of_decide_eq_true (by kernel_rfl)) h2 bel lt2), rfl, rfl⟩, rfl⟩, rfl⟩, rfl, bel.frame _, fun h => by cases h⟩
theorem over : Rows.costSumsRow.holds Try.pinned (OpenSpec.ofChange Rows.costSumsSpec) :=
  OpenClaim.holds_of_wide 11 Try.f11 rfl rfl rfl rfl rfl rfl rfl ⟨rfl, rfl, rfl, rfl, rfl⟩ rfl rfl rfl rfl rfl (by kernel_rfl) Try.func11 (by kernel_rfl)
    (of_decide_eq_true (by kernel_rfl)) (by unfold Func.isWrapper; first | (rw [if_pos (by decide +kernel)]; kernel_rfl) | (rw [if_neg (by decide +kernel)]; exact ⟨rfl, rfl⟩))
    (fun os started H enc _ => lifted os started H enc)
theorem proved : Rows.CostSumsSaid := over
#print axioms proved
end Go.Proofs.Ytehmolbalfefjaa.costSums
namespace Go.Proofs.Ytehmolbalfefjaa
/-- The row, under a short name, for the claim. -/
theorem costSums_holds : Rows.CostSumsSaid := costSums.proved
end Go.Proofs.Ytehmolbalfefjaa
