/- Layer 13, plainly, on: ceilings and waits by what bounds them. -/
import Derived.Test.YtehmolbalfefjaaQCeilCalls
namespace Go.Proofs.Ytehmolbalfefjaa.Q
open Go.RowKit Go.Proofs.YtehmolbalfefjaaW.PrintWords Go.Proofs.YtehmolbalfefjaaW.PrintLast Go.Proofs.YtehmolbalfefjaaW.PrintMore Go.Proofs.YtehmolbalfefjaaH
set_option linter.unusedVariables false
theorem mx_le_iff {a b c : Int} : mx a b ≤ c ↔ a ≤ c ∧ b ≤ c := by unfold mx; split <;> omega
theorem fold1_le (b p m : Int) : ∀ (f1 : List Int) (n : Int), f1.foldl (fun n x => if x = b then mx n p else n) n ≤ m ↔ n ≤ m ∧ (b ∈ f1 → p ≤ m)
  | [], n => by simp
  | x :: f1, n => by
    simp only [List.foldl_cons, fold1_le b p m f1, List.mem_cons]
    by_cases e : x = b
    · subst e
      rw [if_pos rfl, mx_le_iff]
      simp
      intro _ _ _
      assumption
    · rw [if_neg e]
      simp [show ¬ b = x from fun h => e h.symm]
theorem fold2_le (b m : Int) : ∀ (l : List Use) (n : Int), l.foldl (fun n u => u.f1.foldl (fun n x => if x = b then mx n u.f0 else n) n) n ≤ m ↔ n ≤ m ∧ ∀ u ∈ l, b ∈ u.f1 → u.f0 ≤ m
  | [], n => by simp
  | u :: l, n => by
    simp only [List.foldl_cons, fold2_le b m l, fold1_le, List.mem_cons, forall_eq_or_imp]
    exact and_assoc
theorem ceilVal_le (b m : Int) (l : List Use) : ceilVal b l ≤ m ↔ 0 ≤ m ∧ ∀ u ∈ l, b ∈ u.f1 → u.f0 ≤ m := fold2_le b m l 0
theorem ceilVal_nn (b : Int) (l : List Use) : 0 ≤ ceilVal b l := ((ceilVal_le b _ l).1 (Int.le_refl _)).1
theorem eq_of_le_iff {a b : Int} (h : ∀ m, a ≤ m ↔ b ≤ m) : a = b := Int.le_antisymm ((h b).2 (Int.le_refl _)) ((h a).1 (Int.le_refl _))
theorem ceilVal_congr (b : Int) {l l' : List Use} (h : ∀ u, u ∈ l ↔ u ∈ l') : ceilVal b l = ceilVal b l' := eq_of_le_iff fun m => by simp [ceilVal_le, h]
theorem ceilVal_sub (b : Int) {l l' : List Use} (h : ∀ u, u ∈ l → u ∈ l') : ceilVal b l ≤ ceilVal b l' := (ceilVal_le b _ l).2 ⟨ceilVal_nn b l', fun u hu hb => ceilVal_ge b l' u (h u hu) hb⟩
theorem waitG_le (C : Int → Int) (own u0 m : Int) : ∀ (ps : List (Int × Int)) (n : Int), ps.foldl (fun n p => if u0 < own then (if C p.1 ≥ own then mx n p.2 else n) else n) n ≤ m ↔ n ≤ m ∧ (u0 < own → ∀ p ∈ ps, C p.1 ≥ own → p.2 ≤ m)
  | [], n => by simp
  | p :: ps, n => by
    simp only [List.foldl_cons, waitG_le C own u0 m ps, List.mem_cons, forall_eq_or_imp]
    by_cases e : u0 < own
    · rw [if_pos e]
      by_cases g : C p.1 ≥ own
      · rw [if_pos g, mx_le_iff]
        constructor
        · rintro ⟨⟨h1, h2⟩, h3⟩
          exact ⟨h1, fun _ => ⟨fun _ => h2, h3 e⟩⟩
        · rintro ⟨h1, h3⟩
          exact ⟨⟨h1, (h3 e).1 g⟩, fun _ => (h3 e).2⟩
      · rw [if_neg g]
        constructor
        · rintro ⟨h1, h3⟩
          exact ⟨h1, fun _ => ⟨fun h => absurd h g, h3 e⟩⟩
        · rintro ⟨h1, h3⟩
          exact ⟨h1, fun _ => (h3 e).2⟩
    · rw [if_neg e]
      constructor
      · rintro ⟨h1, _⟩
        exact ⟨h1, fun h => absurd h e⟩
      · rintro ⟨h1, _⟩
        exact ⟨h1, fun h => absurd h e⟩
theorem waitV_le (C : Int → Int) (own m : Int) : ∀ (l : List Use) (n : Int), l.foldl (fun n u => (pairs u).foldl (fun n p => if u.f0 < own then (if C p.1 ≥ own then mx n p.2 else n) else n) n) n ≤ m ↔ n ≤ m ∧ ∀ u ∈ l, u.f0 < own → ∀ p ∈ pairs u, C p.1 ≥ own → p.2 ≤ m
  | [], n => by simp
  | u :: l, n => by
    simp only [List.foldl_cons, waitV_le C own m l, waitG_le, List.mem_cons, forall_eq_or_imp]
    exact and_assoc
theorem waitVal_le (l : List Use) (own m : Int) : waitVal l own ≤ m ↔ 0 ≤ m ∧ ∀ u ∈ l, u.f0 < own → ∀ p ∈ pairs u, ceilVal p.1 l ≥ own → p.2 ≤ m := waitV_le (fun b => ceilVal b l) own m l 0
theorem waitVal_nn (l : List Use) (own : Int) : 0 ≤ waitVal l own := ((waitVal_le l own _).1 (Int.le_refl _)).1
theorem waitVal_ge {l : List Use} {own : Int} {u : Use} (hu : u ∈ l) (h1 : u.f0 < own) {p : Int × Int} (hp : p ∈ pairs u) (h2 : ceilVal p.1 l ≥ own) : p.2 ≤ waitVal l own := ((waitVal_le l own _).1 (Int.le_refl _)).2 u hu h1 p hp h2
theorem waitVal_congr (own : Int) {l l' : List Use} (h : ∀ u, u ∈ l ↔ u ∈ l') : waitVal l own = waitVal l' own := eq_of_le_iff fun m => by simp [waitVal_le, h, fun b => ceilVal_congr b h]
theorem waitVal_sub (own : Int) {l l' : List Use} (h : ∀ u, u ∈ l → u ∈ l') : waitVal l own ≤ waitVal l' own := (waitVal_le l own _).2 ⟨waitVal_nn l' own, fun u hu h1 p hp h2 => waitVal_ge (h u hu) h1 hp (Int.le_trans h2 (ceilVal_sub p.1 h))⟩
theorem waitVal_low (l : List Use) (own : Int) (h : ∀ u ∈ l, own ≤ u.f0) : waitVal l own = 0 := Int.le_antisymm ((waitVal_le l own 0).2 ⟨Int.le_refl _, fun u hu h1 => absurd h1 (by have := h u hu; omega)⟩) (waitVal_nn l own)
theorem ceilOk_iff {blocks : Int} {l : List Use} : ceilOk blocks l = true ↔ (∀ u ∈ l, useOk blocks u = true) ∧ 0 ≤ blocks ∧ blocks ≤ 8 ∧ l.length ≤ 8 := by
  constructor
  · exact ceilOk_parts
  · rintro ⟨h1, h2, h3, h4⟩
    simp only [ceilOk, Bool.and_eq_true, decide_eq_true_eq, List.all_eq_true]
    exact ⟨⟨⟨h1, h2⟩, h3⟩, h4⟩
theorem ceilOk_reverse (blocks : Int) (l : List Use) : ceilOk blocks l.reverse = ceilOk blocks l := by
  rw [Bool.eq_iff_iff, ceilOk_iff, ceilOk_iff]
  simp
theorem ceilings_reverse (blocks : Int) (l : List Use) (hk : ceilOk blocks l = true) : ceilingsP blocks l.reverse = ceilingsP blocks l := by
  rw [ceilingsP_eq blocks l hk, ceilingsP_eq blocks l.reverse (by rw [ceilOk_reverse]; exact hk)]
  exact List.map_congr_left fun b _ => ceilVal_congr _ (by simp)
theorem waits_reverse (blocks : Int) (l : List Use) (hk : ceilOk blocks l = true) : waitsP blocks l.reverse = (waitsP blocks l).reverse := by
  rw [waitsP_eq blocks l hk, waitsP_eq blocks l.reverse (by rw [ceilOk_reverse]; exact hk), List.map_reverse]
  congr 1
  exact List.map_congr_left fun u _ => waitVal_congr _ (by simp)

/-! ### contracts out of what comes in the end -/
def ceilingsR (blocks : Int) (l : List Use) : List Int := if ceilOk blocks l = true then ceilingsP blocks l else []
def waitsR (blocks : Int) (l : List Use) : List Int := if ceilOk blocks l = true then waitsP blocks l else []
def Small (l : List Use) : Prop := l.length ≤ 20 ∧ ∀ u ∈ l, u.f1.length ≤ 50 ∧ u.f2.length ≤ 50
theorem light_calls (A : Option Addr) (cap : Nat) (l : List Use) (w : World) (hr : Kd.C k37 w A l.length l) (hc : l.length ≤ cap) : Calls Try.prog 15 #[.slice A l.length cap] w fun e w' => e = .returned (.bool (lightB l)) ∧ Below w.heap.size w w' := by
  obtain ⟨K, h⟩ := light_ev l
  refine (camshaftlaw13_light.calls K A cap l _ w hr hc (h K (Nat.le_refl _))).mono ?_
  rintro e w' ⟨rfl, hd⟩
  exact ⟨rfl, hd.below⟩
theorem right_calls (blocks : Int) (A : Option Addr) (cap : Nat) (l : List Use) (w : World) (hr : Kd.C k37 w A l.length l) (hc : l.length ≤ cap) (hs : Small l) : Calls Try.prog 17 #[.int .i64 blocks, .slice A l.length cap] w fun e w' => e = .returned (.bool (ceilOk blocks l)) ∧ Below w.heap.size w w' := by
  obtain ⟨K, h⟩ := right_ev blocks hs.1 hs.2
  exact ceil_Right.calls K blocks A cap l _ w hr hc (h K (Nat.le_refl _))
theorem waits_calls (blocks : Int) (A : Option Addr) (cap : Nat) (l : List Use) (w : World) (hr : Kd.C k37 w A l.length l) (hc : l.length ≤ cap) (hs : Small l) : Calls Try.prog 23 #[.int .i64 blocks, .slice A l.length cap] w fun e w' => ∃ v : Value, e = .returned v ∧ Kd.R (Kd.int .i64) 3 w' w.heap.size (fun _ => True) v (waitsR blocks l) ∧ Below w.heap.size w w' := by
  obtain ⟨K, h⟩ := waits_ev blocks hs.1 hs.2
  exact ceil_Waits.calls K blocks A cap l _ w hr hc (h K (Nat.le_refl _))
theorem ceilings_calls (blocks : Int) (A : Option Addr) (cap : Nat) (l : List Use) (w : World) (hr : Kd.C k37 w A l.length l) (hc : l.length ≤ cap) (hs : Small l) : Calls Try.prog 21 #[.int .i64 blocks, .slice A l.length cap] w fun e w' => ∃ v : Value, e = .returned v ∧ Kd.R (Kd.int .i64) 3 w' w.heap.size (fun _ => True) v (ceilingsR blocks l) ∧ Below w.heap.size w w' := by
  obtain ⟨K, h⟩ := ceilings_ev blocks hs.1 hs.2
  exact ceil_Ceilings.calls K blocks A cap l _ w hr hc (h K (Nat.le_refl _))
theorem same_calls (A B : Option Addr) (ca cb : Nat) (a b : List Int) (w : World) (hr : Kd.C (Kd.int .i64) w A a.length a) (hc : a.length ≤ ca) (hr2 : Kd.C (Kd.int .i64) w B b.length b) (hc2 : b.length ≤ cb) (hm : a.length ≤ 1000) : Calls Try.prog 20 #[.slice A a.length ca, .slice B b.length cb] w fun e w' => e = .returned (.bool (decide (a = b))) ∧ Below w.heap.size w w' := by
  obtain ⟨K, h⟩ := same_ev a b hm
  refine (camshaftref02_Same.calls K A ca a B cb b _ w hr hc hr2 hc2 (h K (Nat.le_refl _))).mono ?_
  rintro e w' ⟨rfl, hd⟩
  exact ⟨rfl, hd.below⟩
end Go.Proofs.Ytehmolbalfefjaa.Q
