/- Layer 13, plainly, on: locks that are twice as long; a use beside others; a use alone. -/
import Derived.Test.YtehmolbalfefjaaQCeil4
namespace Go.Proofs.Ytehmolbalfefjaa.Q
open Go.RowKit Go.Proofs.YtehmolbalfefjaaW.PrintWords Go.Proofs.YtehmolbalfefjaaW.PrintLast Go.Proofs.YtehmolbalfefjaaW.PrintMore Go.Proofs.YtehmolbalfefjaaH
set_option linter.unusedVariables false
theorem take_use (xs : List Use) (i : Int) (h0 : 0 ≤ i) (h1 : i < xs.length) : xs.take (i + 1).toNat = xs.take i.toNat ++ [rd_T37 xs i] := take_T37 xs i h0 h1
/-! ### twice as long -/
def dbl (n : Int) : Int := 2 * n
def tw (u : Use) : Use := ⟨u.f0, u.f1, u.f2.map dbl⟩
theorem pairs_tw (u : Use) : pairs (tw u) = (pairs u).map fun p => (p.1, dbl p.2) := by
  unfold pairs tw
  simp only [List.zip_map_right]
  rfl
theorem ceilVal_tw (b : Int) (l : List Use) : ceilVal b (l.map tw) = ceilVal b l := eq_of_le_iff fun m => by
  rw [ceilVal_le, ceilVal_le]
  simp [tw]
theorem waitVal_tw (l : List Use) (own : Int) : waitVal (l.map tw) own = 2 * waitVal l own := by
  apply Int.le_antisymm
  · rw [waitVal_le]
    refine ⟨by have := waitVal_nn l own; omega, fun u hu h1 p hp h2 => ?_⟩
    obtain ⟨v, hv, rfl⟩ := List.mem_map.1 hu
    rw [pairs_tw] at hp
    obtain ⟨q, hq, rfl⟩ := List.mem_map.1 hp
    rw [ceilVal_tw] at h2
    have := waitVal_ge (own := own) hv h1 hq h2
    show dbl q.2 ≤ _
    unfold dbl
    omega
  · have h := (waitVal_le l own (waitVal (l.map tw) own / 2)).2 ⟨by have := waitVal_nn (l.map tw) own; omega, fun u hu h1 p hp h2 => by
      have h3 : (p.1, dbl p.2) ∈ pairs (tw u) := by rw [pairs_tw]; exact List.mem_map.2 ⟨p, hp, rfl⟩
      have := waitVal_ge (l := l.map tw) (own := own) (List.mem_map.2 ⟨u, hu, rfl⟩) h1 h3 (by rw [ceilVal_tw]; exact h2)
      have e : ((p.1, dbl p.2) : Int × Int).2 = 2 * p.2 := rfl
      rw [e] at this
      omega⟩
    omega
theorem small_tw {l : List Use} (h : Small l) : Small (l.map tw) := ⟨by simpa using h.1, fun u hu => by
  obtain ⟨v, hv, rfl⟩ := List.mem_map.1 hu
  have := h.2 v hv
  simpa [tw] using this⟩
theorem waitsP_rd (blocks : Int) (l : List Use) (hk : ceilOk blocks l = true) (i : Int) (h0 : 0 ≤ i) (h1 : i < l.length) : rd (waitsP blocks l) i = waitVal l (rd_T37 l i).f0 := by
  have hlt : i.toNat < l.length := by omega
  rw [waitsP_eq blocks l hk]
  simp [rd, rd_T37, List.getD_eq_getElem?_getD, List.getElem?_eq_getElem hlt]
theorem waitsP_length (blocks : Int) (l : List Use) : (waitsP blocks l).length = l.length := by simp [waitsP]
theorem rd_map_tw (l : List Use) (i : Int) (h0 : 0 ≤ i) (h1 : i < l.length) : rd_T37 (l.map tw) i = tw (rd_T37 l i) := by
  have hlt : i.toNat < l.length := by omega
  simp [rd_T37, List.getD_eq_getElem?_getD, List.getElem?_eq_getElem hlt]
theorem waits_tw (blocks : Int) (l : List Use) (hk : ceilOk blocks l = true) (hk2 : ceilOk blocks (l.map tw) = true) (i : Int) (h0 : 0 ≤ i) (h1 : i < l.length) : rd (waitsP blocks (l.map tw)) i = 2 * rd (waitsP blocks l) i := by
  rw [waitsP_rd blocks l hk i h0 h1, waitsP_rd blocks _ hk2 i h0 (by simpa using h1), rd_map_tw l i h0 h1]
  exact waitVal_tw l _
theorem waits_most (blocks : Int) (l : List Use) (hk : ceilOk blocks l = true) (m : Int) (hm0 : 0 ≤ m) (hm : ∀ u ∈ l, ∀ n ∈ u.f2, n ≤ m) (i : Int) (h0 : 0 ≤ i) (h1 : i < l.length) : rd (waitsP blocks l) i ≤ m := by
  rw [waitsP_rd blocks l hk i h0 h1, waitVal_le]
  exact ⟨hm0, fun u hu _ p hp _ => hm u hu _ (mem_pairs hp).2⟩
theorem waits_nn (blocks : Int) (l : List Use) (hk : ceilOk blocks l = true) (i : Int) (h0 : 0 ≤ i) (h1 : i < l.length) : 0 ≤ rd (waitsP blocks l) i := by
  rw [waitsP_rd blocks l hk i h0 h1]
  exact waitVal_nn _ _
theorem chk_lens {blocks : Int} : ∀ {last : Int} {f1 f2 : List Int}, chkB blocks last f1 f2 = true → f1.length = f2.length → ∀ n ∈ f2, 0 ≤ n ∧ n ≤ 1099511627776
  | _, [], [], _, _, n, hn => by cases hn
  | last, b :: bs, n :: ns, h, hl, x, hx => by
    simp only [chkB, ite_ft] at h
    obtain ⟨h1, h2, h3, h4, h⟩ := h
    rcases List.mem_cons.1 hx with rfl | hx
    · omega
    · exact chk_lens h (by simpa using hl) x hx
theorem useOk_lens {blocks : Int} {u : Use} (h : useOk blocks u = true) : ∀ n ∈ u.f2, 0 ≤ n ∧ n ≤ 1099511627776 := by
  simp only [useOk, ite_ft] at h
  obtain ⟨h1, h2, h3, h⟩ := h
  exact chk_lens h (by simpa using h3)
theorem useOk_prio {blocks : Int} {u : Use} (h : useOk blocks u = true) : 1 ≤ u.f0 ∧ u.f0 ≤ 100 := by
  simp only [useOk, ite_ft] at h
  omega

/-! ### bare uses; one more -/
def bare (u : Use) : Use := ⟨u.f0, [], []⟩
theorem bare_ok (blocks : Int) (l : List Use) (hk : ceilOk blocks l = true) : ceilOk blocks (l.map bare) = true := by
  rw [ceilOk_iff] at hk ⊢
  obtain ⟨h1, h2, h3, h4⟩ := hk
  refine ⟨fun u hu => ?_, h2, h3, by simpa using h4⟩
  obtain ⟨v, hv, rfl⟩ := List.mem_map.1 hu
  have := useOk_prio (h1 v hv)
  simp only [useOk, bare, ite_ft, chkB]
  simp
  omega
theorem bare_waits (l : List Use) (own : Int) : waitVal (l.map bare) own = 0 := Int.le_antisymm ((waitVal_le _ _ 0).2 ⟨Int.le_refl _, fun u hu _ p hp _ => by
  obtain ⟨v, hv, rfl⟩ := List.mem_map.1 hu
  simp [pairs, bare] at hp⟩) (waitVal_nn _ _)
theorem bare_waits_rd (blocks : Int) (l : List Use) (hk : ceilOk blocks l = true) (i : Int) (h0 : 0 ≤ i) (h1 : i < l.length) : rd (waitsP blocks (l.map bare)) i = 0 := by
  rw [waitsP_rd blocks _ (bare_ok blocks l hk) i h0 (by simpa using h1)]
  exact bare_waits _ _
theorem small_bare {l : List Use} (h : Small l) : Small (l.map bare) := ⟨by simpa using h.1, fun u hu => by
  obtain ⟨v, hv, rfl⟩ := List.mem_map.1 hu
  simp [bare]⟩
theorem rd_append_left (l : List Use) (u : Use) (i : Int) (h0 : 0 ≤ i) (h1 : i < l.length) : rd_T37 (l ++ [u]) i = rd_T37 l i := by
  have hlt : i.toNat < l.length := by omega
  simp [rd_T37, List.getD_eq_getElem?_getD, List.getElem?_append_left hlt]
theorem more_waits (blocks : Int) (l : List Use) (u : Use) (hk : ceilOk blocks l = true) (hk2 : ceilOk blocks (l ++ [u]) = true) (i : Int) (h0 : 0 ≤ i) (h1 : i < l.length) : rd (waitsP blocks l) i ≤ rd (waitsP blocks (l ++ [u])) i := by
  rw [waitsP_rd blocks l hk i h0 h1, waitsP_rd blocks _ hk2 i h0 (by simp; omega), rd_append_left l u i h0 h1]
  exact waitVal_sub _ (fun v hv => List.mem_append_left _ hv)
theorem low_waits (blocks : Int) (l : List Use) (hk : ceilOk blocks l = true) (low : Int) (hlow : ∀ u ∈ l, low ≤ u.f0) (i : Int) (h0 : 0 ≤ i) (h1 : i < l.length) (he : (rd_T37 l i).f0 = low) : rd (waitsP blocks l) i = 0 := by
  rw [waitsP_rd blocks l hk i h0 h1]
  exact waitVal_low l _ (fun u hu => by rw [he]; exact hlow u hu)
theorem mn_le_iff {a b c : Int} : c ≤ mn a b ↔ c ≤ a ∧ c ≤ b := by unfold mn; split <;> omega

/-! ### a use alone -/
theorem alone_ceil (b : Int) (u : Use) (hu : 1 ≤ u.f0) (l : List Use) (hl : ∀ v ∈ l, v.f1 = [] ∧ v.f2 = []) : ceilVal b (u :: l) ≤ u.f0 := (ceilVal_le b _ _).2 ⟨by omega, fun v hv hb => by
  rcases List.mem_cons.1 hv with rfl | hv
  · exact Int.le_refl _
  · rw [(hl v hv).1] at hb
    cases hb⟩
theorem alone_waits (u : Use) (hu : 1 ≤ u.f0) (l : List Use) (hl : ∀ v ∈ l, v.f1 = [] ∧ v.f2 = []) (own : Int) : waitVal (u :: l) own = 0 := Int.le_antisymm ((waitVal_le _ _ 0).2 ⟨Int.le_refl _, fun v hv h1 p hp h2 => by
  rcases List.mem_cons.1 hv with rfl | hv
  · have := alone_ceil p.1 v hu l hl
    omega
  · simp [pairs, (hl v hv).1] at hp⟩) (waitVal_nn _ _)
theorem actFrom_le (held m : Int) : ∀ (c : List Int) (i n : Int), n ≤ m → (∀ x ∈ c, x ≤ m) → actFrom held i c n ≤ m
  | [], _, _, h, _ => h
  | x :: c, i, n, h, hx => by
    simp only [actFrom]
    refine actFrom_le held m c (i + 1) _ ?_ (fun y hy => hx y (List.mem_cons_of_mem _ hy))
    split
    · exact mx_le h (hx x List.mem_cons_self)
    · exact h
theorem alone_active (u : Use) (l : List Use) (hl : ∀ v ∈ l, v.f1 = [] ∧ v.f2 = []) (hk : ceilOk 8 (u :: l) = true) : actFrom 255 0 (ceilingsP 8 (u :: l)) u.f0 = u.f0 := by
  have hu := useOk_prio ((ceilOk_iff.1 hk).1 u List.mem_cons_self)
  refine Int.le_antisymm (actFrom_le _ _ _ _ _ (Int.le_refl _) ?_) (actFrom_ge _ _ _ _)
  rw [ceilingsP_eq _ _ hk]
  intro x hx
  obtain ⟨b, _, rfl⟩ := List.mem_map.1 hx
  exact alone_ceil _ u hu.1 l hl
end Go.Proofs.Ytehmolbalfefjaa.Q
