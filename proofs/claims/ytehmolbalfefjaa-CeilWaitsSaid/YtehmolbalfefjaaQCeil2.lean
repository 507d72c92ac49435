/- Layer 13, plainly, on: Active, and what ceilings bound. -/
import Derived.Test.YtehmolbalfefjaaQCeil
namespace Go.Proofs.Ytehmolbalfefjaa.Q
open Go.RowKit Go.Proofs.YtehmolbalfefjaaW.PrintWords Go.Proofs.YtehmolbalfefjaaW.PrintLast Go.Proofs.YtehmolbalfefjaaW.PrintMore Go.Proofs.YtehmolbalfefjaaH
theorem le_mx_l (a b : Int) : a ≤ mx a b := by unfold mx; split <;> omega
theorem le_mx_r (a b : Int) : b ≤ mx a b := by unfold mx; split <;> omega
theorem mx_le {a b c : Int} (h1 : a ≤ c) (h2 : b ≤ c) : mx a b ≤ c := by unfold mx; split <;> omega

/-- Has a held number the bit of a block, as the program asks it? -/
def bitOn (held i : Int) : Prop := Go.bits .and .u64 (shr .u64 (IntKind.u64.wrap (held)) i) 1 = 1
instance (held i : Int) : Decidable (bitOn held i) := by unfold bitOn; infer_instance
def actFrom (held : Int) : Int → List Int → Int → Int
  | _, [], n => n
  | i, x :: xs, n => actFrom held (i + 1) xs (if bitOn held i then mx n x else n)
theorem active_l0 (held : Int) (c : List Int) (hm : c.length ≤ 1000) (d : Nat) : ∀ (i n : Int), 0 ≤ i → i + d = c.length → Ev (fun k => ceil_Active.l0 k held n c (c.length : Int) i) (actFrom held i (c.drop i.toNat) n) := by
  induction d with
  | zero =>
    intro i n h0 h1
    refine Ev.step (f := fun _ => some n) (fun k => by simp only [ceil_Active.l0]; rw [if_neg (by omega)]) ?_
    rw [drop_end c i (by omega)]
    exact Ev.now _
  | succ d ih =>
    intro i n h0 h1
    rw [drop_rd c i h0 (by omega)]
    simp only [actFrom]
    by_cases b : bitOn held i
    · rw [if_pos b]
      refine Ev.step (f := fun k => ceil_Active.l0 k held (mx n (rd c i)) c (c.length : Int) (i + 1)) (fun k => by
        simp only [ceil_Active.l0]
        rw [if_pos (by omega), if_pos h0, if_pos (by omega), if_pos (show Go.bits .and .u64 (shr .u64 (IntKind.u64.wrap (held)) i) 1 = 1 from b), wrap_succ h0 (by omega)]) ?_
      exact ih (i + 1) _ (by omega) (by omega)
    · rw [if_neg b]
      refine Ev.step (f := fun k => ceil_Active.l0 k held n c (c.length : Int) (i + 1)) (fun k => by
        simp only [ceil_Active.l0]
        rw [if_pos (by omega), if_pos h0, if_pos (by omega), if_neg (show ¬ Go.bits .and .u64 (shr .u64 (IntKind.u64.wrap (held)) i) 1 = 1 from b), wrap_succ h0 (by omega)]) ?_
      exact ih (i + 1) _ (by omega) (by omega)
theorem active_ev (prio held : Int) (c : List Int) (hm : c.length ≤ 1000) : Ev (fun k => ceil_Active.f k prio held c) (actFrom held 0 c prio) := by
  unfold ceil_Active.f
  exact active_l0 held c hm c.length 0 prio (by omega) (by omega)
theorem actFrom_ge (held : Int) : ∀ (c : List Int) (i n : Int), n ≤ actFrom held i c n
  | [], _, _ => Int.le_refl _
  | x :: c, i, n => by
    simp only [actFrom]
    refine Int.le_trans ?_ (actFrom_ge held c (i + 1) _)
    split
    · exact le_mx_l n x
    · exact Int.le_refl _
theorem actFrom_mem (held : Int) : ∀ (c : List Int) (i n j : Int), 0 ≤ j → j < c.length → bitOn held (i + j) → rd c j ≤ actFrom held i c n
  | [], _, _, j, h0, h1, _ => by simp at h1; omega
  | x :: c, i, n, j, h0, h1, hb => by
    simp only [actFrom]
    by_cases e : j = 0
    · subst e
      rw [if_pos (by simpa using hb)]
      exact Int.le_trans (le_mx_r n x) (actFrom_ge held c (i + 1) _)
    · have : rd (x :: c) j = rd c (j - 1) := by
        unfold rd
        rw [show j.toNat = (j - 1).toNat + 1 by omega]
        rfl
      rw [this]
      exact actFrom_mem held c (i + 1) _ (j - 1) (by omega) (by simp at h1; omega) (by rw [show i + 1 + (j - 1) = i + j by omega]; exact hb)
theorem bit_own (b : Int) (h0 : 0 ≤ b) (h8 : b < 8) : bitOn (shl .i64 1 b) b := by
  have : b = 0 ∨ b = 1 ∨ b = 2 ∨ b = 3 ∨ b = 4 ∨ b = 5 ∨ b = 6 ∨ b = 7 := by omega
  rcases this with rfl | rfl | rfl | rfl | rfl | rfl | rfl | rfl <;> decide
theorem fold1_ge (b p : Int) : ∀ (f1 : List Int) (n : Int), n ≤ f1.foldl (fun n x => if x = b then mx n p else n) n
  | [], _ => Int.le_refl _
  | x :: f1, n => by
    simp only [List.foldl_cons]
    refine Int.le_trans ?_ (fold1_ge b p f1 _)
    split
    · exact le_mx_l n p
    · exact Int.le_refl _
theorem fold1_mem (b p : Int) : ∀ (f1 : List Int) (n : Int), b ∈ f1 → p ≤ f1.foldl (fun n x => if x = b then mx n p else n) n
  | [], _, h => by cases h
  | x :: f1, n, h => by
    simp only [List.foldl_cons]
    by_cases e : x = b
    · rw [if_pos e]
      exact Int.le_trans (le_mx_r n p) (fold1_ge b p f1 _)
    · rw [if_neg e]
      exact fold1_mem b p f1 n ((List.mem_cons.1 h).resolve_left (fun h => e h.symm))
theorem fold2_ge (b : Int) : ∀ (l : List Use) (n : Int), n ≤ l.foldl (fun n u => u.f1.foldl (fun n x => if x = b then mx n u.f0 else n) n) n
  | [], _ => Int.le_refl _
  | u :: l, n => by
    simp only [List.foldl_cons]
    exact Int.le_trans (fold1_ge b u.f0 u.f1 n) (fold2_ge b l _)
theorem fold2_mem (b : Int) (u : Use) : ∀ (l : List Use) (n : Int), u ∈ l → b ∈ u.f1 → u.f0 ≤ l.foldl (fun n u => u.f1.foldl (fun n x => if x = b then mx n u.f0 else n) n) n
  | [], _, h, _ => by cases h
  | v :: l, n, h, hb => by
    simp only [List.foldl_cons]
    rcases List.mem_cons.1 h with rfl | h
    · exact Int.le_trans (fold1_mem b u.f0 u.f1 n hb) (fold2_ge b l _)
    · exact fold2_mem b u l _ h hb
theorem ceilVal_ge (b : Int) (l : List Use) (u : Use) (hu : u ∈ l) (hb : b ∈ u.f1) : u.f0 ≤ ceilVal b l := fold2_mem b u l 0 hu hb
/-- Who holds block b is lifted to each that has it. -/
theorem lifted_to (blocks : Int) (l : List Use) (hk : ceilOk blocks l = true) (u v : Use) (hu : u ∈ l) (hv : v ∈ l) (b : Int) (hb : b ∈ u.f1) (hb2 : b ∈ v.f1) : v.f0 ≤ actFrom (shl .i64 1 b) 0 (ceilingsP blocks l) u.f0 := by
  obtain ⟨hu', h0, h8, _⟩ := ceilOk_parts hk
  have hx := useOk_rd (hu' u hu) b hb
  have h1 := ceilVal_ge b l v hv hb2
  rw [← ceilingsP_rd blocks l hk b hx.1 hx.2] at h1
  refine Int.le_trans h1 (actFrom_mem _ _ 0 _ b hx.1 (by rw [ceilingsP_length]; omega) ?_)
  rw [Int.zero_add]
  exact bit_own b hx.1 (by omega)
theorem mem_of_rd (xs : List Int) (i : Int) (h0 : 0 ≤ i) (h1 : i < xs.length) : rd xs i ∈ xs := rd_mem xs i h0 h1
end Go.Proofs.Ytehmolbalfefjaa.Q
