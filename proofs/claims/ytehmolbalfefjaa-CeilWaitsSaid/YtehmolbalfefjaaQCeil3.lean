/- Layer 13, plainly, on: the bits of what is held; the reference's Active. -/
import Derived.Test.YtehmolbalfefjaaQCeil2
import Derived.Laws.BitsAllLaws
namespace Go.Proofs.Ytehmolbalfefjaa.Q
set_option linter.unusedVariables false
open Go.RowKit Go.Proofs.YtehmolbalfefjaaW.PrintWords Go.Proofs.YtehmolbalfefjaaW.PrintLast Go.Proofs.YtehmolbalfefjaaW.PrintMore Go.Proofs.YtehmolbalfefjaaH
theorem wrap_u64_toNat (x : Int) : (IntKind.u64.wrap x).toNat = (BitVec.ofInt 64 x).toNat := by
  rw [IntKind.wrap_u64, BitVec.toNat_ofInt]
  rfl
theorem bitOn_iff (held i : Int) (h0 : 0 ≤ i) : bitOn held i ↔ (BitVec.ofInt 64 held).getLsbD i.toNat = true := by
  unfold bitOn
  have hw0 : 0 ≤ IntKind.u64.wrap held := by rw [IntKind.wrap_u64]; omega
  have hw1 : IntKind.u64.wrap held < 18446744073709551616 := by rw [IntKind.wrap_u64]; omega
  have hn := wrap_u64_toNat held
  generalize IntKind.u64.wrap held = x at *
  have hx : x = (x.toNat : Int) := (Int.toNat_of_nonneg hw0).symm
  generalize x.toNat = n at *
  subst hx
  have hs : shr .u64 (n : Int) i = ((n / 2 ^ min i.toNat 64 : Nat) : Int) := by
    unfold shr
    simp [IntKind.bits]
  rw [hs]
  have hlt : n / 2 ^ min i.toNat 64 < 18446744073709551616 := Nat.lt_of_le_of_lt (Nat.div_le_self _ _) (by omega)
  have := u64_and_nat (n / 2 ^ min i.toNat 64) 1 hlt (by decide)
  rw [show ((1 : Nat) : Int) = 1 from rfl] at this
  rw [this, nat_mask1, BitVec.getLsbD, ← hn, Nat.testBit_eq_decide_div_mod_eq]
  by_cases h : i.toNat < 64
  · rw [Nat.min_eq_left (by omega)]
    generalize n / 2 ^ i.toNat = q
    simp only [decide_eq_true_eq]
    omega
  · rw [Nat.min_eq_right (by omega), Nat.div_eq_of_lt (show n < 2 ^ 64 by omega), Nat.div_eq_of_lt (Nat.lt_of_lt_of_le (show n < 2 ^ 64 by omega) (Nat.pow_le_pow_right (by decide) (by omega)))]
    simp
theorem ofInt_wrap (n : Nat) (h : n < 2 ^ 64) : BitVec.ofInt 64 (IntKind.i64.wrap (n : Int)) = BitVec.ofNat 64 n := by
  apply BitVec.eq_of_toNat_eq
  rw [BitVec.toNat_ofInt, BitVec.toNat_ofNat]
  unfold IntKind.wrap
  simp [IntKind.bits, IntKind.signed]
  split <;> omega
theorem bits_or_bv (a b : Int) : BitVec.ofInt 64 (Go.bits .or .i64 a b) = BitVec.ofInt 64 a ||| BitVec.ofInt 64 b := by
  show BitVec.ofInt 64 (IntKind.i64.wrap ((BitVec.ofInt 64 a ||| BitVec.ofInt 64 b).toNat : Int)) = _
  rw [ofInt_wrap _ (BitVec.isLt _), BitVec.ofNat_toNat]
  simp only [BitVec.setWidth_eq]
theorem bitOn_or (a b i : Int) (h0 : 0 ≤ i) (h : bitOn a i) : bitOn (Go.bits .or .i64 a b) i := by
  rw [bitOn_iff _ _ h0] at h ⊢
  rw [bits_or_bv]
  simp [h]
theorem bitOn_zero (i : Int) (h0 : 0 ≤ i) : ¬ bitOn 0 i := by
  rw [bitOn_iff _ _ h0]
  simp
theorem actFrom_mono (a b : Int) : ∀ (c : List Int) (i n m : Int), 0 ≤ i → (∀ j, 0 ≤ j → bitOn a j → bitOn b j) → n ≤ m → actFrom a i c n ≤ actFrom b i c m
  | [], _, _, _, _, _, h => h
  | x :: c, i, n, m, h0, hb, h => by
    simp only [actFrom]
    refine actFrom_mono a b c (i + 1) _ _ (by omega) hb ?_
    by_cases e : bitOn a i
    · rw [if_pos e, if_pos (hb i h0 e)]
      unfold mx
      split <;> split <;> omega
    · rw [if_neg e]
      split
      · exact Int.le_trans h (le_mx_l m x)
      · exact h
theorem actFrom_zero : ∀ (c : List Int) (i n : Int), 0 ≤ i → actFrom 0 i c n = n
  | [], _, _, _ => rfl
  | x :: c, i, n, h => by
    simp only [actFrom]
    rw [if_neg (bitOn_zero i h)]
    exact actFrom_zero c (i + 1) n (by omega)
/-- The greatest of a number and of a list. -/
def mostOf (n : Int) (c : List Int) : Int := c.foldl mx n
theorem mostOf_mono : ∀ (c : List Int) (n m : Int), n ≤ m → mostOf n c ≤ mostOf m c
  | [], _, _, h => h
  | x :: c, n, m, h => by
    show mostOf (mx n x) c ≤ mostOf (mx m x) c
    refine mostOf_mono c _ _ ?_
    unfold mx
    split <;> split <;> omega
theorem actFrom_most (a : Int) : ∀ (c : List Int) (i n m : Int), n ≤ m → actFrom a i c n ≤ mostOf m c
  | [], _, _, _, h => h
  | x :: c, i, n, m, h => by
    simp only [actFrom]
    refine actFrom_most a c (i + 1) _ (mx m x) ?_
    split
    · unfold mx
      split <;> split <;> omega
    · exact Int.le_trans h (le_mx_l m x)
/-! ### the reference's bit, and Active -/
theorem tmod2 (x : Int) : (0 ≤ x ∧ Int.tmod x 2 = x % 2) ∨ (x < 0 ∧ Int.tmod x 2 = -((-x) % 2)) := by
  rcases Int.lt_or_le x 0 with h | h
  · exact .inr ⟨h, by rw [show x = -(-x) by omega, Int.neg_tmod, Int.tmod_eq_emod_of_nonneg (by omega)]; simp⟩
  · exact .inl ⟨h, Int.tmod_eq_emod_of_nonneg h⟩
theorem tdiv2 (x : Int) : (0 ≤ x ∧ Int.tdiv x 2 = x / 2) ∨ (x < 0 ∧ Int.tdiv x 2 = -((-x) / 2)) := by
  rcases Int.lt_or_le x 0 with h | h
  · exact .inr ⟨h, by rw [show x = -(-x) by omega, Int.neg_tdiv, Int.tdiv_eq_ediv_of_nonneg (by omega)]; simp⟩
  · exact .inl ⟨h, Int.tdiv_eq_ediv_of_nonneg h⟩
theorem half_step (x : Int) (h0 : -9223372036854775808 ≤ x) (h1 : x < 9223372036854775808) : (if Int.tmod x 2 < 0 then wrap64 (Int.tdiv (wrap64 (x - 1)) 2) else wrap64 (Int.tdiv (wrap64 (x - Int.tmod x 2)) 2)) = x / 2 := by
  have ht := tmod2 x
  split
  · rename_i h
    have hx : -9223372036854775808 ≤ x - 1 := by omega
    rw [show wrap64 (x - 1) = x - 1 by unfold wrap64; omega]
    have hd := tdiv2 (x - 1)
    generalize Int.tdiv (x - 1) 2 = q at *
    unfold wrap64
    omega
  · rename_i h
    generalize Int.tmod x 2 = r at *
    rw [show wrap64 (x - r) = x - r by unfold wrap64; omega]
    have hd := tdiv2 (x - r)
    generalize Int.tdiv (x - r) 2 = q at *
    unfold wrap64
    omega
theorem rbit_l0 (b : Int) (hb : b < 64) (d : Nat) : ∀ (x i : Int), -9223372036854775808 ≤ x → x < 9223372036854775808 → 0 ≤ i → i + d = b → Ev (fun k => camshaftref13_bit.l0 k x b i) (decide (x / 2 ^ d % 2 = 1)) := by
  induction d with
  | zero =>
    intro x i h0 h1 h2 h3
    refine Ev.step (f := fun _ => some (Int.tmod x 2 != 0)) (fun k => by simp only [camshaftref13_bit.l0]; rw [if_neg (by omega)]) ?_
    refine evTo (Ev.now _) ?_
    have : (Int.tmod x 2 != 0) = decide (x % 2 = 1) := by
      rw [Bool.eq_iff_iff]
      simp only [bne_iff_ne, decide_eq_true_eq]
      have := tmod2 x
      omega
    rw [this]
    simp
  | succ d ih =>
    intro x i h0 h1 h2 h3
    refine Ev.step (f := fun k => camshaftref13_bit.l0 k (x / 2) b (i + 1)) (fun k => ?_) ?_
    · simp only [camshaftref13_bit.l0]
      rw [if_pos (by omega), wrap_succ h2 (by omega), ← half_step x h0 h1]
      split <;> rfl
    · refine evTo (ih (x / 2) (i + 1) (by omega) (by omega) (by omega) (by omega)) ?_
      congr 2
      rw [Int.pow_succ, Int.mul_comm, Int.ediv_ediv_of_nonneg (by decide)]
theorem rbit_ev (held b : Int) (h0 : -9223372036854775808 ≤ held) (h1 : held < 9223372036854775808) (hb0 : 0 ≤ b) (hb : b < 64) : Ev (fun k => camshaftref13_bit.f k held b) (decide (bitOn held b)) := by
  refine evTo (rbit_l0 b hb b.toNat held 0 h0 h1 (by omega) (by omega)) ?_
  congr 1
  rw [eq_iff_iff, bitOn_iff _ _ hb0, BitVec.getLsbD, Nat.testBit_eq_decide_div_mod_eq, decide_eq_true_eq, BitVec.toNat_ofInt]
  have hm : b.toNat < 64 := by omega
  generalize b.toNat = m at hm
  have e1 : held = held % 2 ^ 64 + (held / 2 ^ 64 * 2 ^ (64 - m)) * 2 ^ m := by
    rw [Int.mul_assoc, ← Int.pow_add, show 64 - m + m = 64 by omega]
    have := Int.emod_add_mul_ediv held (2 ^ 64)
    rw [Int.mul_comm] at this
    omega
  have hr0 : 0 ≤ held % (2 : Int) ^ 64 := Int.emod_nonneg _ (by decide)
  have e2 : held / 2 ^ m % 2 = (held % 2 ^ 64) / 2 ^ m % 2 := by
    have hp : (2 : Int) ^ m ≠ 0 := Int.ne_of_gt (Int.pow_pos (by decide))
    rw [show held / 2 ^ m = (held % 2 ^ 64 + (held / 2 ^ 64 * 2 ^ (64 - m)) * 2 ^ m) / 2 ^ m from congrArg (· / (2 : Int) ^ m) e1, Int.add_mul_ediv_right _ _ hp]
    have h2 : (2 : Int) ^ (64 - m) = 2 ^ (63 - m) * 2 := by rw [← Int.pow_succ]; congr 1; omega
    rw [h2, ← Int.mul_assoc]
    omega
  rw [e2]
  have e3 : (((held % ((2 ^ 64 : Nat) : Int)).toNat / 2 ^ m : Nat) : Int) = held % 2 ^ 64 / 2 ^ m := by
    rw [Int.natCast_ediv, Int.toNat_of_nonneg (by exact hr0), Int.natCast_pow]
    rfl
  generalize held % (2 : Int) ^ 64 / 2 ^ m = p at *
  generalize (held % ((2 ^ 64 : Nat) : Int)).toNat / 2 ^ m = q at *
  omega
theorem bitOn_far (held i : Int) (h : 64 ≤ i) : ¬ bitOn held i := by
  rw [bitOn_iff _ _ (by omega), BitVec.getLsbD_of_ge _ _ (by omega)]
  simp
theorem actFrom_far (held : Int) : ∀ (c : List Int) (i n : Int), 64 ≤ i → actFrom held i c n = n
  | [], _, _, _ => rfl
  | x :: c, i, n, h => by
    simp only [actFrom]
    rw [if_neg (bitOn_far held i h)]
    exact actFrom_far held c (i + 1) n (by omega)
theorem ractive_l0 (held : Int) (c : List Int) (hm : c.length ≤ 1000) (h0 : -9223372036854775808 ≤ held) (h1 : held < 9223372036854775808) (d : Nat) : ∀ (i n : Int), 0 ≤ i → i + d = c.length → Ev (fun k => camshaftref13_Active.l0 k held c n i) (actFrom held i (c.drop i.toNat) n) := by
  induction d with
  | zero =>
    intro i n h2 h3
    refine Ev.step (f := fun k => camshaftref13_Active.j1 k held c n i false) (fun k => by simp only [camshaftref13_Active.l0]; rw [if_neg (by omega)]) ?_
    refine Ev.step (f := fun _ => some n) (fun k => by simp only [camshaftref13_Active.j1]; rfl) ?_
    rw [drop_end c i (by omega)]
    exact Ev.now _
  | succ d ih =>
    intro i n h2 h3
    refine Ev.step (f := fun k => camshaftref13_Active.j1 k held c n i (decide (i < 64))) (fun k => by simp only [camshaftref13_Active.l0]; rw [if_pos (by omega)]) ?_
    by_cases h64 : i < 64
    · rw [decide_eq_true h64]
      refine Ev.step (f := fun k => (camshaftref13_bit.f k held i).bind fun t => if t = true then camshaftref13_Active.l0 k held c (mx n (rd c i)) (i + 1) else camshaftref13_Active.l0 k held c n (i + 1)) (fun k => by
        simp only [camshaftref13_Active.j1, if_true]
        rw [wrap_succ h2 (by omega)]
        simp only [if_pos h2, if_pos (show i < (c.length : Int) by omega)]) ?_
      refine Ev.bind (rbit_ev held i h0 h1 h2 h64) ?_
      rw [drop_rd c i h2 (by omega)]
      simp only [actFrom, decide_eq_true_eq]
      by_cases e : bitOn held i
      · simp only [if_pos e]
        exact ih (i + 1) _ (by omega) (by omega)
      · simp only [if_neg e]
        exact ih (i + 1) _ (by omega) (by omega)
    · rw [decide_eq_false h64]
      refine Ev.step (f := fun _ => some n) (fun k => by simp only [camshaftref13_Active.j1]; rfl) ?_
      refine evTo (Ev.now _) ?_
      exact (actFrom_far held _ i n (by omega)).symm
theorem ractive_ev (prio held : Int) (c : List Int) (hm : c.length ≤ 1000) (h0 : -9223372036854775808 ≤ held) (h1 : held < 9223372036854775808) : Ev (fun k => camshaftref13_Active.f k prio held c) (actFrom held 0 c prio) := by
  unfold camshaftref13_Active.f
  exact ractive_l0 held c hm h0 h1 c.length 0 prio (by omega) (by omega)
end Go.Proofs.Ytehmolbalfefjaa.Q
