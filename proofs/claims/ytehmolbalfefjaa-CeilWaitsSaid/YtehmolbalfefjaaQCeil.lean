/- Layer 13, plainly: what the printed functions of ceil, of its reference and of its statements compute. No program in sight but the printed functions. -/
import Derived.Test.YtehmolbalfefjaaQx
import Derived.Test.YtehmolbalfefjaaQRows
namespace Go.Proofs.Ytehmolbalfefjaa.Q
open Go.RowKit Go.Proofs.YtehmolbalfefjaaW.PrintWords Go.Proofs.YtehmolbalfefjaaW.PrintLast Go.Proofs.YtehmolbalfefjaaW.PrintMore Go.Proofs.YtehmolbalfefjaaH
abbrev Use := S37
abbrev RUse := S62

theorem known_ev : Ev (fun k => camshaftlaw13_known.f k) true := Ev.of (fun k => camshaftlaw13_known.mono k) (k := 40) (by decide +kernel)

theorem evTo {α : Type} {g : Nat → Option α} {a b : α} (h : Ev g a) (e : a = b) : Ev g b := e ▸ h
theorem wrap_succ {i : Int} (h0 : 0 ≤ i) (h : i < 9223372036854775807) : wrap64 (i + 1) = i + 1 := by unfold wrap64; omega
theorem drop_rdU (xs : List Use) (i : Int) (h0 : 0 ≤ i) (h1 : i < xs.length) : xs.drop i.toNat = rd_T37 xs i :: xs.drop (i + 1).toNat := drop_getD xs _ i h0 h1
theorem drop_rdR (xs : List RUse) (i : Int) (h0 : 0 ≤ i) (h1 : i < xs.length) : xs.drop i.toNat = rd_T62 xs i :: xs.drop (i + 1).toNat := drop_getD xs _ i h0 h1
theorem rdR_mem (l : List RUse) (i : Int) (h0 : 0 ≤ i) (h1 : i < l.length) : rd_T62 l i ∈ l := by
  have h : i.toNat < l.length := by omega
  simp [rd_T62, List.getD_eq_getElem?_getD, List.getElem?_eq_getElem h]

/-! ### light -/
def lightB (l : List Use) : Bool := decide (l.length ≤ 20) && l.all fun u => decide (u.f1.length ≤ 50) && decide (u.f2.length ≤ 50)
theorem light_l0 (l : List Use) (hm : l.length ≤ 20) (d : Nat) : ∀ (i : Int), 0 ≤ i → i + d = l.length → Ev (fun k => camshaftlaw13_light.l0 k l i) ((l.drop i.toNat).all fun u => decide (u.f1.length ≤ 50) && decide (u.f2.length ≤ 50)) := by
  induction d with
  | zero =>
    intro i h0 h1
    refine Ev.step (f := fun _ => some true) (fun k => by simp only [camshaftlaw13_light.l0]; rw [if_neg (by omega)]) ?_
    rw [drop_end l i (by omega)]
    exact Ev.now _
  | succ d ih =>
    intro i h0 h1
    rw [drop_rdU l i h0 (by omega)]
    simp only [List.all_cons]
    by_cases a : (rd_T37 l i).f1.length ≤ 50
    · by_cases b : (rd_T37 l i).f2.length ≤ 50
      · refine Ev.step (f := fun k => camshaftlaw13_light.l0 k l (i + 1)) (fun k => by simp only [camshaftlaw13_light.l0]; rw [if_pos (by omega), if_pos h0, if_neg (by omega), if_neg (by omega), wrap_succ h0 (by omega)]) ?_
        exact evTo (ih (i + 1) (by omega) (by omega)) (by simp [a, b])
      · refine Ev.step (f := fun _ => some false) (fun k => by simp only [camshaftlaw13_light.l0]; rw [if_pos (by omega), if_pos h0, if_neg (by omega), if_pos (by omega)]) ?_
        exact evTo (Ev.now _) (by simp [b])
    · refine Ev.step (f := fun _ => some false) (fun k => by simp only [camshaftlaw13_light.l0]; rw [if_pos (by omega), if_pos h0, if_pos (by omega)]) ?_
      exact evTo (Ev.now _) (by simp [a])
theorem light_ev (l : List Use) : Ev (fun k => camshaftlaw13_light.f k l) (lightB l) := by
  unfold camshaftlaw13_light.f lightB
  by_cases h : l.length ≤ 20
  · refine Ev.congr (f := fun k => camshaftlaw13_light.l0 k l 0) (fun k => by rw [if_neg (by omega)]) ?_
    exact evTo (light_l0 l h l.length 0 (by omega) (by omega)) (by simp [h])
  · refine Ev.congr (f := fun _ => some false) (fun k => by rw [if_pos (by omega)]) ?_
    exact evTo (Ev.now _) (by simp [h])
theorem lightB_parts {l : List Use} (h : lightB l = true) : l.length ≤ 20 ∧ ∀ u ∈ l, u.f1.length ≤ 50 ∧ u.f2.length ≤ 50 := by
  simp only [lightB, Bool.and_eq_true, decide_eq_true_eq, List.all_eq_true] at h
  exact h

/-! ### Right -/
theorem right_ev (blocks : Int) {l : List Use} (hm : l.length ≤ 20) (hu : ∀ u ∈ l, u.f1.length ≤ 50 ∧ u.f2.length ≤ 50) : Ev (fun k => ceil_Right.f k blocks l) (ceilOk blocks l) :=
  ⟨l.length + usesMax l + 3, fun k hk => right_spec blocks l (by omega) (fun u h => by have := hu u h; omega) k (by omega)⟩
def tr (u : Use) : RUse := ⟨u.f0, u.f1, u.f2⟩

theorem one_l1 (p : Int) (f1 f2 : List Int) (hm : f2.length ≤ 50) (d : Nat) : ∀ (i : Int), 0 ≤ i → i + d = f2.length → Ev (fun k => camshaftref13_one.l1 k i p f1 f2) ((f2.drop i.toNat).all (fun n => decide (0 ≤ n) && decide (n ≤ 1099511627776)) && decide (1 ≤ p) && decide (p ≤ 100) && decide (f1.length = f2.length)) := by
  induction d with
  | zero =>
    intro i h0 h1
    refine Ev.step (f := fun _ => if p ≥ 1 then (if p ≤ 100 then some ((f1.length : Int) == (f2.length : Int)) else some false) else some false) (fun k => by simp only [camshaftref13_one.l1]; rw [if_neg (by omega)]) ?_
    rw [drop_end f2 i (by omega)]
    have he : ((f1.length : Int) == (f2.length : Int)) = decide (f1.length = f2.length) := by
      by_cases e : f1.length = f2.length
      · simp [e]
      · have : ¬ (f1.length : Int) = f2.length := by omega
        simp [e, this]
    by_cases a : p ≥ 1
    · by_cases b : p ≤ 100
      · simp only [if_pos a, if_pos b]
        exact evTo (Ev.now _) (by simp [he, a, b])
      · simp only [if_pos a, if_neg b]
        exact evTo (Ev.now _) (by simp [b])
    · simp only [if_neg a]
      exact evTo (Ev.now _) (by simp [a])
  | succ d ih =>
    intro i h0 h1
    rw [drop_rd f2 i h0 (by omega)]
    by_cases a : rd f2 i < 0
    · refine Ev.step (f := fun _ => some false) (fun k => by simp only [camshaftref13_one.l1]; rw [if_pos (by omega), if_pos h0, if_pos a]) ?_
      exact evTo (Ev.now _) (by simp [show ¬ 0 ≤ rd f2 i by omega])
    · by_cases b : rd f2 i > 1099511627776
      · refine Ev.step (f := fun _ => some false) (fun k => by simp only [camshaftref13_one.l1]; rw [if_pos (by omega), if_pos h0, if_neg a, if_pos b]) ?_
        exact evTo (Ev.now _) (by simp [show ¬ rd f2 i ≤ 1099511627776 by omega])
      · refine Ev.step (f := fun k => camshaftref13_one.l1 k (i + 1) p f1 f2) (fun k => by simp only [camshaftref13_one.l1]; rw [if_pos (by omega), if_pos h0, if_neg a, if_neg b, wrap_succ h0 (by omega)]) ?_
        exact evTo (ih (i + 1) (by omega) (by omega)) (by simp [show 0 ≤ rd f2 i by omega, show rd f2 i ≤ 1099511627776 by omega])
/-- Blocks rise, as the reference asks it: each is 0 to below, and above the one ahead. -/
def refRise (blocks : Int) : Option Int → List Int → Bool
  | _, [] => true
  | p, b :: bs => decide (0 ≤ b) && decide (b < blocks) && (match p with | none => true | some q => decide (q < b)) && refRise blocks (some b) bs
theorem one_l0 (blocks p : Int) (f1 f2 : List Int) (hm1 : f1.length ≤ 50) (hm : f2.length ≤ 50) (d : Nat) : ∀ (i : Int), 0 ≤ i → i + d = f1.length → Ev (fun k => camshaftref13_one.l0 k blocks i p f1 f2) (refRise blocks (if i = 0 then none else some (rd f1 (i - 1))) (f1.drop i.toNat) && (f2.all (fun n => decide (0 ≤ n) && decide (n ≤ 1099511627776)) && decide (1 ≤ p) && decide (p ≤ 100) && decide (f1.length = f2.length))) := by
  induction d with
  | zero =>
    intro i h0 h1
    refine Ev.step (f := fun k => camshaftref13_one.l1 k 0 p f1 f2) (fun k => by simp only [camshaftref13_one.l0]; rw [if_neg (by omega)]) ?_
    rw [drop_end f1 i (by omega)]
    exact evTo (one_l1 p f1 f2 hm f2.length 0 (by omega) (by omega)) (by simp [refRise])
  | succ d ih =>
    intro i h0 h1
    rw [drop_rd f1 i h0 (by omega)]
    by_cases a : rd f1 i < 0
    · refine Ev.step (f := fun _ => some false) (fun k => by simp only [camshaftref13_one.l0]; rw [if_pos (by omega), if_pos h0, if_pos a]) ?_
      exact evTo (Ev.now _) (by simp [refRise, show ¬ 0 ≤ rd f1 i by omega])
    · by_cases b : rd f1 i ≥ blocks
      · refine Ev.step (f := fun _ => some false) (fun k => by simp only [camshaftref13_one.l0]; rw [if_pos (by omega), if_pos h0, if_neg a, if_pos b]) ?_
        exact evTo (Ev.now _) (by simp [refRise, show ¬ rd f1 i < blocks by omega])
      · have hnext := ih (i + 1) (by omega) (by omega)
        rw [if_neg (by omega), show i + 1 - 1 = i by omega] at hnext
        by_cases z : i = 0
        · refine Ev.step (f := fun k => camshaftref13_one.l0 k blocks (i + 1) p f1 f2) (fun k => by simp only [camshaftref13_one.l0]; rw [if_pos (by omega), if_pos h0, if_neg a, if_neg b, if_neg (by omega), wrap_succ h0 (by omega)]) ?_
          exact evTo hnext (by simp [refRise, z, show 0 ≤ rd f1 0 by rw [z] at a; omega, show rd f1 0 < blocks by rw [z] at b; omega])
        · have hw : wrap64 (i - 1) = i - 1 := by unfold wrap64; omega
          by_cases c : rd f1 (i - 1) ≥ rd f1 i
          · refine Ev.step (f := fun _ => some false) (fun k => by simp only [camshaftref13_one.l0]; rw [if_pos (by omega), if_pos h0, if_neg a, if_neg b, if_pos (by omega), hw, if_pos (by omega), if_pos (by omega), if_pos c]) ?_
            exact evTo (Ev.now _) (by simp [refRise, z, show ¬ rd f1 (i - 1) < rd f1 i by omega])
          · refine Ev.step (f := fun k => camshaftref13_one.l0 k blocks (i + 1) p f1 f2) (fun k => by simp only [camshaftref13_one.l0]; rw [if_pos (by omega), if_pos h0, if_neg a, if_neg b, if_pos (by omega), hw, if_pos (by omega), if_pos (by omega), if_neg c, wrap_succ h0 (by omega)]) ?_
            exact evTo hnext (by simp [refRise, z, show rd f1 (i - 1) < rd f1 i by omega, show 0 ≤ rd f1 i by omega, show rd f1 i < blocks by omega])
theorem rise_chk (blocks : Int) : ∀ (f1 f2 : List Int) (q : Int), f1.length = f2.length → -1 ≤ q → (refRise blocks (some q) f1 && f2.all (fun n => decide (0 ≤ n) && decide (n ≤ 1099511627776))) = chkB blocks q f1 f2
  | [], [], _, _, _ => rfl
  | b :: bs, n :: ns, q, h, hq => by
    have hl : bs.length = ns.length := by simpa using h
    simp only [refRise, chkB, List.all_cons]
    by_cases a : b ≤ q
    · simp [a, show ¬ q < b by omega]
    · by_cases c : b ≥ blocks
      · simp [a, c, show ¬ b < blocks by omega]
      · by_cases e : n < 0
        · simp [a, c, e, show ¬ 0 ≤ n by omega]
        · by_cases f : n > 1099511627776
          · simp [a, c, e, f, show ¬ n ≤ 1099511627776 by omega]
          · rw [if_neg a, if_neg c, if_neg e, if_neg f, ← rise_chk blocks bs ns b hl (by omega)]
            simp [show q < b by omega, show b < blocks by omega, show 0 ≤ b by omega, show 0 ≤ n by omega, show n ≤ 1099511627776 by omega]
theorem rise_first (blocks : Int) (f1 : List Int) : refRise blocks none f1 = refRise blocks (some (-1)) f1 := by
  cases f1 with
  | nil => rfl
  | cons b bs =>
    simp only [refRise]
    by_cases a : 0 ≤ b
    · simp [a, show -1 < b by omega]
    · simp [a]
theorem one_ev (blocks : Int) (u : Use) (h1 : u.f1.length ≤ 50) (h2 : u.f2.length ≤ 50) : Ev (fun k => camshaftref13_one.f k blocks (tr u).f0 (tr u).f1 (tr u).f2) (useOk blocks u) := by
  refine evTo (one_l0 blocks u.f0 u.f1 u.f2 h1 h2 u.f1.length 0 (by omega) (by omega)) ?_
  simp only [if_true, Int.toNat_zero, List.drop_zero, rise_first]
  unfold useOk
  by_cases a : u.f0 < 1
  · simp [a, show ¬ 1 ≤ u.f0 by omega]
  · by_cases b : u.f0 > 100
    · simp [b, show ¬ u.f0 ≤ 100 by omega]
    · by_cases c : u.f1.length = u.f2.length
      · rw [if_neg a, if_neg b, if_neg (by simpa using c), ← rise_chk blocks u.f1 u.f2 (-1) c (by omega)]
        simp [show 1 ≤ u.f0 by omega, show u.f0 ≤ 100 by omega, c]
      · simp [c]
theorem rright_l0 (blocks : Int) (l : List Use) (hm : l.length ≤ 20) (hu : ∀ u ∈ l, u.f1.length ≤ 50 ∧ u.f2.length ≤ 50) (d : Nat) : ∀ (i : Int), 0 ≤ i → i + d = l.length → Ev (fun k => camshaftref13_Right.l0 k blocks (l.map tr) i) ((l.drop i.toNat).all (useOk blocks) && decide (0 ≤ blocks) && decide (blocks ≤ 8) && decide (l.length ≤ 8)) := by
  induction d with
  | zero =>
    intro i h0 h1
    refine Ev.step (f := fun _ => if blocks ≥ 0 then (if blocks ≤ 8 then some (decide ((l.length : Int) ≤ 8)) else some false) else some false) (fun k => by simp only [camshaftref13_Right.l0, List.length_map]; rw [if_neg (by omega)]) ?_
    rw [drop_end l i (by omega)]
    by_cases a : blocks ≥ 0
    · by_cases b : blocks ≤ 8
      · simp only [if_pos a, if_pos b]
        exact evTo (Ev.now _) (by simp [a, b]; omega)
      · simp only [if_pos a, if_neg b]
        exact evTo (Ev.now _) (by simp [b])
    · simp only [if_neg a]
      exact evTo (Ev.now _) (by simp [a])
  | succ d ih =>
    intro i h0 h1
    have hlt : i.toNat < l.length := by omega
    have he : rd_T62 (l.map tr) i = tr (rd_T37 l i) := by
      simp [rd_T37, rd_T62, List.getD_eq_getElem?_getD, List.getElem?_eq_getElem hlt]
    have hmem : rd_T37 l i ∈ l := rd_use_mem l i h0 (by omega)
    refine Ev.step (f := fun k => (camshaftref13_one.f k blocks (tr (rd_T37 l i)).f0 (tr (rd_T37 l i)).f1 (tr (rd_T37 l i)).f2).bind fun t => if t = true then camshaftref13_Right.l0 k blocks (l.map tr) (i + 1) else some false) (fun k => by
      simp only [camshaftref13_Right.l0, List.length_map]
      rw [if_pos (by omega), if_pos h0, wrap_succ h0 (by omega), ← he]) ?_
    refine Ev.bind (one_ev blocks _ (hu _ hmem).1 (hu _ hmem).2) ?_
    rw [drop_rdU l i h0 (by omega)]
    cases hx : useOk blocks (rd_T37 l i) with
    | true =>
      simp only [if_true]
      exact evTo (ih (i + 1) (by omega) (by omega)) (by simp [hx])
    | false =>
      exact evTo (Ev.now false) (by simp [hx])
theorem rright_ev (blocks : Int) {l : List Use} (hm : l.length ≤ 20) (hu : ∀ u ∈ l, u.f1.length ≤ 50 ∧ u.f2.length ≤ 50) : Ev (fun k => camshaftref13_Right.f k blocks (l.map tr)) (ceilOk blocks l) :=
  evTo (rright_l0 blocks l hm hu l.length 0 (by omega) (by omega)) (by simp [ceilOk])

/-! ### Plain, Same -/
theorem plain_l0 (l : List Use) (hm : l.length ≤ 20) (d : Nat) : ∀ (i : Int) (acc : List RUse), 0 ≤ i → i + d = l.length → acc.length = i → Ev (fun k => camshaftlaw13_Plain.l0 k l acc i) (acc ++ (l.drop i.toNat).map tr) := by
  induction d with
  | zero =>
    intro i acc h0 h1 ha
    refine Ev.step (f := fun _ => some acc) (fun k => by simp only [camshaftlaw13_Plain.l0]; rw [if_neg (by omega)]) ?_
    rw [drop_end l i (by omega)]
    exact evTo (Ev.now _) (by simp)
  | succ d ih =>
    intro i acc h0 h1 ha
    refine Ev.step (f := fun k => camshaftlaw13_Plain.l0 k l (acc ++ [tr (rd_T37 l i)]) (i + 1)) (fun k => by simp only [camshaftlaw13_Plain.l0]; rw [if_pos (by omega), if_pos h0, if_pos (by omega), wrap_succ h0 (by omega)]; rfl) ?_
    refine evTo (ih (i + 1) (acc ++ [tr (rd_T37 l i)]) (by omega) (by omega) (by simp; omega)) ?_
    rw [drop_rdU l i h0 (by omega)]
    simp
theorem plain_ev {l : List Use} (hm : l.length ≤ 20) : Ev (fun k => camshaftlaw13_Plain.f k l) (l.map tr) :=
  evTo (plain_l0 l hm l.length 0 [] (by omega) (by omega) rfl) (by simp)
theorem same_l0 (a b : List Int) (hl : a.length = b.length) (hm : a.length ≤ 1000) (d : Nat) : ∀ (i : Int), 0 ≤ i → i + d = a.length → Ev (fun k => camshaftref02_Same.l0 k a b i) (decide (a.drop i.toNat = b.drop i.toNat)) := by
  induction d with
  | zero =>
    intro i h0 h1
    refine Ev.step (f := fun _ => some true) (fun k => by simp only [camshaftref02_Same.l0]; rw [if_neg (by omega)]) ?_
    rw [drop_end a i (by omega), drop_end b i (by omega)]
    exact evTo (Ev.now _) (by simp)
  | succ d ih =>
    intro i h0 h1
    rw [drop_rd a i h0 (by omega), drop_rd b i h0 (by omega)]
    by_cases e : rd a i = rd b i
    · refine Ev.step (f := fun k => camshaftref02_Same.l0 k a b (i + 1)) (fun k => by simp only [camshaftref02_Same.l0]; rw [if_pos (by omega), if_pos h0, if_pos (by omega), if_pos e, wrap_succ h0 (by omega)]) ?_
      exact evTo (ih (i + 1) (by omega) (by omega)) (by simp [e])
    · refine Ev.step (f := fun _ => some false) (fun k => by simp only [camshaftref02_Same.l0]; rw [if_pos (by omega), if_pos h0, if_pos (by omega), if_neg e]) ?_
      exact evTo (Ev.now _) (by simp [e])
theorem same_ev (a b : List Int) (hm : a.length ≤ 1000) : Ev (fun k => camshaftref02_Same.f k a b) (decide (a = b)) := by
  unfold camshaftref02_Same.f
  by_cases h : a.length = b.length
  · refine Ev.congr (f := fun k => camshaftref02_Same.l0 k a b 0) (fun k => by rw [if_pos (by omega)]) ?_
    exact evTo (same_l0 a b h hm a.length 0 (by omega) (by omega)) (by simp)
  · refine Ev.congr (f := fun _ => some false) (fun k => by rw [if_neg (by omega)]) ?_
    exact evTo (Ev.now _) (by simp; rintro rfl; exact h rfl)

/-! ### Ceilings -/
theorem ceilings_ev (blocks : Int) {l : List Use} (hm : l.length ≤ 20) (hu : ∀ u ∈ l, u.f1.length ≤ 50 ∧ u.f2.length ≤ 50) : Ev (fun k => ceil_Ceilings.f k blocks l) (if ceilOk blocks l = true then ceilingsP blocks l else []) := by
  unfold ceil_Ceilings.f
  refine Ev.bind (right_ev blocks hm hu) ?_
  cases ceilOk blocks l
  · exact Ev.now _
  · exact Ev.now _
theorem waits_ev (blocks : Int) {l : List Use} (hm : l.length ≤ 20) (hu : ∀ u ∈ l, u.f1.length ≤ 50 ∧ u.f2.length ≤ 50) : Ev (fun k => ceil_Waits.f k blocks l) (if ceilOk blocks l = true then waitsP blocks l else []) := by
  unfold ceil_Waits.f
  refine Ev.bind (right_ev blocks hm hu) ?_
  cases ceilOk blocks l
  · exact Ev.now _
  · exact Ev.now _
/-- A use's blocks and lens, as pairs. -/
def pairs (u : Use) : List (Int × Int) := u.f1.zip u.f2
theorem eachIn_fold {σ : Type} (stp : Use → Int → Int → σ → σ) (u : Use) (hl : u.f1.length = u.f2.length) : ∀ (n : Nat) (i : Int) (s : σ), 0 ≤ i → i + n = u.f1.length → eachIn stp u i n s = ((pairs u).drop i.toNat).foldl (fun s p => stp u p.1 p.2 s) s
  | 0, i, s, h0, h1 => by
    rw [List.drop_eq_nil_of_le (by simp [pairs]; omega)]
    rfl
  | n + 1, i, s, h0, h1 => by
    have hz : (pairs u).drop i.toNat = (rd u.f1 i, rd u.f2 i) :: (pairs u).drop (i + 1).toNat := by
      unfold pairs
      rw [List.zip_eq_zipWith, List.drop_zipWith, List.drop_zipWith, ← List.zip_eq_zipWith, ← List.zip_eq_zipWith, drop_rd u.f1 i h0 (by omega), drop_rd u.f2 i h0 (by omega), List.zip_cons_cons]
    simp only [eachIn]
    rw [eachIn_fold stp u hl n (i + 1) _ (by omega) (by omega), hz]
    rfl
theorem eachOut_fold {σ : Type} (stp : Use → Int → Int → σ → σ) (l : List Use) (hl : ∀ u ∈ l, u.f1.length = u.f2.length) : ∀ (n : Nat) (i : Int) (s : σ), 0 ≤ i → i + n = l.length → eachOut stp l i n s = (l.drop i.toNat).foldl (fun s u => (pairs u).foldl (fun s p => stp u p.1 p.2 s) s) s
  | 0, i, s, h0, h1 => by
    rw [List.drop_eq_nil_of_le (by omega)]
    rfl
  | n + 1, i, s, h0, h1 => by
    simp only [eachOut]
    have hmem : rd_T37 l i ∈ l := rd_use_mem l i h0 (by omega)
    rw [eachOut_fold stp l hl n (i + 1) _ (by omega) (by omega), eachIn_fold stp (rd_T37 l i) (hl _ hmem) _ 0 _ (by omega) (by omega), drop_rdU l i h0 (by omega)]
    rfl
/-- How high block b lifts. -/
def ceilVal (b : Int) (l : List Use) : Int := l.foldl (fun n u => u.f1.foldl (fun n x => if x = b then mx n u.f0 else n) n) 0
theorem rd_set (cs : List Int) (i b : Int) (v : Int) (h0 : 0 ≤ i) (h1 : i < cs.length) (hb : 0 ≤ b) : rd (cs.set i.toNat v) b = if i = b then v else rd cs b := by
  unfold rd
  by_cases e : i = b
  · subst e
    have : i.toNat < cs.length := by omega
    simp [List.getD_eq_getElem?_getD, List.getElem?_set_self this]
  · rw [if_neg e, List.getD_eq_getElem?_getD, List.getElem?_set_ne (by omega), ← List.getD_eq_getElem?_getD]
theorem fold_zip (u : Use) (b : Int) : ∀ (f1 f2 : List Int) (n : Int), f1.length = f2.length → (f1.zip f2).foldl (fun n p => if p.1 = b then mx n u.f0 else n) n = f1.foldl (fun n x => if x = b then mx n u.f0 else n) n
  | [], [], _, _ => rfl
  | x :: f1, y :: f2, n, h => by
    simp only [List.zip_cons_cons, List.foldl_cons]
    exact fold_zip u b f1 f2 _ (by simpa using h)
theorem stp_fold_rd (u : Use) (b : Int) (hb : 0 ≤ b) : ∀ (ps : List (Int × Int)) (cs : List Int), (∀ p ∈ ps, 0 ≤ p.1 ∧ p.1 < cs.length) → rd (ps.foldl (fun s p => ceilStp u p.1 p.2 s) cs) b = ps.foldl (fun n p => if p.1 = b then mx n u.f0 else n) (rd cs b) ∧ (ps.foldl (fun s p => ceilStp u p.1 p.2 s) cs).length = cs.length
  | [], cs, _ => ⟨rfl, rfl⟩
  | p :: ps, cs, h => by
    simp only [List.foldl_cons]
    have hp := h p List.mem_cons_self
    have hl : (ceilStp u p.1 p.2 cs).length = cs.length := ceilStp_length u p.1 p.2 cs
    obtain ⟨h1, h2⟩ := stp_fold_rd u b hb ps (ceilStp u p.1 p.2 cs) (fun q hq => by rw [hl]; exact h q (List.mem_cons_of_mem _ hq))
    refine ⟨?_, by rw [h2, hl]⟩
    rw [h1]
    unfold ceilStp
    rw [rd_set cs p.1 b _ hp.1 hp.2 hb]
    by_cases e : p.1 = b
    · rw [if_pos e, if_pos e, e]
    · rw [if_neg e, if_neg e]
theorem mem_pairs {u : Use} {p : Int × Int} (h : p ∈ pairs u) : p.1 ∈ u.f1 ∧ p.2 ∈ u.f2 := ⟨(List.of_mem_zip h).1, (List.of_mem_zip h).2⟩
theorem out_fold_rd (b : Int) (hb : 0 ≤ b) (m : Nat) : ∀ (l : List Use) (cs : List Int), cs.length = m → (∀ u ∈ l, u.f1.length = u.f2.length ∧ ∀ x ∈ u.f1, 0 ≤ x ∧ x < m) → rd (l.foldl (fun s u => (pairs u).foldl (fun s p => ceilStp u p.1 p.2 s) s) cs) b = l.foldl (fun n u => u.f1.foldl (fun n x => if x = b then mx n u.f0 else n) n) (rd cs b)
  | [], cs, _, _ => rfl
  | u :: l, cs, hm, h => by
    simp only [List.foldl_cons]
    obtain ⟨hl, hx⟩ := h u List.mem_cons_self
    obtain ⟨h1, h2⟩ := stp_fold_rd u b hb (pairs u) cs (fun p hp => by rw [hm]; exact hx _ (mem_pairs hp).1)
    rw [out_fold_rd b hb m l _ (by rw [h2, hm]) (fun v hv => h v (List.mem_cons_of_mem _ hv)), h1]
    congr 1
    exact fold_zip u b u.f1 u.f2 _ hl
theorem ceilingsP_rd (blocks : Int) (l : List Use) (hk : ceilOk blocks l = true) (b : Int) (hb : 0 ≤ b) (hb2 : b < blocks) : rd (ceilingsP blocks l) b = ceilVal b l := by
  obtain ⟨hu, h0, h8, _⟩ := ceilOk_parts hk
  unfold ceilingsP
  have hl : ∀ u ∈ l, u.f1.length = u.f2.length := fun u h => (useOk_len (hu u h) h8).2
  rw [eachOut_fold ceilStp l hl l.length 0 _ (by omega) (by omega)]
  simp only [Int.toNat_zero, List.drop_zero]
  rw [out_fold_rd b hb blocks.toNat l _ (by simp) (fun u h => ⟨hl u h, fun x hx => by have := useOk_rd (hu u h) x hx; omega⟩)]
  congr 1
  have : b.toNat < blocks.toNat := by omega
  simp [rd, List.getD_eq_getElem?_getD, this]
theorem ceilingsP_eq (blocks : Int) (l : List Use) (hk : ceilOk blocks l = true) : ceilingsP blocks l = (List.range blocks.toNat).map fun (b : Nat) => ceilVal (b : Int) l := by
  apply List.ext_getElem
  · simp [ceilingsP_length]
  · intro i h1 h2
    have hi : i < blocks.toNat := by simpa using h2
    have := ceilingsP_rd blocks l hk i (by omega) (by omega)
    simp only [List.getElem_map, List.getElem_range]
    rw [← this]
    simp [rd, List.getD_eq_getElem?_getD, List.getElem?_eq_getElem h1]

/-! ### the reference's ceilings and waits -/
theorem rdR_tr (l : List Use) (i : Int) (h0 : 0 ≤ i) (h1 : i < l.length) : rd_T62 (l.map tr) i = tr (rd_T37 l i) := by
  have hlt : i.toNat < l.length := by omega
  simp [rd_T37, rd_T62, List.getD_eq_getElem?_getD, List.getElem?_eq_getElem hlt]
theorem ceiling_l0 (b : Int) (l : List Use) (hm : l.length ≤ 20) (hu : ∀ u ∈ l, u.f1.length ≤ 50 ∧ u.f2.length ≤ 50) (d : Nat) : ∀ (i n : Int), 0 ≤ i → i + d = l.length → Ev (fun k => camshaftref13_ceiling.l0 k b (l.map tr) n i) ((l.drop i.toNat).foldl (fun n u => u.f1.foldl (fun n x => if x = b then mx n u.f0 else n) n) n) := by
  induction d with
  | zero =>
    intro i n h0 h1
    refine Ev.step (f := fun _ => some n) (fun k => by simp only [camshaftref13_ceiling.l0, List.length_map]; rw [if_neg (by omega)]) ?_
    rw [drop_end l i (by omega)]
    exact Ev.now _
  | succ d ih =>
    intro i n h0 h1
    refine Ev.step (f := fun k => camshaftref13_ceiling.l1 k b (l.map tr) n i 0) (fun k => by simp only [camshaftref13_ceiling.l0, List.length_map]; rw [if_pos (by omega)]) ?_
    have hr := rdR_tr l i h0 (by omega)
    have hmem := rd_use_mem l i h0 (by omega)
    have h50 := (hu _ hmem).1
    rw [drop_rdU l i h0 (by omega)]
    simp only [List.foldl_cons]
    generalize rd_T37 l i = u at *
    have inner : ∀ (e : Nat) (j n : Int), 0 ≤ j → j + e = u.f1.length → Ev (fun k => camshaftref13_ceiling.l1 k b (l.map tr) n i j) ((l.drop (i + 1).toNat).foldl (fun n u => u.f1.foldl (fun n x => if x = b then mx n u.f0 else n) n) ((u.f1.drop j.toNat).foldl (fun n x => if x = b then mx n u.f0 else n) n)) := by
      intro e
      induction e with
      | zero =>
        intro j n h2 h3
        refine Ev.step (f := fun k => camshaftref13_ceiling.l0 k b (l.map tr) n (i + 1)) (fun k => by
          simp only [camshaftref13_ceiling.l1, List.length_map]
          rw [if_pos h0, if_pos (by omega), hr, if_neg (by show ¬ j < (u.f1.length : Int); omega), wrap_succ h0 (by omega)]) ?_
        rw [drop_end u.f1 j (by omega)]
        exact ih (i + 1) n (by omega) (by omega)
      | succ e ihe =>
        intro j n h2 h3
        rw [drop_rd u.f1 j h2 (by omega)]
        simp only [List.foldl_cons]
        by_cases c : rd u.f1 j = b
        · rw [if_pos c]
          refine Ev.step (f := fun k => camshaftref13_ceiling.l1 k b (l.map tr) (mx n u.f0) i (j + 1)) (fun k => by
            simp only [camshaftref13_ceiling.l1, List.length_map]
            rw [if_pos h0, if_pos (by omega), hr, if_pos (by show j < (u.f1.length : Int); omega), if_pos h2, if_pos (by exact c), wrap_succ h2 (by omega)]
            rfl) ?_
          exact ihe (j + 1) _ (by omega) (by omega)
        · rw [if_neg c]
          refine Ev.step (f := fun k => camshaftref13_ceiling.l1 k b (l.map tr) n i (j + 1)) (fun k => by
            simp only [camshaftref13_ceiling.l1, List.length_map]
            rw [if_pos h0, if_pos (by omega), hr, if_pos (by show j < (u.f1.length : Int); omega), if_pos h2, if_neg (by exact c), wrap_succ h2 (by omega)]) ?_
          exact ihe (j + 1) _ (by omega) (by omega)
    exact inner u.f1.length 0 n (by omega) (by omega)
theorem ceiling_ev (b : Int) {l : List Use} (hm : l.length ≤ 20) (hu : ∀ u ∈ l, u.f1.length ≤ 50 ∧ u.f2.length ≤ 50) : Ev (fun k => camshaftref13_ceiling.f k b (l.map tr)) (ceilVal b l) :=
  ceiling_l0 b l hm hu l.length 0 0 (by omega) (by omega)
theorem rceilings_l0 (blocks : Int) {l : List Use} (hm : l.length ≤ 20) (hu : ∀ u ∈ l, u.f1.length ≤ 50 ∧ u.f2.length ≤ 50) (hk : ceilOk blocks l = true) (h8 : blocks ≤ 8) (d : Nat) : ∀ (i : Int) (acc : List Int), 0 ≤ i → i + d = blocks → acc.length = i → Ev (fun k => camshaftref13_Ceilings.l0 k blocks (l.map tr) acc i) (acc ++ ((List.range blocks.toNat).map fun (b : Nat) => ceilVal (b : Int) l).drop i.toNat) := by
  induction d with
  | zero =>
    intro i acc h0 h1 ha
    refine Ev.step (f := fun _ => some acc) (fun k => by simp only [camshaftref13_Ceilings.l0]; rw [if_neg (by omega)]) ?_
    exact evTo (Ev.now _) (by rw [List.drop_eq_nil_of_le (by simp; omega)]; simp)
  | succ d ih =>
    intro i acc h0 h1 ha
    refine Ev.step (f := fun k => (camshaftref13_Right.f k blocks (l.map tr)).bind fun t => if t = true then (camshaftref13_ceiling.f k i (l.map tr)).bind fun c => camshaftref13_Ceilings.l0 k blocks (l.map tr) (acc ++ [c]) (i + 1) else some acc) (fun k => by
      simp only [camshaftref13_Ceilings.l0]
      rw [if_pos (by omega), wrap_succ h0 (by omega)]
      simp only [if_pos (show acc.length < 17592186044416 by omega)]) ?_
    refine Ev.bind (rright_ev blocks hm hu) ?_
    simp only [hk, if_true]
    refine Ev.bind (ceiling_ev i hm hu) ?_
    refine evTo (ih (i + 1) (acc ++ [ceilVal i l]) (by omega) (by omega) (by simp; omega)) ?_
    rw [List.drop_eq_getElem_cons (show i.toNat < ((List.range blocks.toNat).map fun (b : Nat) => ceilVal (b : Int) l).length by simp; omega), show (i + 1).toNat = i.toNat + 1 by omega]
    simp [Int.toNat_of_nonneg h0]
theorem rceilings_ev (blocks : Int) {l : List Use} (hm : l.length ≤ 20) (hu : ∀ u ∈ l, u.f1.length ≤ 50 ∧ u.f2.length ≤ 50) : Ev (fun k => camshaftref13_Ceilings.f k blocks (l.map tr)) (if ceilOk blocks l = true then ceilingsP blocks l else []) := by
  unfold camshaftref13_Ceilings.f
  by_cases hk : ceilOk blocks l = true
  · obtain ⟨_, h0, h8, _⟩ := ceilOk_parts hk
    rw [if_pos hk, ceilingsP_eq blocks l hk]
    exact evTo (rceilings_l0 blocks hm hu hk h8 blocks.toNat 0 [] (by omega) (by omega) rfl) (by simp)
  · rw [if_neg hk]
    by_cases hb : 0 < blocks
    · refine Ev.step (f := fun k => (camshaftref13_Right.f k blocks (l.map tr)).bind fun t => if t = true then (camshaftref13_ceiling.f k 0 (l.map tr)).bind fun c => (if ([] : List Int).length < 17592186044416 then camshaftref13_Ceilings.l0 k blocks (l.map tr) ([] ++ [c]) (wrap64 (0 + 1)) else none) else some []) (fun k => by
        simp only [camshaftref13_Ceilings.l0]
        rw [if_pos hb]) ?_
      refine Ev.bind (rright_ev blocks hm hu) ?_
      simp only [if_neg hk]
      exact Ev.now _
    · refine Ev.step (f := fun _ => some []) (fun k => by simp only [camshaftref13_Ceilings.l0]; rw [if_neg hb]) ?_
      exact Ev.now _

/-- How long 'own' waits, as the reference asks it. -/
def waitVal (l : List Use) (own : Int) : Int := l.foldl (fun n u => (pairs u).foldl (fun n p => if u.f0 < own then (if ceilVal p.1 l ≥ own then mx n p.2 else n) else n) n) 0
theorem waitOne_eq (blocks : Int) (l : List Use) (hk : ceilOk blocks l = true) (u : Use) : waitOne (ceilingsP blocks l) l u = waitVal l u.f0 := by
  obtain ⟨hu, h0, h8, _⟩ := ceilOk_parts hk
  have hl : ∀ u ∈ l, u.f1.length = u.f2.length := fun u h => (useOk_len (hu u h) h8).2
  unfold waitOne waitVal
  rw [eachOut_fold _ l hl l.length 0 _ (by omega) (by omega)]
  simp only [Int.toNat_zero, List.drop_zero]
  have key : ∀ (m : List Use), (∀ v ∈ m, v ∈ l) → ∀ n : Int, m.foldl (fun s v => (pairs v).foldl (fun s p => waitStp (ceilingsP blocks l) u.f0 v p.1 p.2 s) s) n = m.foldl (fun n v => (pairs v).foldl (fun n p => if v.f0 < u.f0 then (if ceilVal p.1 l ≥ u.f0 then mx n p.2 else n) else n) n) n := by
    intro m
    induction m with
    | nil => intro _ n; rfl
    | cons v m ih =>
      intro hm n
      simp only [List.foldl_cons]
      rw [ih (fun w hw => hm w (List.mem_cons_of_mem _ hw))]
      congr 1
      have hv := hm v List.mem_cons_self
      have key2 : ∀ (ps : List (Int × Int)), (∀ p ∈ ps, p ∈ pairs v) → ∀ n : Int, ps.foldl (fun s p => waitStp (ceilingsP blocks l) u.f0 v p.1 p.2 s) n = ps.foldl (fun n p => if v.f0 < u.f0 then (if ceilVal p.1 l ≥ u.f0 then mx n p.2 else n) else n) n := by
        intro ps
        induction ps with
        | nil => intro _ n; rfl
        | cons p ps ihp =>
          intro hp n
          simp only [List.foldl_cons]
          have hx := useOk_rd (hu v hv) _ (mem_pairs (hp p List.mem_cons_self)).1
          rw [ihp (fun q hq => hp q (List.mem_cons_of_mem _ hq))]
          unfold waitStp
          rw [ceilingsP_rd blocks l hk p.1 hx.1 hx.2]
      exact key2 _ (fun p hp => hp) n
  exact key l (fun _ h => h) 0
theorem waitsP_eq (blocks : Int) (l : List Use) (hk : ceilOk blocks l = true) : waitsP blocks l = l.map fun u => waitVal l u.f0 := by
  unfold waitsP
  exact List.map_congr_left fun u _ => waitOne_eq blocks l hk u
def waitF (l : List Use) (own : Int) : Int → Use → Int := fun n u => (pairs u).foldl (fun n p => if u.f0 < own then (if ceilVal p.1 l ≥ own then mx n p.2 else n) else n) n
theorem drop_pairs (u : Use) (hl : u.f1.length = u.f2.length) (i : Int) (h0 : 0 ≤ i) (h1 : i < u.f1.length) : (pairs u).drop i.toNat = (rd u.f1 i, rd u.f2 i) :: (pairs u).drop (i + 1).toNat := by
  unfold pairs
  rw [List.zip_eq_zipWith, List.drop_zipWith, List.drop_zipWith, ← List.zip_eq_zipWith, ← List.zip_eq_zipWith, drop_rd u.f1 i h0 h1, drop_rd u.f2 i h0 (by omega), List.zip_cons_cons]
theorem rwaits_l1 (blocks : Int) {l : List Use} (hm : l.length ≤ 20) (hu : ∀ u ∈ l, u.f1.length ≤ 50 ∧ u.f2.length ≤ 50) (hl : ∀ u ∈ l, u.f1.length = u.f2.length) (acc : List Int) (ha : acc.length ≤ 20) (i : Int) (h0 : 0 ≤ i) (h1 : i < l.length) (r : List Int)
    (hnext : ∀ n, Ev (fun k => camshaftref13_Waits.l0 k blocks (l.map tr) (acc ++ [n]) (i + 1)) (acc ++ [n] ++ r)) (d : Nat) : ∀ (n j : Int), 0 ≤ j → j + d = l.length → Ev (fun k => camshaftref13_Waits.l1 k blocks (l.map tr) acc i n j) (acc ++ [(l.drop j.toNat).foldl (waitF l (rd_T37 l i).f0) n] ++ r) := by
  have hri := rdR_tr l i h0 h1
  induction d with
  | zero =>
    intro n j h2 h3
    refine Ev.step (f := fun k => camshaftref13_Waits.l0 k blocks (l.map tr) (acc ++ [n]) (i + 1)) (fun k => by
      simp only [camshaftref13_Waits.l1, List.length_map]
      rw [if_neg (by omega), if_pos (by omega), wrap_succ h0 (by omega)]) ?_
    rw [drop_end l j (by omega)]
    exact hnext n
  | succ d ih =>
    intro n j h2 h3
    refine Ev.step (f := fun k => camshaftref13_Waits.l2 k blocks (l.map tr) acc i n j 0) (fun k => by
      simp only [camshaftref13_Waits.l1, List.length_map]
      rw [if_pos (by omega)]) ?_
    have hr := rdR_tr l j h2 (by omega)
    have hmem := rd_use_mem l j h2 (by omega)
    have h50 := (hu _ hmem).1
    have hlu := hl _ hmem
    rw [drop_rdU l j h2 (by omega)]
    simp only [List.foldl_cons]
    generalize rd_T37 l j = u at *
    generalize rd_T37 l i = own at *
    have inner : ∀ (e : Nat) (x n : Int), 0 ≤ x → x + e = u.f1.length → Ev (fun k => camshaftref13_Waits.l2 k blocks (l.map tr) acc i n j x) (acc ++ [(l.drop (j + 1).toNat).foldl (waitF l own.f0) (((pairs u).drop x.toNat).foldl (fun n p => if u.f0 < own.f0 then (if ceilVal p.1 l ≥ own.f0 then mx n p.2 else n) else n) n)] ++ r) := by
      intro e
      induction e with
      | zero =>
        intro x n h4 h5
        refine Ev.step (f := fun k => camshaftref13_Waits.l1 k blocks (l.map tr) acc i n (j + 1)) (fun k => by
          simp only [camshaftref13_Waits.l2, List.length_map]
          rw [if_pos h2, if_pos (by omega), hr, if_neg (by show ¬ x < (u.f1.length : Int); omega), wrap_succ h2 (by omega)]) ?_
        rw [List.drop_eq_nil_of_le (by simp [pairs]; omega)]
        exact ih n (j + 1) (by omega) (by omega)
      | succ e ihe =>
        intro x n h4 h5
        rw [drop_pairs u hlu x h4 (by omega)]
        simp only [List.foldl_cons]
        by_cases c : u.f0 < own.f0
        · refine Ev.step (f := fun k => (camshaftref13_ceiling.f k (rd u.f1 x) (l.map tr)).bind fun t => if t ≥ own.f0 then camshaftref13_Waits.l2 k blocks (l.map tr) acc i (mx n (rd u.f2 x)) j (x + 1) else camshaftref13_Waits.l2 k blocks (l.map tr) acc i n j (x + 1)) (fun k => by
            simp only [camshaftref13_Waits.l2, List.length_map]
            rw [if_pos h2, if_pos (by omega), hr, hri, if_pos (by show x < (u.f1.length : Int); omega), if_pos h0, if_pos (by omega), if_pos (by exact c), if_pos h4, wrap_succ h4 (by omega)]
            simp only [if_pos (show x < ((tr u).f2.length : Int) by show x < (u.f2.length : Int); omega)]
            rfl) ?_
          refine Ev.bind (ceiling_ev _ hm hu) ?_
          simp only [if_pos c]
          by_cases g : ceilVal (rd u.f1 x) l ≥ own.f0
          · simp only [if_pos g]
            have := ihe (x + 1) (mx n (rd u.f2 x)) (by omega) (by omega)
            simpa only [if_pos c] using this
          · simp only [if_neg g]
            have := ihe (x + 1) n (by omega) (by omega)
            simpa only [if_pos c] using this
        · refine Ev.step (f := fun k => camshaftref13_Waits.l2 k blocks (l.map tr) acc i n j (x + 1)) (fun k => by
            simp only [camshaftref13_Waits.l2, List.length_map]
            rw [if_pos h2, if_pos (by omega), hr, hri, if_pos (by show x < (u.f1.length : Int); omega), if_pos h0, if_pos (by omega), if_neg (by exact c), wrap_succ h4 (by omega)]) ?_
          simp only [if_neg c]
          have := ihe (x + 1) n (by omega) (by omega)
          simpa only [if_neg c] using this
    exact inner u.f1.length 0 n (by omega) (by omega)
theorem rwaits_l0 (blocks : Int) {l : List Use} (hm : l.length ≤ 20) (hu : ∀ u ∈ l, u.f1.length ≤ 50 ∧ u.f2.length ≤ 50) (hk : ceilOk blocks l = true) (d : Nat) : ∀ (i : Int) (acc : List Int), 0 ≤ i → i + d = l.length → acc.length = i → Ev (fun k => camshaftref13_Waits.l0 k blocks (l.map tr) acc i) (acc ++ (l.drop i.toNat).map fun u => waitVal l u.f0) := by
  obtain ⟨hu', hb0, h8, _⟩ := ceilOk_parts hk
  have hl : ∀ u ∈ l, u.f1.length = u.f2.length := fun u h => (useOk_len (hu' u h) h8).2
  induction d with
  | zero =>
    intro i acc h0 h1 ha
    refine Ev.step (f := fun k => camshaftref13_Waits.j1 k blocks (l.map tr) acc i false) (fun k => by simp only [camshaftref13_Waits.l0, List.length_map]; rw [if_neg (by omega)]) ?_
    refine Ev.step (f := fun _ => some acc) (fun k => by simp only [camshaftref13_Waits.j1]; rfl) ?_
    rw [drop_end l i (by omega)]
    exact evTo (Ev.now _) (by simp)
  | succ d ih =>
    intro i acc h0 h1 ha
    refine Ev.step (f := fun k => (camshaftref13_Right.f k blocks (l.map tr)).bind fun t => camshaftref13_Waits.j1 k blocks (l.map tr) acc i t) (fun k => by simp only [camshaftref13_Waits.l0, List.length_map]; rw [if_pos (by omega)]) ?_
    refine Ev.bind (rright_ev blocks hm hu) ?_
    rw [hk]
    refine Ev.step (f := fun k => camshaftref13_Waits.l1 k blocks (l.map tr) acc i 0 0) (fun k => by simp only [camshaftref13_Waits.j1, if_true]) ?_
    refine evTo (rwaits_l1 blocks hm hu hl acc (by omega) i h0 (by omega) ((l.drop (i + 1).toNat).map fun u => waitVal l u.f0) (fun n => ih (i + 1) (acc ++ [n]) (by omega) (by omega) (by simp; omega)) l.length 0 0 (by omega) (by omega)) ?_
    rw [drop_rdU l i h0 (by omega)]
    simp only [Int.toNat_zero, List.drop_zero, List.map_cons, List.append_assoc, List.singleton_append]
    rfl
theorem rwaits_ev (blocks : Int) {l : List Use} (hm : l.length ≤ 20) (hu : ∀ u ∈ l, u.f1.length ≤ 50 ∧ u.f2.length ≤ 50) : Ev (fun k => camshaftref13_Waits.f k blocks (l.map tr)) (if ceilOk blocks l = true then waitsP blocks l else []) := by
  unfold camshaftref13_Waits.f
  by_cases hk : ceilOk blocks l = true
  · rw [if_pos hk, waitsP_eq blocks l hk]
    exact evTo (rwaits_l0 blocks hm hu hk l.length 0 [] (by omega) (by omega) rfl) (by simp)
  · rw [if_neg hk]
    by_cases hb : 0 < (l.length : Int)
    · refine Ev.step (f := fun k => (camshaftref13_Right.f k blocks (l.map tr)).bind fun t => camshaftref13_Waits.j1 k blocks (l.map tr) [] 0 t) (fun k => by simp only [camshaftref13_Waits.l0, List.length_map]; rw [if_pos hb]) ?_
      refine Ev.bind (rright_ev blocks hm hu) ?_
      refine Ev.step (f := fun _ => some []) (fun k => by simp only [camshaftref13_Waits.j1]; rw [if_neg hk]) ?_
      exact Ev.now _
    · refine Ev.step (f := fun k => camshaftref13_Waits.j1 k blocks (l.map tr) [] 0 false) (fun k => by simp only [camshaftref13_Waits.l0, List.length_map]; rw [if_neg hb]) ?_
      refine Ev.step (f := fun _ => some []) (fun k => by simp only [camshaftref13_Waits.j1]; rfl) ?_
      exact Ev.now _
theorem ceilingsP_short (blocks : Int) (l : List Use) : (if ceilOk blocks l = true then ceilingsP blocks l else []).length ≤ 1000 := by
  split
  · rename_i h
    have := (ceilOk_parts h).2.2.1
    rw [ceilingsP_length]; omega
  · simp
theorem waitsP_short (blocks : Int) (l : List Use) : (if ceilOk blocks l = true then waitsP blocks l else []).length ≤ 1000 := by
  split
  · rename_i h
    have := (ceilOk_parts h).2.2.2
    simp [waitsP]; omega
  · simp
end Go.Proofs.Ytehmolbalfefjaa.Q
