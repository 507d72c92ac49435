/- A part of the proofs: Plain: straight rows: each instruction is gone through. -/
import Derived.Test.YtmacohlmfghffaaGreatMB6
import Derived.Test.YtmacohlmfghffaaGreatMB5
/- Plain: straight rows: each instruction is gone through. -/
namespace Go.Proofs.Dk
open Go
set_option maxRecDepth 100000
set_option linter.unusedVariables false
set_option linter.unusedSimpArgs false
def capI (v : Int) : Int := if 1048577 < v then 1048577 else v
theorem addI_cap {a b : Int} (ha : 0 ≤ a) (hb : 0 ≤ b) : addI (capI a) (capI b) = capI (a + b) := by unfold addI capI; split <;> split <;> split <;> (try split) <;> omega
theorem loopI_cap {w A : Int} (hw : 0 ≤ w) (hA : 1 ≤ A) : loopI (capI w) A = capI (1 + A * (w + 1)) := by
  have h0 : w + 1 ≤ A * (w + 1) := by
    have := Int.mul_le_mul_of_nonneg_right hA (show 0 ≤ w + 1 by omega)
    omega
  unfold loopI
  by_cases h : w + 1 ≥ 1048577
  · have : addI (capI w) 1 = 1048577 := by unfold addI capI; split <;> split <;> omega
    rw [if_pos this]
    unfold capI
    rw [if_pos (by omega)]
  · have : addI (capI w) 1 = w + 1 := by unfold addI capI; split <;> split <;> omega
    rw [this, if_neg (by omega)]
    unfold addI capI
    rfl
end Go.Proofs.Dk

/- Plain: rows alike but for a loop's rounds. -/
namespace Go.Proofs.Dk
open Go
set_option maxRecDepth 100000
set_option linter.unusedVariables false
set_option linter.unusedSimpArgs false
structure Near (l l' : List Ins) (q : Nat) : Prop where
  len : l'.length = l.length
  else_ : ∀ i, i ≠ q → l'.getD i (0, 0, 0) = l.getD i (0, 0, 0)
  op : opAt l q = 21 ∧ opAt l' q = 21
theorem Near.opAt {l l' : List Ins} {q : Nat} (h : Near l l' q) (i : Nat) : opAt l' i = opAt l i := by
  by_cases e : i = q
  · subst e; rw [h.op.1, h.op.2]
  · unfold Go.Proofs.Dk.opAt; rw [h.else_ i e]
theorem Near.scanStep {l l' : List Ins} {q : Nat} (h : Near l l' q) (i : Nat) (m hh : List Int) (op : List (Int × Ins)) : scanStep (l'.getD i (0, 0, 0)) i m hh op = scanStep (l.getD i (0, 0, 0)) i m hh op := by
  by_cases e : i = q
  · subst e
    have h1 : (l.getD i (0, 0, 0)).1 = 21 := h.op.1
    have h2 : (l'.getD i (0, 0, 0)).1 = 21 := h.op.2
    unfold Go.Proofs.Dk.scanStep ends
    simp only [h1, h2, true_or, if_true]
  · rw [h.else_ i e]
theorem Near.scanS {l l' : List Ins} {q : Nat} (h : Near l l' q) : ∀ (r i : Nat) (m hh : List Int) (op : List (Int × Ins)), scanS l' r i m hh op = scanS l r i m hh op
  | 0, i, m, hh, op => rfl
  | r + 1, i, m, hh, op => by
    unfold Go.Proofs.Dk.scanS
    rw [h.scanStep]
    split
    · exact Near.scanS h r _ _ _ _
    · rfl
theorem Near.scanI {l l' : List Ins} {q : Nat} (h : Near l l' q) (h1 : (scanI l).2.2 = 0) (h2 : (Go.Proofs.Dk.scanI l').2.2 = 0) : Go.Proofs.Dk.scanI l' = Go.Proofs.Dk.scanI l := by
  have r1 := (scanI_nest h1).row
  have r2 := (scanI_nest h2).row
  unfold Go.Proofs.Dk.scanI
  rw [if_pos r1, if_pos r2, h.len, h.scanS]
theorem arg21 {l : List Ins} {i : Nat} (hr : rightI (l.getD i (0, 0, 0)) = true) (e : opAt l i = 21) : 1 ≤ argA l i ∧ argA l i ≤ 1000 := by
  rw [show l.getD i (0, 0, 0) = (21, argA l i, (l.getD i (0, 0, 0)).2.2) from by rw [← e]] at hr
  exact right21 hr
end Go.Proofs.Dk

/- Plain: how often each instruction can still come. -/
namespace Go.Proofs.Dk
open Go
set_option maxRecDepth 100000
set_option linter.unusedVariables false
set_option linter.unusedSimpArgs false
def prodA (A : Nat → Int) : List Nat → Int
  | [] => 1
  | k :: js => A k * prodA A js
theorem prodA_pos {A : Nat → Int} : ∀ {js : List Nat}, (∀ k ∈ js, 1 ≤ A k) → 1 ≤ prodA A js
  | [], _ => Int.le_refl _
  | k :: js, h => by
    have h1 := h k (List.mem_cons_self ..)
    have h2 := prodA_pos (js := js) fun q hq => h q (List.mem_cons_of_mem _ hq)
    unfold prodA
    have := Int.mul_le_mul h1 h2 (by omega) (by omega)
    omega
def vis (A : Nat → Int) : List Nat → List (Nat × Int) → Int → Int → Int
  | k :: js, (k', r) :: is, b, S => if k = k' then vis A js is b (S * A k + (r - 1)) else (b + S) * prodA A (k :: js)
  | js, _, b, S => (b + S) * prodA A js
theorem vis_nil (A : Nat → Int) (js : List Nat) (b S : Int) : vis A js [] b S = (b + S) * prodA A js := by
  cases js <;> rfl
theorem vis_nil2 (A : Nat → Int) (is : List (Nat × Int)) (b S : Int) : vis A [] is b S = b + S := by
  cases is <;> simp [vis, prodA]
theorem vis_nn {A : Nat → Int} : ∀ {js : List Nat} {is : List (Nat × Int)} {b S : Int}, (∀ k ∈ js, 1 ≤ A k) → (∀ e ∈ is, 1 ≤ e.2) → 0 ≤ b → 0 ≤ S → 0 ≤ vis A js is b S
  | js, [], b, S, hA, hr, hb, hS => by
    rw [vis_nil]
    exact Int.mul_nonneg (by omega) (by have := prodA_pos hA; omega)
  | [], e :: is, b, S, hA, hr, hb, hS => by rw [vis_nil2]; omega
  | k :: js, (k', r) :: is, b, S, hA, hr, hb, hS => by
    unfold vis
    split
    · have h1 := hr (k', r) (List.mem_cons_self ..)
      have h2 := hA k (List.mem_cons_self ..)
      have h3 : 0 ≤ S * A k := Int.mul_nonneg hS (by omega)
      exact vis_nn (fun q hq => hA q (List.mem_cons_of_mem _ hq)) (fun e he => hr e (List.mem_cons_of_mem _ he)) hb (by simp only at h1; omega)
    · exact Int.mul_nonneg (by omega) (by have := prodA_pos hA; omega)
theorem vis_all {A : Nat → Int} : ∀ {is : List (Nat × Int)} {js : List Nat} {b S : Int}, js = is.map (·.1) → ∃ T, ∀ b, vis A js is b S = b + T
  | [], js, b, S, h => by subst h; exact ⟨S, fun b => by rw [List.map_nil, vis_nil]; simp [prodA]⟩
  | (k, r) :: is, js, b, S, h => by
    subst h
    obtain ⟨T, hT⟩ := vis_all (A := A) (is := is) (b := b) (S := S * A k + (r - 1)) rfl
    refine ⟨T, fun b => ?_⟩
    rw [List.map_cons]
    unfold vis
    rw [if_pos rfl]
    exact hT b
theorem vis_mono {A : Nat → Int} : ∀ {js : List Nat} {is : List (Nat × Int)} {b b' S : Int}, (∀ k ∈ js, 1 ≤ A k) → b' ≤ b → vis A js is b' S ≤ vis A js is b S
  | js, [], b, b', S, hA, hb => by
    rw [vis_nil, vis_nil]
    exact Int.mul_le_mul_of_nonneg_right (by omega) (by have := prodA_pos hA; omega)
  | [], e :: is, b, b', S, hA, hb => by rw [vis_nil2, vis_nil2]; omega
  | k :: js, (k', r) :: is, b, b', S, hA, hb => by
    unfold vis
    split
    · exact vis_mono (fun q hq => hA q (List.mem_cons_of_mem _ hq)) hb
    · exact Int.mul_le_mul_of_nonneg_right (by omega) (by have := prodA_pos hA; omega)
theorem vis_in {A : Nat → Int} : ∀ (il : List (Nat × Int)) (k : Nat) (rest : List Nat) (S : Int), ∃ T, 0 ≤ T + 0 * S ∨ True → ∀ (r b : Int), vis A (il.map (·.1) ++ k :: rest) (il ++ [(k, r)]) b S = (b + (T * A k + (r - 1))) * prodA A rest ∧ vis A (il.map (·.1) ++ k :: rest) il b S = (b + T) * (A k * prodA A rest)
  | [], k, rest, S => ⟨S, fun _ r b => by
      simp only [List.map_nil, List.nil_append]
      refine ⟨?_, ?_⟩
      · unfold vis
        rw [if_pos rfl, vis_nil]
      · rw [vis_nil]; rfl⟩
  | (k0, r0) :: il, k, rest, S => by
    obtain ⟨T, hT⟩ := vis_in (A := A) il k rest (S * A k0 + (r0 - 1))
    refine ⟨T, fun _ r b => ?_⟩
    obtain ⟨h1, h2⟩ := hT (.inr trivial) r b
    simp only [List.map_cons, List.cons_append]
    refine ⟨?_, ?_⟩
    · unfold vis
      rw [if_pos rfl]
      exact h1
    · unfold vis
      rw [if_pos rfl]
      exact h2
theorem vis_out {A : Nat → Int} : ∀ (il : List (Nat × Int)) (js : List Nat) (k : Nat) (r b S : Int), k ∉ js → vis A js (il ++ [(k, r)]) b S = vis A js il b S
  | [], [], k, r, b, S, h => by rw [vis_nil2, vis_nil]; simp [prodA]
  | [], j :: js, k, r, b, S, h => by
    rw [vis_nil, List.nil_append]
    unfold vis
    rw [if_neg (fun (e : j = k) => h (by rw [e]; exact List.mem_cons_self ..))]
  | (k0, r0) :: il, [], k, r, b, S, h => by rw [vis_nil2, vis_nil2]
  | (k0, r0) :: il, j :: js, k, r, b, S, h => by
    rw [List.cons_append]
    unfold vis
    split
    · exact vis_out il js k r b _ fun hk => h (List.mem_cons_of_mem _ hk)
    · rfl
theorem lps_chain {l : List Ins} {m h : List Int} (hF : Fine l m h) {k j : Nat} (hk : k ∈ lps l m j) : ∃ rest, lps l m j = lps l m k ++ k :: rest := by
  obtain ⟨h1, h2⟩ := lps_mem hk
  have hkj := (enc_open h1).1
  have hko := (enc_open h1).2
  obtain ⟨z, z1, z2, z3⟩ := hF.nest.open_ k (open_lt hko) hko
  have hkz := (enc_iff hko z1).1 h1
  refine ⟨(List.range' (k + 1) (j - (k + 1))).filter fun q => enc l m q j && opAt l q == 21, ?_⟩
  unfold lps
  have e : List.range j = List.range k ++ k :: List.range' (k + 1) (j - (k + 1)) := by
    rw [List.range_eq_range', List.range_eq_range', ← List.range'_succ, show j - (k + 1) + 1 = j - k by omega]
    have := List.range'_append_1 (s := 0) (m := k) (n := j - k)
    rw [Nat.zero_add] at this
    rw [this]
    congr 1
    omega
  rw [e, List.filter_append, List.filter_cons, h1, h2]
  congr 1
  apply List.filter_congr
  intro x hx
  rw [List.mem_range] at hx
  congr 1
  apply bool_iff
  by_cases hxo : isOpen l x = true
  · obtain ⟨y, y1, y2, y3⟩ := hF.nest.open_ x (open_lt hxo) hxo
    rw [enc_iff hxo y1, enc_iff hxo y1]
    refine ⟨fun ⟨a1, a2⟩ => ⟨hx, by omega⟩, fun ⟨a1, a2⟩ => ⟨by omega, ?_⟩⟩
    have hyk : y ≠ k := fun hc => by
      have := hF.nest.clos x y (open_lt hxo) hxo y1
      rw [hc, hko] at this; cases this
    obtain ⟨q, q1, q2⟩ := hF.nest.cross x k y hx (by omega) (open_lt hxo) hxo hko y1
    rw [z1] at q1
    omega
  · exact ⟨fun h => absurd (enc_open h).2 hxo, fun h => absurd (enc_open h).2 hxo⟩
def sumI (f : Nat → Int) : Nat → Int
  | 0 => 0
  | n + 1 => sumI f n + f n
theorem sumI_le {f g : Nat → Int} : ∀ {n : Nat}, (∀ j, j < n → f j ≤ g j) → sumI f n ≤ sumI g n
  | 0, _ => Int.le_refl _
  | n + 1, h => by
    have h1 := sumI_le (n := n) fun j hj => h j (by omega)
    have h2 := h n (by omega)
    unfold sumI
    omega
theorem sumI_lt {f g : Nat → Int} {i : Nat} : ∀ {n : Nat}, i < n → (∀ j, j < n → f j ≤ g j) → f i + 1 ≤ g i → sumI f n + 1 ≤ sumI g n
  | 0, h, _, _ => by omega
  | n + 1, hi, h, h1 => by
    unfold sumI
    by_cases e : i = n
    · subst e
      have h2 := sumI_le (n := i) fun j hj => h j (by omega)
      omega
    · have h2 := sumI_lt (n := n) (by omega) (fun j hj => h j (by omega)) h1
      have h3 := h n (by omega)
      omega
theorem sumI_nn {f : Nat → Int} : ∀ {n : Nat}, (∀ j, j < n → 0 ≤ f j) → 0 ≤ sumI f n
  | 0, _ => Int.le_refl _
  | n + 1, h => by
    have h1 := sumI_nn (n := n) fun j hj => h j (by omega)
    have h2 := h n (by omega)
    unfold sumI
    omega
def visJ (l : List Ins) (m : List Int) (i : Nat) (rs : List (Nat × Int)) (j : Nat) : Int := vis (argA l) (lps l m j) rs (if i ≤ j then 1 else 0) 0
def phi (l : List Ins) (m : List Int) (i : Nat) (rs : List (Nat × Int)) : Int := sumI (visJ l m i rs) l.length
theorem lps_arg {l : List Ins} {m h : List Int} (hF : Fine l m h) (j : Nat) : ∀ k ∈ lps l m j, 1 ≤ argA l k := fun k hk => by
  obtain ⟨h1, h2⟩ := lps_mem hk
  exact (arg21 (hF.right (open_lt (enc_open h1).2)) h2).1
theorem visJ_nn {l : List Ins} {m h : List Int} (hF : Fine l m h) {i : Nat} {rs : List (Nat × Int)} (hr : ∀ e ∈ rs, 1 ≤ e.2) (j : Nat) : 0 ≤ visJ l m i rs j :=
  vis_nn (lps_arg hF j) hr (by split <;> decide) (by decide)
theorem phi_nn {l : List Ins} {m h : List Int} (hF : Fine l m h) {i : Nat} {rs : List (Nat × Int)} (hr : ∀ e ∈ rs, 1 ≤ e.2) : 0 ≤ phi l m i rs := sumI_nn fun j _ => visJ_nn hF hr j
theorem phi_on {l : List Ins} {m h : List Int} (hF : Fine l m h) {i q : Nat} (hi : i < l.length) (hq : i < q) {rs : List (Nat × Int)} (he : rs.map (·.1) = lps l m i) : phi l m q rs + 1 ≤ phi l m i rs := by
  refine sumI_lt hi (fun j hj => ?_) ?_
  · exact vis_mono (lps_arg hF j) (by split <;> split <;> omega)
  · unfold visJ
    obtain ⟨T, hT⟩ := vis_all (A := argA l) (is := rs) (js := lps l m i) (b := 0) (S := 0) he.symm
    rw [hT, hT, if_pos (Nat.le_refl _), if_neg (by omega)]
    omega
theorem in_after {l : List Ins} {m : List Int} {k j : Nat} (h : k ∈ lps l m j) : k + 1 ≤ j := (enc_open (lps_mem h).1).1
theorem phi_loop {l : List Ins} {m h : List Int} (hF : Fine l m h) {i : Nat} (hi : i < l.length) {rs : List (Nat × Int)} (he : rs.map (·.1) = lps l m i) : phi l m (i + 1) (rs ++ [(i, argA l i)]) + 1 ≤ phi l m i rs := by
  have hni : i ∉ lps l m i := fun h => by have := in_after h; omega
  refine sumI_lt hi (fun j hj => ?_) ?_
  · unfold visJ
    by_cases hk : i ∈ lps l m j
    · obtain ⟨rest, hr⟩ := lps_chain hF hk
      have hj := in_after hk
      rw [hr, ← he]
      obtain ⟨T, hT⟩ := vis_in (A := argA l) rs i rest 0
      obtain ⟨h1, h2⟩ := hT (.inr trivial) (argA l i) 1
      rw [if_pos (by omega), if_pos (by omega), h1, h2, ← Int.mul_assoc]
      refine Int.le_of_eq (congrArg (· * _) ?_)
      rw [Int.add_mul]
      omega
    · rw [vis_out rs _ i _ _ _ hk]
      exact vis_mono (lps_arg hF j) (by split <;> split <;> omega)
  · unfold visJ
    rw [vis_out rs _ i _ _ _ hni]
    obtain ⟨T, hT⟩ := vis_all (A := argA l) (is := rs) (js := lps l m i) (b := 0) (S := 0) he.symm
    rw [hT, hT, if_pos (Nat.le_refl _), if_neg (by omega)]
    omega
theorem phi_next {l : List Ins} {m h : List Int} (hF : Fine l m h) {i k : Nat} (hi : i < l.length) (hki : k < i) (hk21 : opAt l k = 21) (hm : m.getD k 0 = (i : Int)) (e1 : lps l m i = lps l m k ++ [k]) {rs : List (Nat × Int)} (he : rs.map (·.1) = lps l m k) {r : Int} :
    phi l m (k + 1) (rs ++ [(k, r - 1)]) + 1 ≤ phi l m i (rs ++ [(k, r)]) ∧ (r = 1 → phi l m (i + 1) rs + 1 ≤ phi l m i (rs ++ [(k, r)])) := by
  have hko := isOpen_op (.inl hk21)
  have hin : ∀ j, k ∈ lps l m j ↔ k + 1 ≤ j ∧ j ≤ i := fun j => by
    constructor
    · intro h
      have := (enc_iff hko hm).1 (lps_mem h).1
      omega
    · intro hj
      unfold lps
      rw [List.mem_filter, List.mem_range, (enc_iff hko hm).2 ⟨by omega, by omega⟩, hk21]
      exact ⟨by omega, rfl⟩
  have hkey : ∀ j, k ∈ lps l m j → ∃ rest T, 1 ≤ prodA (argA l) rest ∧ ∀ r b : Int, vis (argA l) (lps l m j) (rs ++ [(k, r)]) b 0 = (b + (T * argA l k + (r - 1))) * prodA (argA l) rest ∧ vis (argA l) (lps l m j) rs b 0 = (b + T) * (argA l k * prodA (argA l) rest) := fun j hk => by
    obtain ⟨rest, hr⟩ := lps_chain hF hk
    obtain ⟨T, hT⟩ := vis_in (A := argA l) rs k rest 0
    refine ⟨rest, T, prodA_pos fun q hq => lps_arg hF j q (by rw [hr]; exact List.mem_append_right _ (List.mem_cons_of_mem _ hq)), fun r b => ?_⟩
    rw [hr, ← he]
    exact hT (.inr trivial) r b
  have hi2 : k ∈ lps l m i := (hin i).2 ⟨by omega, Nat.le_refl _⟩
  have hkey2 : ∃ T, ∀ r b : Int, vis (argA l) (lps l m i) (rs ++ [(k, r)]) b 0 = b + (T * argA l k + (r - 1)) ∧ vis (argA l) (lps l m i) rs b 0 = (b + T) * argA l k := by
    obtain ⟨T, hT⟩ := vis_in (A := argA l) rs k [] 0
    refine ⟨T, fun r b => ?_⟩
    rw [e1, ← he]
    have := hT (.inr trivial) r b
    simp only [prodA, Int.mul_one] at this
    exact this
  refine ⟨sumI_lt hi (fun j hj => ?_) ?_, fun hr1 => sumI_lt hi (fun j hj => ?_) ?_⟩
  · unfold visJ
    by_cases hk : k ∈ lps l m j
    · obtain ⟨rest, T, hp, hT⟩ := hkey j hk
      have := (hin j).1 hk
      rw [(hT _ _).1, (hT _ _).1]
      refine Int.mul_le_mul_of_nonneg_right ?_ (by omega)
      rw [if_pos (by omega)]
      split <;> omega
    · rw [vis_out rs _ k _ _ _ hk, vis_out rs _ k _ _ _ hk]
      refine vis_mono (lps_arg hF j) ?_
      have : ¬ (k + 1 ≤ j ∧ j ≤ i) := fun h => hk ((hin j).2 h)
      split <;> split <;> omega
  · unfold visJ
    obtain ⟨T, hT⟩ := hkey2
    rw [(hT _ _).1, (hT _ _).1, if_pos (by omega), if_pos (Nat.le_refl _)]
    omega
  · subst hr1
    unfold visJ
    by_cases hk : k ∈ lps l m j
    · obtain ⟨rest, T, hp, hT⟩ := hkey j hk
      have := (hin j).1 hk
      rw [(hT 1 _).2, (hT 1 _).1, ← Int.mul_assoc]
      refine Int.mul_le_mul_of_nonneg_right ?_ (by omega)
      rw [if_neg (by omega), Int.zero_add]
      split <;> omega
    · rw [vis_out rs _ k _ _ _ hk]
      refine vis_mono (lps_arg hF j) ?_
      split <;> split <;> omega
  · subst hr1
    unfold visJ
    obtain ⟨T, hT⟩ := hkey2
    rw [(hT 1 _).2, (hT 1 _).1, if_neg (by omega), if_pos (Nat.le_refl _), Int.zero_add]
    omega
end Go.Proofs.Dk

/- Plain: what a step does, operation by operation. -/
namespace Go.Proofs.Dk
open Go
set_option maxRecDepth 100000
set_option linter.unusedVariables false
set_option linter.unusedSimpArgs false
theorem stp1 (n : Nat) {v1 : List Ins} {v2 : List Int} {v3 : List Int} {v5 : Int} {v6 : List Int} {v7 : List Int} {v8 : List Int} {v9 : List Int} {v10 : Int} {v11 : List Int} {v12 : Int} {v13 : Int} {v14 : Int} {v15 : List (List Int)} {A B : Int} (h0 : decide ((v1.length : Int) > 0) = true) (hi : (decide (0 ≤ v5) && decide (v5 < (v1.length : Int))) = true) (hx : v1.getD v5.toNat ((0 : Int), ((0 : Int), (0 : Int))) = (1, A, B)) : Kq5.f n v1 v2 v3 true v5 v6 v7 v8 v9 v10 v11 v12 v13 v14 v15 = ((if (decide ((v6.length + 1) * 8 ≤ 140737488355328) && decide (1 ≤ 8)) then (some ((0, 0), 0, v1, v2, v3, true, (IntKind.wrap .i64 (v5 + 1)), (v6 ++ [A]), v7, v8, v9, v10, v11, v12, v13, (IntKind.wrap .i64 (v14 + 1)), v15)) else none)) := by
  unfold Kq5.f
  rw [h0, if_neg (by decide), if_neg (by decide), if_pos hi, hx]
  kernel_rfl
theorem stp2 (n : Nat) {v1 : List Ins} {v2 : List Int} {v3 : List Int} {v5 : Int} {v6 : List Int} {v7 : List Int} {v8 : List Int} {v9 : List Int} {v10 : Int} {v11 : List Int} {v12 : Int} {v13 : Int} {v14 : Int} {v15 : List (List Int)} {A B : Int} (h0 : decide ((v1.length : Int) > 0) = true) (hi : (decide (0 ≤ v5) && decide (v5 < (v1.length : Int))) = true) (hx : v1.getD v5.toNat ((0 : Int), ((0 : Int), (0 : Int))) = (2, A, B)) : Kq5.f n v1 v2 v3 true v5 v6 v7 v8 v9 v10 v11 v12 v13 v14 v15 = (((Kq9.f n v1 v2 v3 true v5 v6 v7 v8 v9 v10 v11 v12 v13 v14).bind fun y35 => (some ((0, 0), 0, y35.2.1, y35.2.2.1, y35.2.2.2.1, y35.2.2.2.2.1, (IntKind.wrap .i64 (v5 + 1)), y35.2.2.2.2.2.2.1, y35.2.2.2.2.2.2.2.1, y35.2.2.2.2.2.2.2.2.1, y35.2.2.2.2.2.2.2.2.2.1, y35.2.2.2.2.2.2.2.2.2.2.1, y35.2.2.2.2.2.2.2.2.2.2.2.1, y35.2.2.2.2.2.2.2.2.2.2.2.2.1, y35.2.2.2.2.2.2.2.2.2.2.2.2.2.1, (IntKind.wrap .i64 (y35.2.2.2.2.2.2.2.2.2.2.2.2.2.2 + 1)), v15)))) := by
  unfold Kq5.f
  rw [h0, if_neg (by decide), if_neg (by decide), if_pos hi, hx]
  kernel_rfl
theorem stp3 (n : Nat) {v1 : List Ins} {v2 : List Int} {v3 : List Int} {v5 : Int} {v6 : List Int} {v7 : List Int} {v8 : List Int} {v9 : List Int} {v10 : Int} {v11 : List Int} {v12 : Int} {v13 : Int} {v14 : Int} {v15 : List (List Int)} {A B : Int} (h0 : decide ((v1.length : Int) > 0) = true) (hi : (decide (0 ≤ v5) && decide (v5 < (v1.length : Int))) = true) (hx : v1.getD v5.toNat ((0 : Int), ((0 : Int), (0 : Int))) = (3, A, B)) : Kq5.f n v1 v2 v3 true v5 v6 v7 v8 v9 v10 v11 v12 v13 v14 v15 = ((if (decide (0 ≤ (IntKind.wrap .i64 ((v6.length : Int) - 1))) && decide ((IntKind.wrap .i64 ((v6.length : Int) - 1)) < (v6.length : Int))) then (if (decide ((v6.length + 1) * 8 ≤ 140737488355328) && decide (1 ≤ 8)) then (some ((0, 0), 0, v1, v2, v3, true, (IntKind.wrap .i64 (v5 + 1)), (v6 ++ [(v6.getD ((IntKind.wrap .i64 ((v6.length : Int) - 1))).toNat (0 : Int))]), v7, v8, v9, v10, v11, v12, v13, (IntKind.wrap .i64 (v14 + 1)), v15)) else none) else none)) := by
  unfold Kq5.f
  rw [h0, if_neg (by decide), if_neg (by decide), if_pos hi, hx]
  kernel_rfl
theorem stp4 (n : Nat) {v1 : List Ins} {v2 : List Int} {v3 : List Int} {v5 : Int} {v6 : List Int} {v7 : List Int} {v8 : List Int} {v9 : List Int} {v10 : Int} {v11 : List Int} {v12 : Int} {v13 : Int} {v14 : Int} {v15 : List (List Int)} {A B : Int} (h0 : decide ((v1.length : Int) > 0) = true) (hi : (decide (0 ≤ v5) && decide (v5 < (v1.length : Int))) = true) (hx : v1.getD v5.toNat ((0 : Int), ((0 : Int), (0 : Int))) = (4, A, B)) : Kq5.f n v1 v2 v3 true v5 v6 v7 v8 v9 v10 v11 v12 v13 v14 v15 = (((Kq9.f n v1 v2 v3 true v5 v6 v7 v8 v9 v10 v11 v12 v13 v14).bind fun y33 => ((Kq9.f n y33.2.1 y33.2.2.1 y33.2.2.2.1 y33.2.2.2.2.1 y33.2.2.2.2.2.1 y33.2.2.2.2.2.2.1 y33.2.2.2.2.2.2.2.1 y33.2.2.2.2.2.2.2.2.1 y33.2.2.2.2.2.2.2.2.2.1 y33.2.2.2.2.2.2.2.2.2.2.1 y33.2.2.2.2.2.2.2.2.2.2.2.1 y33.2.2.2.2.2.2.2.2.2.2.2.2.1 y33.2.2.2.2.2.2.2.2.2.2.2.2.2.1 y33.2.2.2.2.2.2.2.2.2.2.2.2.2.2).bind fun y34 => (if (decide ((y34.2.2.2.2.2.2.1.length + 1) * 8 ≤ 140737488355328) && decide (1 ≤ 8)) then (if (decide (((y34.2.2.2.2.2.2.1 ++ [y33.1]).length + 1) * 8 ≤ 140737488355328) && decide (1 ≤ 8)) then (some ((0, 0), 0, y34.2.1, y34.2.2.1, y34.2.2.2.1, y34.2.2.2.2.1, (IntKind.wrap .i64 (v5 + 1)), ((y34.2.2.2.2.2.2.1 ++ [y33.1]) ++ [y34.1]), y34.2.2.2.2.2.2.2.1, y34.2.2.2.2.2.2.2.2.1, y34.2.2.2.2.2.2.2.2.2.1, y34.2.2.2.2.2.2.2.2.2.2.1, y34.2.2.2.2.2.2.2.2.2.2.2.1, y34.2.2.2.2.2.2.2.2.2.2.2.2.1, y34.2.2.2.2.2.2.2.2.2.2.2.2.2.1, (IntKind.wrap .i64 (y34.2.2.2.2.2.2.2.2.2.2.2.2.2.2 + 1)), v15)) else none) else none)))) := by
  unfold Kq5.f
  rw [h0, if_neg (by decide), if_neg (by decide), if_pos hi, hx]
  kernel_rfl
theorem stp5 (n : Nat) {v1 : List Ins} {v2 : List Int} {v3 : List Int} {v5 : Int} {v6 : List Int} {v7 : List Int} {v8 : List Int} {v9 : List Int} {v10 : Int} {v11 : List Int} {v12 : Int} {v13 : Int} {v14 : Int} {v15 : List (List Int)} {A B : Int} (h0 : decide ((v1.length : Int) > 0) = true) (hi : (decide (0 ≤ v5) && decide (v5 < (v1.length : Int))) = true) (hx : v1.getD v5.toNat ((0 : Int), ((0 : Int), (0 : Int))) = (5, A, B)) : Kq5.f n v1 v2 v3 true v5 v6 v7 v8 v9 v10 v11 v12 v13 v14 v15 = (((Kq9.f n v1 v2 v3 true v5 v6 v7 v8 v9 v10 v11 v12 v13 v14).bind fun y29 => ((Kq9.f n y29.2.1 y29.2.2.1 y29.2.2.2.1 y29.2.2.2.2.1 y29.2.2.2.2.2.1 y29.2.2.2.2.2.2.1 y29.2.2.2.2.2.2.2.1 y29.2.2.2.2.2.2.2.2.1 y29.2.2.2.2.2.2.2.2.2.1 y29.2.2.2.2.2.2.2.2.2.2.1 y29.2.2.2.2.2.2.2.2.2.2.2.1 y29.2.2.2.2.2.2.2.2.2.2.2.2.1 y29.2.2.2.2.2.2.2.2.2.2.2.2.2.1 y29.2.2.2.2.2.2.2.2.2.2.2.2.2.2).bind fun y30 => ((num_Two.f n (A) y30.1 y29.1).bind fun y31 => ((num_Bool.f n y31.2).bind fun y32 => (if (decide ((y30.2.2.2.2.2.2.1.length + 1) * 8 ≤ 140737488355328) && decide (1 ≤ 8)) then (some ((0, 0), 0, y30.2.1, y30.2.2.1, y30.2.2.2.1, y30.2.2.2.2.1, (IntKind.wrap .i64 (v5 + 1)), (y30.2.2.2.2.2.2.1 ++ [y31.1]), y30.2.2.2.2.2.2.2.1, y30.2.2.2.2.2.2.2.2.1, y30.2.2.2.2.2.2.2.2.2.1, y30.2.2.2.2.2.2.2.2.2.2.1, y30.2.2.2.2.2.2.2.2.2.2.2.1, y30.2.2.2.2.2.2.2.2.2.2.2.2.1, (IntKind.wrap .i64 (y30.2.2.2.2.2.2.2.2.2.2.2.2.2.1 + y32)), (IntKind.wrap .i64 (y30.2.2.2.2.2.2.2.2.2.2.2.2.2.2 + 1)), v15)) else none)))))) := by
  unfold Kq5.f
  rw [h0, if_neg (by decide), if_neg (by decide), if_pos hi, hx]
  kernel_rfl
theorem stp6 (n : Nat) {v1 : List Ins} {v2 : List Int} {v3 : List Int} {v5 : Int} {v6 : List Int} {v7 : List Int} {v8 : List Int} {v9 : List Int} {v10 : Int} {v11 : List Int} {v12 : Int} {v13 : Int} {v14 : Int} {v15 : List (List Int)} {A B : Int} (h0 : decide ((v1.length : Int) > 0) = true) (hi : (decide (0 ≤ v5) && decide (v5 < (v1.length : Int))) = true) (hx : v1.getD v5.toNat ((0 : Int), ((0 : Int), (0 : Int))) = (6, A, B)) : Kq5.f n v1 v2 v3 true v5 v6 v7 v8 v9 v10 v11 v12 v13 v14 v15 = (((Kq9.f n v1 v2 v3 true v5 v6 v7 v8 v9 v10 v11 v12 v13 v14).bind fun y27 => ((num_Neg.f n y27.1).bind fun y28 => (if (decide ((y27.2.2.2.2.2.2.1.length + 1) * 8 ≤ 140737488355328) && decide (1 ≤ 8)) then (some ((0, 0), 0, y27.2.1, y27.2.2.1, y27.2.2.2.1, y27.2.2.2.2.1, (IntKind.wrap .i64 (v5 + 1)), (y27.2.2.2.2.2.2.1 ++ [y28]), y27.2.2.2.2.2.2.2.1, y27.2.2.2.2.2.2.2.2.1, y27.2.2.2.2.2.2.2.2.2.1, y27.2.2.2.2.2.2.2.2.2.2.1, y27.2.2.2.2.2.2.2.2.2.2.2.1, y27.2.2.2.2.2.2.2.2.2.2.2.2.1, y27.2.2.2.2.2.2.2.2.2.2.2.2.2.1, (IntKind.wrap .i64 (y27.2.2.2.2.2.2.2.2.2.2.2.2.2.2 + 1)), v15)) else none)))) := by
  unfold Kq5.f
  rw [h0, if_neg (by decide), if_neg (by decide), if_pos hi, hx]
  kernel_rfl
theorem stp7 (n : Nat) {v1 : List Ins} {v2 : List Int} {v3 : List Int} {v5 : Int} {v6 : List Int} {v7 : List Int} {v8 : List Int} {v9 : List Int} {v10 : Int} {v11 : List Int} {v12 : Int} {v13 : Int} {v14 : Int} {v15 : List (List Int)} {A B : Int} (h0 : decide ((v1.length : Int) > 0) = true) (hi : (decide (0 ≤ v5) && decide (v5 < (v1.length : Int))) = true) (hx : v1.getD v5.toNat ((0 : Int), ((0 : Int), (0 : Int))) = (7, A, B)) : Kq5.f n v1 v2 v3 true v5 v6 v7 v8 v9 v10 v11 v12 v13 v14 v15 = (((Kq9.f n v1 v2 v3 true v5 v6 v7 v8 v9 v10 v11 v12 v13 v14).bind fun y25 => ((num_Not.f n y25.1).bind fun y26 => (if (decide ((y25.2.2.2.2.2.2.1.length + 1) * 8 ≤ 140737488355328) && decide (1 ≤ 8)) then (some ((0, 0), 0, y25.2.1, y25.2.2.1, y25.2.2.2.1, y25.2.2.2.2.1, (IntKind.wrap .i64 (v5 + 1)), (y25.2.2.2.2.2.2.1 ++ [y26]), y25.2.2.2.2.2.2.2.1, y25.2.2.2.2.2.2.2.2.1, y25.2.2.2.2.2.2.2.2.2.1, y25.2.2.2.2.2.2.2.2.2.2.1, y25.2.2.2.2.2.2.2.2.2.2.2.1, y25.2.2.2.2.2.2.2.2.2.2.2.2.1, y25.2.2.2.2.2.2.2.2.2.2.2.2.2.1, (IntKind.wrap .i64 (y25.2.2.2.2.2.2.2.2.2.2.2.2.2.2 + 1)), v15)) else none)))) := by
  unfold Kq5.f
  rw [h0, if_neg (by decide), if_neg (by decide), if_pos hi, hx]
  kernel_rfl
theorem stp8 (n : Nat) {v1 : List Ins} {v2 : List Int} {v3 : List Int} {v5 : Int} {v6 : List Int} {v7 : List Int} {v8 : List Int} {v9 : List Int} {v10 : Int} {v11 : List Int} {v12 : Int} {v13 : Int} {v14 : Int} {v15 : List (List Int)} {A B : Int} (h0 : decide ((v1.length : Int) > 0) = true) (hi : (decide (0 ≤ v5) && decide (v5 < (v1.length : Int))) = true) (hx : v1.getD v5.toNat ((0 : Int), ((0 : Int), (0 : Int))) = (8, A, B)) : Kq5.f n v1 v2 v3 true v5 v6 v7 v8 v9 v10 v11 v12 v13 v14 v15 = (((Kq9.f n v1 v2 v3 true v5 v6 v7 v8 v9 v10 v11 v12 v13 v14).bind fun y23 => ((Kq9.f n y23.2.1 y23.2.2.1 y23.2.2.2.1 y23.2.2.2.2.1 y23.2.2.2.2.2.1 y23.2.2.2.2.2.2.1 y23.2.2.2.2.2.2.2.1 y23.2.2.2.2.2.2.2.2.1 y23.2.2.2.2.2.2.2.2.2.1 y23.2.2.2.2.2.2.2.2.2.2.1 y23.2.2.2.2.2.2.2.2.2.2.2.1 y23.2.2.2.2.2.2.2.2.2.2.2.2.1 y23.2.2.2.2.2.2.2.2.2.2.2.2.2.1 y23.2.2.2.2.2.2.2.2.2.2.2.2.2.2).bind fun y24 => (if (decide ((y24.2.2.2.2.2.2.1.length + 1) * 8 ≤ 140737488355328) && decide (1 ≤ 8)) then (some ((0, 0), 0, y24.2.1, y24.2.2.1, y24.2.2.2.1, y24.2.2.2.2.1, (IntKind.wrap .i64 (v5 + 1)), (y24.2.2.2.2.2.2.1 ++ [(bits .and .i64 y23.1 y24.1)]), y24.2.2.2.2.2.2.2.1, y24.2.2.2.2.2.2.2.2.1, y24.2.2.2.2.2.2.2.2.2.1, y24.2.2.2.2.2.2.2.2.2.2.1, y24.2.2.2.2.2.2.2.2.2.2.2.1, y24.2.2.2.2.2.2.2.2.2.2.2.2.1, y24.2.2.2.2.2.2.2.2.2.2.2.2.2.1, (IntKind.wrap .i64 (y24.2.2.2.2.2.2.2.2.2.2.2.2.2.2 + 1)), v15)) else none)))) := by
  unfold Kq5.f
  rw [h0, if_neg (by decide), if_neg (by decide), if_pos hi, hx]
  kernel_rfl
theorem stp9 (n : Nat) {v1 : List Ins} {v2 : List Int} {v3 : List Int} {v5 : Int} {v6 : List Int} {v7 : List Int} {v8 : List Int} {v9 : List Int} {v10 : Int} {v11 : List Int} {v12 : Int} {v13 : Int} {v14 : Int} {v15 : List (List Int)} {A B : Int} (h0 : decide ((v1.length : Int) > 0) = true) (hi : (decide (0 ≤ v5) && decide (v5 < (v1.length : Int))) = true) (hx : v1.getD v5.toNat ((0 : Int), ((0 : Int), (0 : Int))) = (9, A, B)) : Kq5.f n v1 v2 v3 true v5 v6 v7 v8 v9 v10 v11 v12 v13 v14 v15 = (((Kq9.f n v1 v2 v3 true v5 v6 v7 v8 v9 v10 v11 v12 v13 v14).bind fun y21 => ((Kq9.f n y21.2.1 y21.2.2.1 y21.2.2.2.1 y21.2.2.2.2.1 y21.2.2.2.2.2.1 y21.2.2.2.2.2.2.1 y21.2.2.2.2.2.2.2.1 y21.2.2.2.2.2.2.2.2.1 y21.2.2.2.2.2.2.2.2.2.1 y21.2.2.2.2.2.2.2.2.2.2.1 y21.2.2.2.2.2.2.2.2.2.2.2.1 y21.2.2.2.2.2.2.2.2.2.2.2.2.1 y21.2.2.2.2.2.2.2.2.2.2.2.2.2.1 y21.2.2.2.2.2.2.2.2.2.2.2.2.2.2).bind fun y22 => (if (decide ((y22.2.2.2.2.2.2.1.length + 1) * 8 ≤ 140737488355328) && decide (1 ≤ 8)) then (some ((0, 0), 0, y22.2.1, y22.2.2.1, y22.2.2.2.1, y22.2.2.2.2.1, (IntKind.wrap .i64 (v5 + 1)), (y22.2.2.2.2.2.2.1 ++ [(bits .or .i64 y21.1 y22.1)]), y22.2.2.2.2.2.2.2.1, y22.2.2.2.2.2.2.2.2.1, y22.2.2.2.2.2.2.2.2.2.1, y22.2.2.2.2.2.2.2.2.2.2.1, y22.2.2.2.2.2.2.2.2.2.2.2.1, y22.2.2.2.2.2.2.2.2.2.2.2.2.1, y22.2.2.2.2.2.2.2.2.2.2.2.2.2.1, (IntKind.wrap .i64 (y22.2.2.2.2.2.2.2.2.2.2.2.2.2.2 + 1)), v15)) else none)))) := by
  unfold Kq5.f
  rw [h0, if_neg (by decide), if_neg (by decide), if_pos hi, hx]
  kernel_rfl
theorem stp10 (n : Nat) {v1 : List Ins} {v2 : List Int} {v3 : List Int} {v5 : Int} {v6 : List Int} {v7 : List Int} {v8 : List Int} {v9 : List Int} {v10 : Int} {v11 : List Int} {v12 : Int} {v13 : Int} {v14 : Int} {v15 : List (List Int)} {A B : Int} (h0 : decide ((v1.length : Int) > 0) = true) (hi : (decide (0 ≤ v5) && decide (v5 < (v1.length : Int))) = true) (hx : v1.getD v5.toNat ((0 : Int), ((0 : Int), (0 : Int))) = (10, A, B)) : Kq5.f n v1 v2 v3 true v5 v6 v7 v8 v9 v10 v11 v12 v13 v14 v15 = ((some ((0, 0), 0, v1, v2, v3, true, (IntKind.wrap .i64 (v5 + 1)), v6, v7, v8, v9, v10, v11, v12, v13, (IntKind.wrap .i64 (v14 + 1)), v15))) := by
  unfold Kq5.f
  rw [h0, if_neg (by decide), if_neg (by decide), if_pos hi, hx]
  kernel_rfl
theorem stp11 (n : Nat) {v1 : List Ins} {v2 : List Int} {v3 : List Int} {v5 : Int} {v6 : List Int} {v7 : List Int} {v8 : List Int} {v9 : List Int} {v10 : Int} {v11 : List Int} {v12 : Int} {v13 : Int} {v14 : Int} {v15 : List (List Int)} {A B : Int} (h0 : decide ((v1.length : Int) > 0) = true) (hi : (decide (0 ≤ v5) && decide (v5 < (v1.length : Int))) = true) (hx : v1.getD v5.toNat ((0 : Int), ((0 : Int), (0 : Int))) = (11, A, B)) : Kq5.f n v1 v2 v3 true v5 v6 v7 v8 v9 v10 v11 v12 v13 v14 v15 = ((if (decide (0 ≤ A) && decide (A < 8)) then (if (decide ((v6.length + 1) * 8 ≤ 140737488355328) && decide (1 ≤ 8)) then (some ((0, 0), 0, v1, v2, v3, true, (IntKind.wrap .i64 (v5 + 1)), (v6 ++ [(v7.getD (A).toNat (0 : Int))]), v7, v8, v9, v10, v11, v12, v13, (IntKind.wrap .i64 (v14 + 1)), v15)) else none) else none)) := by
  unfold Kq5.f
  rw [h0, if_neg (by decide), if_neg (by decide), if_pos hi, hx]
  kernel_rfl
theorem stp12 (n : Nat) {v1 : List Ins} {v2 : List Int} {v3 : List Int} {v5 : Int} {v6 : List Int} {v7 : List Int} {v8 : List Int} {v9 : List Int} {v10 : Int} {v11 : List Int} {v12 : Int} {v13 : Int} {v14 : Int} {v15 : List (List Int)} {A B : Int} (h0 : decide ((v1.length : Int) > 0) = true) (hi : (decide (0 ≤ v5) && decide (v5 < (v1.length : Int))) = true) (hx : v1.getD v5.toNat ((0 : Int), ((0 : Int), (0 : Int))) = (12, A, B)) : Kq5.f n v1 v2 v3 true v5 v6 v7 v8 v9 v10 v11 v12 v13 v14 v15 = (((Kq9.f n v1 v2 v3 true v5 v6 v7 v8 v9 v10 v11 v12 v13 v14).bind fun y20 => (if (decide (0 ≤ A) && decide (A < 8)) then (some ((0, 0), 0, y20.2.1, y20.2.2.1, y20.2.2.2.1, y20.2.2.2.2.1, (IntKind.wrap .i64 (v5 + 1)), y20.2.2.2.2.2.2.1, (y20.2.2.2.2.2.2.2.1.set (A).toNat y20.1), y20.2.2.2.2.2.2.2.2.1, y20.2.2.2.2.2.2.2.2.2.1, y20.2.2.2.2.2.2.2.2.2.2.1, y20.2.2.2.2.2.2.2.2.2.2.2.1, y20.2.2.2.2.2.2.2.2.2.2.2.2.1, y20.2.2.2.2.2.2.2.2.2.2.2.2.2.1, (IntKind.wrap .i64 (y20.2.2.2.2.2.2.2.2.2.2.2.2.2.2 + 1)), v15)) else none))) := by
  unfold Kq5.f
  rw [h0, if_neg (by decide), if_neg (by decide), if_pos hi, hx]
  kernel_rfl
theorem stp13 (n : Nat) {v1 : List Ins} {v2 : List Int} {v3 : List Int} {v5 : Int} {v6 : List Int} {v7 : List Int} {v8 : List Int} {v9 : List Int} {v10 : Int} {v11 : List Int} {v12 : Int} {v13 : Int} {v14 : Int} {v15 : List (List Int)} {A B : Int} (h0 : decide ((v1.length : Int) > 0) = true) (hi : (decide (0 ≤ v5) && decide (v5 < (v1.length : Int))) = true) (hx : v1.getD v5.toNat ((0 : Int), ((0 : Int), (0 : Int))) = (13, A, B)) : Kq5.f n v1 v2 v3 true v5 v6 v7 v8 v9 v10 v11 v12 v13 v14 v15 = ((if (decide (0 ≤ A) && decide (A < 8)) then (if (decide ((v6.length + 1) * 8 ≤ 140737488355328) && decide (1 ≤ 8)) then (some ((0, 0), 0, v1, v2, v3, true, (IntKind.wrap .i64 (v5 + 1)), (v6 ++ [(v3.getD (A).toNat (0 : Int))]), v7, v8, v9, v10, v11, v12, v13, (IntKind.wrap .i64 (v14 + 1)), v15)) else none) else none)) := by
  unfold Kq5.f
  rw [h0, if_neg (by decide), if_neg (by decide), if_pos hi, hx]
  kernel_rfl
theorem stp14 (n : Nat) {v1 : List Ins} {v2 : List Int} {v3 : List Int} {v5 : Int} {v6 : List Int} {v7 : List Int} {v8 : List Int} {v9 : List Int} {v10 : Int} {v11 : List Int} {v12 : Int} {v13 : Int} {v14 : Int} {v15 : List (List Int)} {A B : Int} (h0 : decide ((v1.length : Int) > 0) = true) (hi : (decide (0 ≤ v5) && decide (v5 < (v1.length : Int))) = true) (hx : v1.getD v5.toNat ((0 : Int), ((0 : Int), (0 : Int))) = (14, A, B)) : Kq5.f n v1 v2 v3 true v5 v6 v7 v8 v9 v10 v11 v12 v13 v14 v15 = (((Kq9.f n v1 v2 v3 true v5 v6 v7 v8 v9 v10 v11 v12 v13 v14).bind fun y19 => (if (decide (0 ≤ A) && decide (A < 8)) then (some ((0, 0), 0, y19.2.1, y19.2.2.1, (y19.2.2.2.1.set (A).toNat y19.1), y19.2.2.2.2.1, (IntKind.wrap .i64 (v5 + 1)), y19.2.2.2.2.2.2.1, y19.2.2.2.2.2.2.2.1, y19.2.2.2.2.2.2.2.2.1, y19.2.2.2.2.2.2.2.2.2.1, y19.2.2.2.2.2.2.2.2.2.2.1, y19.2.2.2.2.2.2.2.2.2.2.2.1, y19.2.2.2.2.2.2.2.2.2.2.2.2.1, y19.2.2.2.2.2.2.2.2.2.2.2.2.2.1, (IntKind.wrap .i64 (y19.2.2.2.2.2.2.2.2.2.2.2.2.2.2 + 1)), v15)) else none))) := by
  unfold Kq5.f
  rw [h0, if_neg (by decide), if_neg (by decide), if_pos hi, hx]
  kernel_rfl
theorem stp15 (n : Nat) {v1 : List Ins} {v2 : List Int} {v3 : List Int} {v5 : Int} {v6 : List Int} {v7 : List Int} {v8 : List Int} {v9 : List Int} {v10 : Int} {v11 : List Int} {v12 : Int} {v13 : Int} {v14 : Int} {v15 : List (List Int)} {A B : Int} (h0 : decide ((v1.length : Int) > 0) = true) (hi : (decide (0 ≤ v5) && decide (v5 < (v1.length : Int))) = true) (hx : v1.getD v5.toNat ((0 : Int), ((0 : Int), (0 : Int))) = (15, A, B)) : Kq5.f n v1 v2 v3 true v5 v6 v7 v8 v9 v10 v11 v12 v13 v14 v15 = ((if (decide (0 ≤ A) && decide (A < 16)) then (if (decide ((v6.length + 1) * 8 ≤ 140737488355328) && decide (1 ≤ 8)) then (some ((0, 0), 0, v1, v2, v3, true, (IntKind.wrap .i64 (v5 + 1)), (v6 ++ [(v8.getD (A).toNat (0 : Int))]), v7, v8, v9, v10, v11, v12, v13, (IntKind.wrap .i64 (v14 + 1)), v15)) else none) else none)) := by
  unfold Kq5.f
  rw [h0, if_neg (by decide), if_neg (by decide), if_pos hi, hx]
  kernel_rfl
theorem stp16 (n : Nat) {v1 : List Ins} {v2 : List Int} {v3 : List Int} {v5 : Int} {v6 : List Int} {v7 : List Int} {v8 : List Int} {v9 : List Int} {v10 : Int} {v11 : List Int} {v12 : Int} {v13 : Int} {v14 : Int} {v15 : List (List Int)} {A B : Int} (h0 : decide ((v1.length : Int) > 0) = true) (hi : (decide (0 ≤ v5) && decide (v5 < (v1.length : Int))) = true) (hx : v1.getD v5.toNat ((0 : Int), ((0 : Int), (0 : Int))) = (16, A, B)) : Kq5.f n v1 v2 v3 true v5 v6 v7 v8 v9 v10 v11 v12 v13 v14 v15 = (((Kq9.f n v1 v2 v3 true v5 v6 v7 v8 v9 v10 v11 v12 v13 v14).bind fun y18 => (if (decide (0 ≤ A) && decide (A < 16)) then (if decide (A < 0) then none else (some ((0, 0), 0, y18.2.1, y18.2.2.1, y18.2.2.2.1, y18.2.2.2.2.1, (IntKind.wrap .i64 (v5 + 1)), y18.2.2.2.2.2.2.1, y18.2.2.2.2.2.2.2.1, y18.2.2.2.2.2.2.2.2.1, (y18.2.2.2.2.2.2.2.2.2.1.set (A).toNat y18.1), (bits .or .i64 y18.2.2.2.2.2.2.2.2.2.2.1 (IntKind.wrap .i64 (1 * 2 ^ (min (A).toNat 64)))), y18.2.2.2.2.2.2.2.2.2.2.2.1, y18.2.2.2.2.2.2.2.2.2.2.2.2.1, y18.2.2.2.2.2.2.2.2.2.2.2.2.2.1, (IntKind.wrap .i64 (y18.2.2.2.2.2.2.2.2.2.2.2.2.2.2 + 1)), v15))) else none))) := by
  unfold Kq5.f
  rw [h0, if_neg (by decide), if_neg (by decide), if_pos hi, hx]
  kernel_rfl
theorem stp17 (n : Nat) {v1 : List Ins} {v2 : List Int} {v3 : List Int} {v5 : Int} {v6 : List Int} {v7 : List Int} {v8 : List Int} {v9 : List Int} {v10 : Int} {v11 : List Int} {v12 : Int} {v13 : Int} {v14 : Int} {v15 : List (List Int)} {A B : Int} (h0 : decide ((v1.length : Int) > 0) = true) (hi : (decide (0 ≤ v5) && decide (v5 < (v1.length : Int))) = true) (hx : v1.getD v5.toNat ((0 : Int), ((0 : Int), (0 : Int))) = (17, A, B)) : Kq5.f n v1 v2 v3 true v5 v6 v7 v8 v9 v10 v11 v12 v13 v14 v15 = ((if (decide (0 ≤ A) && decide (A < 8)) then (if (decide (0 ≤ B) && decide (B < 8)) then (if (decide ((v6.length + 1) * 8 ≤ 140737488355328) && decide (1 ≤ 8)) then (some ((0, 0), 0, v1, v2, v3, true, (IntKind.wrap .i64 (v5 + 1)), (v6 ++ [((v15.getD (A).toNat [(0 : Int), (0 : Int), (0 : Int), (0 : Int), (0 : Int), (0 : Int), (0 : Int), (0 : Int)]).getD (B).toNat (0 : Int))]), v7, v8, v9, v10, v11, v12, v13, (IntKind.wrap .i64 (v14 + 1)), v15)) else none) else none) else none)) := by
  unfold Kq5.f
  rw [h0, if_neg (by decide), if_neg (by decide), if_pos hi, hx]
  kernel_rfl
theorem stp18 (n : Nat) {v1 : List Ins} {v2 : List Int} {v3 : List Int} {v5 : Int} {v6 : List Int} {v7 : List Int} {v8 : List Int} {v9 : List Int} {v10 : Int} {v11 : List Int} {v12 : Int} {v13 : Int} {v14 : Int} {v15 : List (List Int)} {A B : Int} (h0 : decide ((v1.length : Int) > 0) = true) (hi : (decide (0 ≤ v5) && decide (v5 < (v1.length : Int))) = true) (hx : v1.getD v5.toNat ((0 : Int), ((0 : Int), (0 : Int))) = (18, A, B)) : Kq5.f n v1 v2 v3 true v5 v6 v7 v8 v9 v10 v11 v12 v13 v14 v15 = (((Kq9.f n v1 v2 v3 true v5 v6 v7 v8 v9 v10 v11 v12 v13 v14).bind fun y17 => (if (decide (0 ≤ A) && decide (A < 8)) then (if (decide (0 ≤ B) && decide (B < 8)) then (some ((0, 0), 0, y17.2.1, y17.2.2.1, y17.2.2.2.1, y17.2.2.2.2.1, (IntKind.wrap .i64 (v5 + 1)), y17.2.2.2.2.2.2.1, y17.2.2.2.2.2.2.2.1, y17.2.2.2.2.2.2.2.2.1, y17.2.2.2.2.2.2.2.2.2.1, y17.2.2.2.2.2.2.2.2.2.2.1, y17.2.2.2.2.2.2.2.2.2.2.2.1, y17.2.2.2.2.2.2.2.2.2.2.2.2.1, y17.2.2.2.2.2.2.2.2.2.2.2.2.2.1, (IntKind.wrap .i64 (y17.2.2.2.2.2.2.2.2.2.2.2.2.2.2 + 1)), (v15.set (A).toNat ((v15.getD (A).toNat [(0 : Int), (0 : Int), (0 : Int), (0 : Int), (0 : Int), (0 : Int), (0 : Int), (0 : Int)]).set (B).toNat y17.1)))) else none) else none))) := by
  unfold Kq5.f
  rw [h0, if_neg (by decide), if_neg (by decide), if_pos hi, hx]
  kernel_rfl
theorem stp19 (n : Nat) {v1 : List Ins} {v2 : List Int} {v3 : List Int} {v5 : Int} {v6 : List Int} {v7 : List Int} {v8 : List Int} {v9 : List Int} {v10 : Int} {v11 : List Int} {v12 : Int} {v13 : Int} {v14 : Int} {v15 : List (List Int)} {A B : Int} (h0 : decide ((v1.length : Int) > 0) = true) (hi : (decide (0 ≤ v5) && decide (v5 < (v1.length : Int))) = true) (hx : v1.getD v5.toNat ((0 : Int), ((0 : Int), (0 : Int))) = (19, A, B)) : Kq5.f n v1 v2 v3 true v5 v6 v7 v8 v9 v10 v11 v12 v13 v14 v15 = ((some ((0, 0), 0, v1, v2, v3, true, (IntKind.wrap .i64 ((IntKind.wrap .i64 (v5 + 1)) + A)), v6, v7, v8, v9, v10, v11, v12, v13, (IntKind.wrap .i64 (v14 + 1)), v15))) := by
  unfold Kq5.f
  rw [h0, if_neg (by decide), if_neg (by decide), if_pos hi, hx]
  kernel_rfl
theorem stp20 (n : Nat) {v1 : List Ins} {v2 : List Int} {v3 : List Int} {v5 : Int} {v6 : List Int} {v7 : List Int} {v8 : List Int} {v9 : List Int} {v10 : Int} {v11 : List Int} {v12 : Int} {v13 : Int} {v14 : Int} {v15 : List (List Int)} {A B : Int} (h0 : decide ((v1.length : Int) > 0) = true) (hi : (decide (0 ≤ v5) && decide (v5 < (v1.length : Int))) = true) (hx : v1.getD v5.toNat ((0 : Int), ((0 : Int), (0 : Int))) = (20, A, B)) : Kq5.f n v1 v2 v3 true v5 v6 v7 v8 v9 v10 v11 v12 v13 v14 v15 = (((Kq9.f n v1 v2 v3 true v5 v6 v7 v8 v9 v10 v11 v12 v13 v14).bind fun y16 => (if (y16.1 == 0) then (some ((0, 0), 0, y16.2.1, y16.2.2.1, y16.2.2.2.1, y16.2.2.2.2.1, (IntKind.wrap .i64 ((IntKind.wrap .i64 (v5 + 1)) + A)), y16.2.2.2.2.2.2.1, y16.2.2.2.2.2.2.2.1, y16.2.2.2.2.2.2.2.2.1, y16.2.2.2.2.2.2.2.2.2.1, y16.2.2.2.2.2.2.2.2.2.2.1, y16.2.2.2.2.2.2.2.2.2.2.2.1, y16.2.2.2.2.2.2.2.2.2.2.2.2.1, y16.2.2.2.2.2.2.2.2.2.2.2.2.2.1, (IntKind.wrap .i64 (y16.2.2.2.2.2.2.2.2.2.2.2.2.2.2 + 1)), v15)) else (some ((0, 0), 0, y16.2.1, y16.2.2.1, y16.2.2.2.1, y16.2.2.2.2.1, (IntKind.wrap .i64 (v5 + 1)), y16.2.2.2.2.2.2.1, y16.2.2.2.2.2.2.2.1, y16.2.2.2.2.2.2.2.2.1, y16.2.2.2.2.2.2.2.2.2.1, y16.2.2.2.2.2.2.2.2.2.2.1, y16.2.2.2.2.2.2.2.2.2.2.2.1, y16.2.2.2.2.2.2.2.2.2.2.2.2.1, y16.2.2.2.2.2.2.2.2.2.2.2.2.2.1, (IntKind.wrap .i64 (y16.2.2.2.2.2.2.2.2.2.2.2.2.2.2 + 1)), v15))))) := by
  unfold Kq5.f
  rw [h0, if_neg (by decide), if_neg (by decide), if_pos hi, hx]
  kernel_rfl
theorem stp21 (n : Nat) {v1 : List Ins} {v2 : List Int} {v3 : List Int} {v5 : Int} {v6 : List Int} {v7 : List Int} {v8 : List Int} {v9 : List Int} {v10 : Int} {v11 : List Int} {v12 : Int} {v13 : Int} {v14 : Int} {v15 : List (List Int)} {A B : Int} (h0 : decide ((v1.length : Int) > 0) = true) (hi : (decide (0 ≤ v5) && decide (v5 < (v1.length : Int))) = true) (hx : v1.getD v5.toNat ((0 : Int), ((0 : Int), (0 : Int))) = (21, A, B)) : Kq5.f n v1 v2 v3 true v5 v6 v7 v8 v9 v10 v11 v12 v13 v14 v15 = ((if (decide ((v11.length + 1) * 8 ≤ 140737488355328) && decide (1 ≤ 8)) then (some ((0, 0), 0, v1, v2, v3, true, (IntKind.wrap .i64 (v5 + 1)), v6, v7, v8, v9, v10, (v11 ++ [A]), v12, v13, (IntKind.wrap .i64 (v14 + 1)), v15)) else none)) := by
  unfold Kq5.f
  rw [h0, if_neg (by decide), if_neg (by decide), if_pos hi, hx]
  kernel_rfl
theorem stp22 (n : Nat) {v1 : List Ins} {v2 : List Int} {v3 : List Int} {v5 : Int} {v6 : List Int} {v7 : List Int} {v8 : List Int} {v9 : List Int} {v10 : Int} {v11 : List Int} {v12 : Int} {v13 : Int} {v14 : Int} {v15 : List (List Int)} {A B : Int} (h0 : decide ((v1.length : Int) > 0) = true) (hi : (decide (0 ≤ v5) && decide (v5 < (v1.length : Int))) = true) (hx : v1.getD v5.toNat ((0 : Int), ((0 : Int), (0 : Int))) = (22, A, B)) : Kq5.f n v1 v2 v3 true v5 v6 v7 v8 v9 v10 v11 v12 v13 v14 v15 = ((if (decide (0 ≤ (IntKind.wrap .i64 ((v11.length : Int) - 1))) && decide ((IntKind.wrap .i64 ((v11.length : Int) - 1)) < (v11.length : Int))) then (if (decide (0 ≤ (IntKind.wrap .i64 ((v11.length : Int) - 1))) && decide ((IntKind.wrap .i64 ((v11.length : Int) - 1)) < (v11.length : Int))) then (if (decide (0 ≤ (IntKind.wrap .i64 ((v11.length : Int) - 1))) && decide ((IntKind.wrap .i64 ((v11.length : Int) - 1)) < (((v11.set ((IntKind.wrap .i64 ((v11.length : Int) - 1))).toNat (IntKind.wrap .i64 ((v11.getD ((IntKind.wrap .i64 ((v11.length : Int) - 1))).toNat (0 : Int)) - 1))).length : Nat) : Int))) then (if (decide (((v11.set ((IntKind.wrap .i64 ((v11.length : Int) - 1))).toNat (IntKind.wrap .i64 ((v11.getD ((IntKind.wrap .i64 ((v11.length : Int) - 1))).toNat (0 : Int)) - 1))).getD ((IntKind.wrap .i64 ((v11.length : Int) - 1))).toNat (0 : Int)) > 0)) then (if (decide (0 ≤ v5) && decide (v5 < (v2.length : Int))) then (some ((0, 0), 0, v1, v2, v3, true, (IntKind.wrap .i64 ((v2.getD v5.toNat (0 : Int)) + 1)), v6, v7, v8, v9, v10, (v11.set ((IntKind.wrap .i64 ((v11.length : Int) - 1))).toNat (IntKind.wrap .i64 ((v11.getD ((IntKind.wrap .i64 ((v11.length : Int) - 1))).toNat (0 : Int)) - 1))), v12, v13, (IntKind.wrap .i64 (v14 + 1)), v15)) else none) else (if (decide (0 ≤ (IntKind.wrap .i64 ((v11.length : Int) - 1))) && decide ((IntKind.wrap .i64 ((v11.length : Int) - 1)) ≤ (((v11.set ((IntKind.wrap .i64 ((v11.length : Int) - 1))).toNat (IntKind.wrap .i64 ((v11.getD ((IntKind.wrap .i64 ((v11.length : Int) - 1))).toNat (0 : Int)) - 1))).length : Nat) : Int))) then (some ((0, 0), 0, v1, v2, v3, true, (IntKind.wrap .i64 (v5 + 1)), v6, v7, v8, v9, v10, ((v11.set ((IntKind.wrap .i64 ((v11.length : Int) - 1))).toNat (IntKind.wrap .i64 ((v11.getD ((IntKind.wrap .i64 ((v11.length : Int) - 1))).toNat (0 : Int)) - 1))).take (((IntKind.wrap .i64 ((v11.length : Int) - 1))).toNat - 0)), v12, v13, (IntKind.wrap .i64 (v14 + 1)), v15)) else none)) else none) else none) else none)) := by
  unfold Kq5.f
  rw [h0, if_neg (by decide), if_neg (by decide), if_pos hi, hx]
  kernel_rfl
theorem stp23 (n : Nat) {v1 : List Ins} {v2 : List Int} {v3 : List Int} {v5 : Int} {v6 : List Int} {v7 : List Int} {v8 : List Int} {v9 : List Int} {v10 : Int} {v11 : List Int} {v12 : Int} {v13 : Int} {v14 : Int} {v15 : List (List Int)} {A B : Int} (h0 : decide ((v1.length : Int) > 0) = true) (hi : (decide (0 ≤ v5) && decide (v5 < (v1.length : Int))) = true) (hx : v1.getD v5.toNat ((0 : Int), ((0 : Int), (0 : Int))) = (23, A, B)) : Kq5.f n v1 v2 v3 true v5 v6 v7 v8 v9 v10 v11 v12 v13 v14 v15 = ((if decide (A < 0) then none else (some ((1, A), 0, v1, v2, v3, true, (IntKind.wrap .i64 (v5 + 1)), v6, v7, v8, v9, v10, v11, (bits .or .i64 v12 (IntKind.wrap .i64 (1 * 2 ^ (min (A).toNat 64)))), v13, (IntKind.wrap .i64 (v14 + 1)), v15)))) := by
  unfold Kq5.f
  rw [h0, if_neg (by decide), if_neg (by decide), if_pos hi, hx]
  kernel_rfl
theorem stp24 (n : Nat) {v1 : List Ins} {v2 : List Int} {v3 : List Int} {v5 : Int} {v6 : List Int} {v7 : List Int} {v8 : List Int} {v9 : List Int} {v10 : Int} {v11 : List Int} {v12 : Int} {v13 : Int} {v14 : Int} {v15 : List (List Int)} {A B : Int} (h0 : decide ((v1.length : Int) > 0) = true) (hi : (decide (0 ≤ v5) && decide (v5 < (v1.length : Int))) = true) (hx : v1.getD v5.toNat ((0 : Int), ((0 : Int), (0 : Int))) = (24, A, B)) : Kq5.f n v1 v2 v3 true v5 v6 v7 v8 v9 v10 v11 v12 v13 v14 v15 = ((if decide (A < 0) then none else (some ((2, A), 0, v1, v2, v3, true, (IntKind.wrap .i64 (v5 + 1)), v6, v7, v8, v9, v10, v11, (bits .andNot .i64 v12 (IntKind.wrap .i64 (1 * 2 ^ (min (A).toNat 64)))), v13, (IntKind.wrap .i64 (v14 + 1)), v15)))) := by
  unfold Kq5.f
  rw [h0, if_neg (by decide), if_neg (by decide), if_pos hi, hx]
  kernel_rfl
theorem stp25 (n : Nat) {v1 : List Ins} {v2 : List Int} {v3 : List Int} {v5 : Int} {v6 : List Int} {v7 : List Int} {v8 : List Int} {v9 : List Int} {v10 : Int} {v11 : List Int} {v12 : Int} {v13 : Int} {v14 : Int} {v15 : List (List Int)} {A B : Int} (h0 : decide ((v1.length : Int) > 0) = true) (hi : (decide (0 ≤ v5) && decide (v5 < (v1.length : Int))) = true) (hx : v1.getD v5.toNat ((0 : Int), ((0 : Int), (0 : Int))) = (25, A, B)) : Kq5.f n v1 v2 v3 true v5 v6 v7 v8 v9 v10 v11 v12 v13 v14 v15 = ((some ((3, 0), 0, v1, v2, v3, false, (IntKind.wrap .i64 (v5 + 1)), v6, v7, v8, v9, v10, v11, v12, v13, (IntKind.wrap .i64 (v14 + 1)), v15))) := by
  unfold Kq5.f
  rw [h0, if_neg (by decide), if_neg (by decide), if_pos hi, hx]
  kernel_rfl
end Go.Proofs.Dk

/- Plain: a machine's state, and a step of it. -/
namespace Go.Proofs.Dk
open Go
set_option maxRecDepth 100000
set_option linter.unusedVariables false
set_option linter.unusedSimpArgs false
def pv (v : List Int) : Int := v.getD (v.length - 1) 0
def pr (v : List Int) : List Int := v.take (v.length - 1)
theorem pv_app (r : List Int) (x : Int) : pv (r ++ [x]) = x := by
  unfold pv
  rw [List.length_append, List.getD_eq_getElem?_getD, List.getElem?_append_right (by simp)]
  simp
theorem pr_app (r : List Int) (x : Int) : pr (r ++ [x]) = r := by
  unfold pr
  rw [List.length_append, List.length_singleton, Nat.add_sub_cancel, List.take_left']
  rfl
theorem pv_app2 (r : List Int) (x y : Int) : pv (r ++ [x, y]) = y := by
  rw [show r ++ [x, y] = (r ++ [x]) ++ [y] by simp, pv_app]
theorem pr_app2 (r : List Int) (x y : Int) : pr (r ++ [x, y]) = r ++ [x] := by
  rw [show r ++ [x, y] = (r ++ [x]) ++ [y] by simp, pr_app]
theorem pop_ix {v : List Int} (h : 0 < v.length) (h2 : v.length < 1000) : IntKind.wrap .i64 ((v.length : Int) - 1) = ((v.length - 1 : Nat) : Int) := by
  rw [wrap_id (by omega) (by omega)]
  omega
theorem pop_is (n : Nat) (v1 : List Ins) (v2 v3 : List Int) (v4 : Bool) (v5 : Int) {v6 : List Int} (v7 v8 v9 : List Int) (v10 : Int) (v11 : List Int) (v12 v13 v14 : Int) (h : 0 < v6.length) (h2 : v6.length < 1000) :
    Kq9.f n v1 v2 v3 v4 v5 v6 v7 v8 v9 v10 v11 v12 v13 v14 = some (pv v6, v1, v2, v3, v4, v5, pr v6, v7, v8, v9, v10, v11, v12, v13, v14) := by
  unfold Kq9.f pv pr
  rw [pop_ix h h2, if_pos (in_ix (by omega)), if_pos (by simp), Int.toNat_natCast, Nat.sub_zero]
noncomputable def twoI (A a b : Int) : Int × Bool := (num_Two.f 0 A a b).getD (0, false)
theorem mask63 (b : Int) : ¬ bits .and .i64 b 63 < 0 := by
  show ¬ IntKind.i64.wrap ((BitVec.ofInt 64 b &&& BitVec.ofInt 64 ((63 : Nat) : Int)).toNat : Int) < 0
  rw [BitVec.toNat_and, ofInt_u64 63 (by omega)]
  have : (BitVec.ofInt 64 b).toNat &&& 63 ≤ 63 := Nat.and_le_right
  rw [wrap_id (by omega) (by omega)]
  omega
theorem two_is (n : Nat) {A : Int} (hA : 1 ≤ A ∧ A ≤ 12) (a b : Int) : num_Two.f n A a b = some (twoI A a b) ∧ (11 ≤ A → (twoI A a b).1 = 0 ∨ (twoI A a b).1 = 1) := by
  have hc : A = 1 ∨ A = 2 ∨ A = 3 ∨ A = 4 ∨ A = 5 ∨ A = 6 ∨ A = 7 ∨ A = 8 ∨ A = 9 ∨ A = 10 ∨ A = 11 ∨ A = 12 := by omega
  have key : ∀ x, num_Two.f n A a b = some x → num_Two.f 0 A a b = some x → num_Two.f n A a b = some (twoI A a b) ∧ twoI A a b = x := fun x h1 h2 => by
    unfold twoI
    rw [h1, h2]
    exact ⟨rfl, rfl⟩
  have hm := mask63 b
  rcases hc with rfl | rfl | rfl | rfl | rfl | rfl | rfl | rfl | rfl | rfl | rfl | rfl
  · exact ⟨(key (IntKind.wrap .i64 (a + b), false) rfl rfl).1, fun h => by omega⟩
  · exact ⟨(key (IntKind.wrap .i64 (a - b), false) rfl rfl).1, fun h => by omega⟩
  · exact ⟨(key (IntKind.wrap .i64 (a * b), false) rfl rfl).1, fun h => by omega⟩
  · have hz : ∀ n, num_Two.f n 4 a b = some (if b = 0 then (0, true) else (IntKind.wrap .i64 (a.tdiv b), false)) := fun n => by
      have : num_Two.f n 4 a b = (if (b == 0) then (some (0, true)) else (if (b == 0) then none else (some ((IntKind.wrap .i64 (a.tdiv b)), false)))) := by kernel_rfl
      rw [this]
      by_cases hb : b = 0
      · rw [if_pos (by simpa using hb), if_pos hb]
      · rw [if_neg (by simpa using hb), if_neg (by simpa using hb), if_neg hb]
    exact ⟨(key _ (hz n) (hz 0)).1, fun h => by omega⟩
  · have hz : ∀ n, num_Two.f n 5 a b = some (if b = 0 then (0, true) else (a.tmod b, false)) := fun n => by
      have : num_Two.f n 5 a b = (if (b == 0) then (some (0, true)) else (if (b == 0) then none else (some ((a.tmod b), false)))) := by kernel_rfl
      rw [this]
      by_cases hb : b = 0
      · rw [if_pos (by simpa using hb), if_pos hb]
      · rw [if_neg (by simpa using hb), if_neg (by simpa using hb), if_neg hb]
    exact ⟨(key _ (hz n) (hz 0)).1, fun h => by omega⟩
  · exact ⟨(key (bits .and .i64 a b, false) rfl rfl).1, fun h => by omega⟩
  · exact ⟨(key (bits .or .i64 a b, false) rfl rfl).1, fun h => by omega⟩
  · exact ⟨(key (bits .xor .i64 a b, false) rfl rfl).1, fun h => by omega⟩
  · have hz : ∀ n, num_Two.f n 9 a b = some (IntKind.wrap .i64 (a * 2 ^ (min ((bits .and .i64 b 63)).toNat 64)), false) := fun n => by
      have : num_Two.f n 9 a b = ((if decide ((bits .and .i64 b 63) < 0) then none else (some (IntKind.wrap .i64 (a * 2 ^ (min ((bits .and .i64 b 63)).toNat 64)))) : Option Int).bind fun y => some (y, false)) := by kernel_rfl
      rw [this, if_neg (by simpa using hm)]
      rfl
    exact ⟨(key _ (hz n) (hz 0)).1, fun h => by omega⟩
  · have hz : ∀ n, num_Two.f n 10 a b = some ((a.fdiv (2 ^ (min ((bits .and .i64 b 63)).toNat 64))), false) := fun n => by
      have : num_Two.f n 10 a b = ((if decide ((bits .and .i64 b 63) < 0) then none else (some (a.fdiv (2 ^ (min ((bits .and .i64 b 63)).toNat 64)))) : Option Int).bind fun y => some (y, false)) := by kernel_rfl
      rw [this, if_neg (by simpa using hm)]
      rfl
    exact ⟨(key _ (hz n) (hz 0)).1, fun h => by omega⟩
  · have hz : ∀ n, num_Two.f n 11 a b = some ((if decide (a < b) = true then 1 else 0), false) := fun n => by
      have : num_Two.f n 11 a b = (((if decide (a < b) then (some 1) else (some 0) : Option Int).bind fun y => some y).bind fun y => some (y, false)) := by kernel_rfl
      rw [this]
      split <;> rfl
    obtain ⟨k1, k2⟩ := key _ (hz n) (hz 0)
    refine ⟨k1, fun _ => ?_⟩
    rw [k2]
    simp only
    split
    · exact .inr rfl
    · exact .inl rfl
  · have hz : ∀ n, num_Two.f n 12 a b = some ((if (a == b) = true then 1 else 0), false) := fun n => by
      have : num_Two.f n 12 a b = (((if (a == b) then (some 1) else (some 0) : Option Int).bind fun y => some y).bind fun y => some (y, false)) := by kernel_rfl
      rw [this]
      split <;> rfl
    obtain ⟨k1, k2⟩ := key _ (hz n) (hz 0)
    refine ⟨k1, fun _ => ?_⟩
    rw [k2]
    simp only
    split
    · exact .inr rfl
    · exact .inl rfl
structure MS where
  ret : List Int
  at_ : Int
  stk : List Int
  loc : List Int
  inp : List Int
  out : List Int
  set : Int
  rds : List Int
  held : Int
  flt : Int
  stp : Int
abbrev MemT := List (List Int)
abbrev z8 : List Int := [(0 : Int), (0 : Int), (0 : Int), (0 : Int), (0 : Int), (0 : Int), (0 : Int), (0 : Int)]
abbrev bit1 (A : Int) : Int := IntKind.wrap .i64 (1 * 2 ^ (min A.toNat 64))
noncomputable def stkM (x : Ins) (s : MS) (mem : MemT) : List Int :=
  if x.1 = 1 then s.stk ++ [x.2.1]
  else if x.1 = 2 ∨ x.1 = 12 ∨ x.1 = 14 ∨ x.1 = 16 ∨ x.1 = 18 ∨ x.1 = 20 then pr s.stk
  else if x.1 = 3 then s.stk ++ [pv s.stk]
  else if x.1 = 4 then (pr (pr s.stk) ++ [pv s.stk]) ++ [pv (pr s.stk)]
  else if x.1 = 5 then pr (pr s.stk) ++ [(twoI x.2.1 (pv (pr s.stk)) (pv s.stk)).1]
  else if x.1 = 6 then pr s.stk ++ [IntKind.wrap .i64 (0 - pv s.stk)]
  else if x.1 = 7 then pr s.stk ++ [if pv s.stk = 0 then 1 else 0]
  else if x.1 = 8 then pr (pr s.stk) ++ [bits .and .i64 (pv s.stk) (pv (pr s.stk))]
  else if x.1 = 9 then pr (pr s.stk) ++ [bits .or .i64 (pv s.stk) (pv (pr s.stk))]
  else if x.1 = 11 then s.stk ++ [s.loc.getD x.2.1.toNat 0]
  else if x.1 = 13 then s.stk ++ [s.ret.getD x.2.1.toNat 0]
  else if x.1 = 15 then s.stk ++ [s.inp.getD x.2.1.toNat 0]
  else if x.1 = 17 then s.stk ++ [(mem.getD x.2.1.toNat z8).getD x.2.2.toNat 0]
  else s.stk
def nextM (x : Ins) (mt : Int) (s : MS) : Int :=
  if x.1 = 19 then s.at_ + 1 + x.2.1
  else if x.1 = 20 then (if pv s.stk = 0 then s.at_ + 1 + x.2.1 else s.at_ + 1)
  else if x.1 = 22 then (if pv s.rds - 1 > 0 then mt + 1 else s.at_ + 1)
  else s.at_ + 1
def rdsM (x : Ins) (s : MS) : List Int :=
  if x.1 = 21 then s.rds ++ [x.2.1]
  else if x.1 = 22 then (if pv s.rds - 1 > 0 then pr s.rds ++ [pv s.rds - 1] else pr s.rds)
  else s.rds
noncomputable def stepM (x : Ins) (mt : Int) (s : MS) (mem : MemT) : MS where
  ret := if x.1 = 14 then s.ret.set x.2.1.toNat (pv s.stk) else s.ret
  at_ := nextM x mt s
  stk := stkM x s mem
  loc := if x.1 = 12 then s.loc.set x.2.1.toNat (pv s.stk) else s.loc
  inp := s.inp
  out := if x.1 = 16 then s.out.set x.2.1.toNat (pv s.stk) else s.out
  set := if x.1 = 16 then bits .or .i64 s.set (bit1 x.2.1) else s.set
  rds := rdsM x s
  held := if x.1 = 23 then bits .or .i64 s.held (bit1 x.2.1) else if x.1 = 24 then bits .andNot .i64 s.held (bit1 x.2.1) else s.held
  flt := if x.1 = 5 then IntKind.wrap .i64 (s.flt + (if (twoI x.2.1 (pv (pr s.stk)) (pv s.stk)).2 = true then 1 else 0)) else s.flt
  stp := IntKind.wrap .i64 (s.stp + 1)
def memM (x : Ins) (s : MS) (mem : MemT) : MemT := if x.1 = 18 then mem.set x.2.1.toNat ((mem.getD x.2.1.toNat z8).set x.2.2.toNat (pv s.stk)) else mem
def evM (x : Ins) : Int × Int := if x.1 = 25 then (3, 0) else if x.1 = 24 then (2, x.2.1) else if x.1 = 23 then (1, x.2.1) else (0, 0)
abbrev tupM (l : List Ins) (m : List Int) (on : Bool) (s : MS) (mem : MemT) := (l, m, s.ret, on, s.at_, s.stk, s.loc, s.inp, s.out, s.set, s.rds, s.held, s.flt, s.stp, mem)
noncomputable abbrev stepF (n : Nat) (l : List Ins) (m : List Int) (on : Bool) (s : MS) (mem : MemT) := Kq5.f n l m s.ret on s.at_ s.stk s.loc s.inp s.out s.set s.rds s.held s.flt s.stp mem
end Go.Proofs.Dk

/- Plain: a step of a machine whose state is in order. -/
namespace Go.Proofs.Dk
open Go
set_option maxRecDepth 100000
set_option linter.unusedVariables false
set_option linter.unusedSimpArgs false
theorem right8 {o A B : Int} (ho : o = 11 ∨ o = 12 ∨ o = 13 ∨ o = 14 ∨ o = 23 ∨ o = 24) (h : rightI (o, A, B) = true) : 0 ≤ A ∧ A ≤ 7 := by
  have key : op_Right.f 0 (o, A, B) = (if decide (A ≥ 0) then (if decide (A ≤ 7) then some (B == 0) else some false) else some false) := by
    rcases ho with rfl | rfl | rfl | rfl | rfl | rfl
    · exact opR11 0 A B
    · exact opR12 0 A B
    · exact opR13 0 A B
    · exact opR14 0 A B
    · exact opR23 0 A B
    · exact opR24 0 A B
  have h1 := (right_is 0 (o, A, B)).symm.trans key
  rw [h] at h1
  by_cases h2 : A ≥ 0
  · rw [if_pos (decide_eq_true h2)] at h1
    by_cases h3 : A ≤ 7
    · exact ⟨h2, h3⟩
    · rw [if_neg (by simpa using h3)] at h1; cases h1
  · rw [if_neg (by simpa using h2)] at h1; cases h1
theorem right16 {o A B : Int} (ho : o = 15 ∨ o = 16) (h : rightI (o, A, B) = true) : 0 ≤ A ∧ A ≤ 15 := by
  have key : op_Right.f 0 (o, A, B) = (if decide (A ≥ 0) then (if decide (A ≤ 15) then some (B == 0) else some false) else some false) := by
    rcases ho with rfl | rfl
    · exact opR15 0 A B
    · exact opR16 0 A B
  have h1 := (right_is 0 (o, A, B)).symm.trans key
  rw [h] at h1
  by_cases h2 : A ≥ 0
  · rw [if_pos (decide_eq_true h2)] at h1
    by_cases h3 : A ≤ 15
    · exact ⟨h2, h3⟩
    · rw [if_neg (by simpa using h3)] at h1; cases h1
  · rw [if_neg (by simpa using h2)] at h1; cases h1
theorem right88 {o A B : Int} (ho : o = 17 ∨ o = 18) (h : rightI (o, A, B) = true) : (0 ≤ A ∧ A ≤ 7) ∧ (0 ≤ B ∧ B ≤ 7) := by
  have key : op_Right.f 0 (o, A, B) = (if decide (A ≥ 0) then (if decide (A ≤ 7) then (if decide (B ≥ 0) then some (decide (B ≤ 7)) else some false) else some false) else some false) := by
    rcases ho with rfl | rfl
    · exact opR17 0 A B
    · exact opR18 0 A B
  have h1 := (right_is 0 (o, A, B)).symm.trans key
  rw [h] at h1
  by_cases h2 : A ≥ 0
  · rw [if_pos (decide_eq_true h2)] at h1
    by_cases h3 : A ≤ 7
    · rw [if_pos (decide_eq_true h3)] at h1
      by_cases h4 : B ≥ 0
      · rw [if_pos (decide_eq_true h4)] at h1
        exact ⟨⟨h2, h3⟩, h4, of_decide_eq_true (Option.some.inj h1).symm⟩
      · rw [if_neg (by simpa using h4)] at h1; cases h1
    · rw [if_neg (by simpa using h3)] at h1; cases h1
  · rw [if_neg (by simpa using h2)] at h1; cases h1
structure Row (l : List Ins) (m h : List Int) (st : List ByteArray) : Prop where
  fine : Fine l m h
  stk : Stk l m st
  rise : Rise l m
theorem row_of {l : List Ins} (h1 : locksI l = 0) (h2 : stacksI l = 0) : Row l (scanI l).1 (scanI l).2.1 (stacksL l) :=
  ⟨whole_fine (locks_whole2 h1), (stacks_Stk h2).2, locks_rise h1⟩
structure Ok (l : List Ins) (m : List Int) (st : List ByteArray) (s : MS) (i : Nat) (rs : List (Nat × Int)) : Prop where
  place : s.at_ = (i : Int)
  lt : i < l.length
  vt : VT (stL st i) s.stk
  lps : rs.map (·.1) = lps l m i
  rds : s.rds = rs.map (·.2)
  rnd : ∀ e ∈ rs, 1 ≤ e.2 ∧ e.2 ≤ argA l e.1
  held : ∃ v : Nat, s.held = (v : Int) ∧ HeldB l m i v
theorem grow_ok {v : List Int} (h : v.length ≤ 1000) : (decide ((v.length + 1) * 8 ≤ 140737488355328) && decide (1 ≤ 8)) = true := by simp; omega
theorem ix_ok {A k : Int} (h : 0 ≤ A ∧ A < k) : (decide (0 ≤ A) && decide (A < k)) = true := by simp; exact h
theorem pr_len (v : List Int) : (pr v).length = v.length - 1 := by
  unfold pr
  rw [List.length_take]
  omega
theorem i_step {i : Nat} (h : i < 1000000) : IntKind.wrap .i64 ((i : Int) + 1) = (i : Int) + 1 := wrap_id (by omega) (by omega)
theorem set_last {r : List Int} {x y : Int} : (r ++ [x]).set r.length y = r ++ [y] := by
  rw [List.set_append_right _ _ (Nat.le_refl _), Nat.sub_self]
  rfl
abbrev stepIs (n : Nat) (l : List Ins) (m : List Int) (x : Ins) (mt : Int) (s : MS) (mem : MemT) : Prop :=
  stepF n l m true s mem = some (evM x, 0, tupM l m (decide (x.1 ≠ 25)) (stepM x mt s mem) (memM x s mem))
theorem sm1 (n : Nat) {l : List Ins} {m : List Int} {i : Nat} (hl : l.length ≤ 200) (hi : i < l.length) {A B : Int} (hx : l.getD i (0, 0, 0) = (1, A, B)) (hr : rightI (1, A, B) = true) {ret stk loc inp out rds : List Int} {set held flt stp : Int} {mem : MemT} (hs : stk.length ≤ 16) {mt : Int} : stepIs n l m (1, A, B) mt ⟨ret, (i : Int), stk, loc, inp, out, set, rds, held, flt, stp⟩ mem := by
  have h0 : decide ((l.length : Int) > 0) = true := decide_eq_true (by omega)
  have hi2 : (decide (0 ≤ (i : Int)) && decide ((i : Int) < (l.length : Int))) = true := in_ix hi
  have hx2 : l.getD ((i : Int)).toNat (0, 0, 0) = (1, A, B) := by rw [Int.toNat_natCast]; exact hx
  have hn := i_step (show i < 1000000 by omega)
  refine (stp1 n (v1 := l) (v2 := m) (v3 := ret) (v5 := (i : Int)) (v6 := stk) (v7 := loc) (v8 := inp) (v9 := out) (v10 := set) (v11 := rds) (v12 := held) (v13 := flt) (v14 := stp) (v15 := mem) h0 hi2 hx2).trans ?_
  rw [if_pos (grow_ok (by omega)), hn]
  kernel_rfl
theorem sm2 (n : Nat) {l : List Ins} {m : List Int} {i : Nat} (hl : l.length ≤ 200) (hi : i < l.length) {A B : Int} (hx : l.getD i (0, 0, 0) = (2, A, B)) (hr : rightI (2, A, B) = true) {ret stk loc inp out rds : List Int} {set held flt stp : Int} {mem : MemT} (hs : stk.length ≤ 16) (hd : 1 ≤ stk.length) {mt : Int} : stepIs n l m (2, A, B) mt ⟨ret, (i : Int), stk, loc, inp, out, set, rds, held, flt, stp⟩ mem := by
  have h0 : decide ((l.length : Int) > 0) = true := decide_eq_true (by omega)
  have hi2 : (decide (0 ≤ (i : Int)) && decide ((i : Int) < (l.length : Int))) = true := in_ix hi
  have hx2 : l.getD ((i : Int)).toNat (0, 0, 0) = (2, A, B) := by rw [Int.toNat_natCast]; exact hx
  have hn := i_step (show i < 1000000 by omega)
  refine (stp2 n (v1 := l) (v2 := m) (v3 := ret) (v5 := (i : Int)) (v6 := stk) (v7 := loc) (v8 := inp) (v9 := out) (v10 := set) (v11 := rds) (v12 := held) (v13 := flt) (v14 := stp) (v15 := mem) h0 hi2 hx2).trans ?_
  rw [pop_is n _ _ _ _ _ (v6 := stk) _ _ _ _ _ _ _ _ (by omega) (by omega), Option.bind_some, hn]
  kernel_rfl
theorem sm3 (n : Nat) {l : List Ins} {m : List Int} {i : Nat} (hl : l.length ≤ 200) (hi : i < l.length) {A B : Int} (hx : l.getD i (0, 0, 0) = (3, A, B)) (hr : rightI (3, A, B) = true) {ret stk loc inp out rds : List Int} {set held flt stp : Int} {mem : MemT} (hs : stk.length ≤ 16) (hd : 1 ≤ stk.length) {mt : Int} : stepIs n l m (3, A, B) mt ⟨ret, (i : Int), stk, loc, inp, out, set, rds, held, flt, stp⟩ mem := by
  have h0 : decide ((l.length : Int) > 0) = true := decide_eq_true (by omega)
  have hi2 : (decide (0 ≤ (i : Int)) && decide ((i : Int) < (l.length : Int))) = true := in_ix hi
  have hx2 : l.getD ((i : Int)).toNat (0, 0, 0) = (3, A, B) := by rw [Int.toNat_natCast]; exact hx
  have hn := i_step (show i < 1000000 by omega)
  refine (stp3 n (v1 := l) (v2 := m) (v3 := ret) (v5 := (i : Int)) (v6 := stk) (v7 := loc) (v8 := inp) (v9 := out) (v10 := set) (v11 := rds) (v12 := held) (v13 := flt) (v14 := stp) (v15 := mem) h0 hi2 hx2).trans ?_
  rw [pop_ix (by omega) (by omega), if_pos (in_ix (by omega)), if_pos (grow_ok (by omega)), hn, Int.toNat_natCast]
  kernel_rfl
theorem sm4 (n : Nat) {l : List Ins} {m : List Int} {i : Nat} (hl : l.length ≤ 200) (hi : i < l.length) {A B : Int} (hx : l.getD i (0, 0, 0) = (4, A, B)) (hr : rightI (4, A, B) = true) {ret stk loc inp out rds : List Int} {set held flt stp : Int} {mem : MemT} (hs : stk.length ≤ 16) (hd : 2 ≤ stk.length) {mt : Int} : stepIs n l m (4, A, B) mt ⟨ret, (i : Int), stk, loc, inp, out, set, rds, held, flt, stp⟩ mem := by
  have h0 : decide ((l.length : Int) > 0) = true := decide_eq_true (by omega)
  have hi2 : (decide (0 ≤ (i : Int)) && decide ((i : Int) < (l.length : Int))) = true := in_ix hi
  have hx2 : l.getD ((i : Int)).toNat (0, 0, 0) = (4, A, B) := by rw [Int.toNat_natCast]; exact hx
  have hn := i_step (show i < 1000000 by omega)
  refine (stp4 n (v1 := l) (v2 := m) (v3 := ret) (v5 := (i : Int)) (v6 := stk) (v7 := loc) (v8 := inp) (v9 := out) (v10 := set) (v11 := rds) (v12 := held) (v13 := flt) (v14 := stp) (v15 := mem) h0 hi2 hx2).trans ?_
  rw [pop_is n _ _ _ _ _ (v6 := stk) _ _ _ _ _ _ _ _ (by omega) (by omega), Option.bind_some, pop_is n _ _ _ _ _ (v6 := pr stk) _ _ _ _ _ _ _ _ (by rw [pr_len]; omega) (by rw [pr_len]; omega), Option.bind_some]
  simp only []
  rw [if_pos (grow_ok (by rw [pr_len, pr_len]; omega)), if_pos (grow_ok (by rw [List.length_append, pr_len, pr_len, List.length_singleton]; omega)), hn]
  kernel_rfl
theorem sm5 (n : Nat) {l : List Ins} {m : List Int} {i : Nat} (hl : l.length ≤ 200) (hi : i < l.length) {A B : Int} (hx : l.getD i (0, 0, 0) = (5, A, B)) (hr : rightI (5, A, B) = true) {ret stk loc inp out rds : List Int} {set held flt stp : Int} {mem : MemT} (hs : stk.length ≤ 16) (hd : 2 ≤ stk.length) {mt : Int} : stepIs n l m (5, A, B) mt ⟨ret, (i : Int), stk, loc, inp, out, set, rds, held, flt, stp⟩ mem := by
  have h0 : decide ((l.length : Int) > 0) = true := decide_eq_true (by omega)
  have hi2 : (decide (0 ≤ (i : Int)) && decide ((i : Int) < (l.length : Int))) = true := in_ix hi
  have hx2 : l.getD ((i : Int)).toNat (0, 0, 0) = (5, A, B) := by rw [Int.toNat_natCast]; exact hx
  have hn := i_step (show i < 1000000 by omega)
  have hb : ∀ b : Bool, num_Bool.f n b = some (if b = true then 1 else 0) := fun b => by cases b <;> rfl
  refine (stp5 n (v1 := l) (v2 := m) (v3 := ret) (v5 := (i : Int)) (v6 := stk) (v7 := loc) (v8 := inp) (v9 := out) (v10 := set) (v11 := rds) (v12 := held) (v13 := flt) (v14 := stp) (v15 := mem) h0 hi2 hx2).trans ?_
  rw [pop_is n _ _ _ _ _ (v6 := stk) _ _ _ _ _ _ _ _ (by omega) (by omega), Option.bind_some, pop_is n _ _ _ _ _ (v6 := pr stk) _ _ _ _ _ _ _ _ (by rw [pr_len]; omega) (by rw [pr_len]; omega), Option.bind_some]
  simp only []
  rw [(two_is n (right5 hr) _ _).1, Option.bind_some]
  rw [hb, Option.bind_some, if_pos (grow_ok (by rw [pr_len, pr_len]; omega)), hn]
  kernel_rfl
theorem sm6 (n : Nat) {l : List Ins} {m : List Int} {i : Nat} (hl : l.length ≤ 200) (hi : i < l.length) {A B : Int} (hx : l.getD i (0, 0, 0) = (6, A, B)) (hr : rightI (6, A, B) = true) {ret stk loc inp out rds : List Int} {set held flt stp : Int} {mem : MemT} (hs : stk.length ≤ 16) (hd : 1 ≤ stk.length) {mt : Int} : stepIs n l m (6, A, B) mt ⟨ret, (i : Int), stk, loc, inp, out, set, rds, held, flt, stp⟩ mem := by
  have h0 : decide ((l.length : Int) > 0) = true := decide_eq_true (by omega)
  have hi2 : (decide (0 ≤ (i : Int)) && decide ((i : Int) < (l.length : Int))) = true := in_ix hi
  have hx2 : l.getD ((i : Int)).toNat (0, 0, 0) = (6, A, B) := by rw [Int.toNat_natCast]; exact hx
  have hn := i_step (show i < 1000000 by omega)
  refine (stp6 n (v1 := l) (v2 := m) (v3 := ret) (v5 := (i : Int)) (v6 := stk) (v7 := loc) (v8 := inp) (v9 := out) (v10 := set) (v11 := rds) (v12 := held) (v13 := flt) (v14 := stp) (v15 := mem) h0 hi2 hx2).trans ?_
  rw [pop_is n _ _ _ _ _ (v6 := stk) _ _ _ _ _ _ _ _ (by omega) (by omega), Option.bind_some]
  simp only []
  rw [show num_Neg.f n (pv stk) = some (IntKind.wrap .i64 (0 - pv stk)) from rfl, Option.bind_some, if_pos (grow_ok (by rw [pr_len]; omega)), hn]
  kernel_rfl
theorem sm7 (n : Nat) {l : List Ins} {m : List Int} {i : Nat} (hl : l.length ≤ 200) (hi : i < l.length) {A B : Int} (hx : l.getD i (0, 0, 0) = (7, A, B)) (hr : rightI (7, A, B) = true) {ret stk loc inp out rds : List Int} {set held flt stp : Int} {mem : MemT} (hs : stk.length ≤ 16) (hd : 1 ≤ stk.length) {mt : Int} : stepIs n l m (7, A, B) mt ⟨ret, (i : Int), stk, loc, inp, out, set, rds, held, flt, stp⟩ mem := by
  have h0 : decide ((l.length : Int) > 0) = true := decide_eq_true (by omega)
  have hi2 : (decide (0 ≤ (i : Int)) && decide ((i : Int) < (l.length : Int))) = true := in_ix hi
  have hx2 : l.getD ((i : Int)).toNat (0, 0, 0) = (7, A, B) := by rw [Int.toNat_natCast]; exact hx
  have hn := i_step (show i < 1000000 by omega)
  have hb : num_Not.f n (pv stk) = some (if pv stk = 0 then 1 else 0) := by
    unfold num_Not.f num_Bool.f
    by_cases h : pv stk = 0
    · rw [if_pos (by simpa using h), if_pos h]; rfl
    · rw [if_neg (by simpa using h), if_neg h]; rfl
  refine (stp7 n (v1 := l) (v2 := m) (v3 := ret) (v5 := (i : Int)) (v6 := stk) (v7 := loc) (v8 := inp) (v9 := out) (v10 := set) (v11 := rds) (v12 := held) (v13 := flt) (v14 := stp) (v15 := mem) h0 hi2 hx2).trans ?_
  rw [pop_is n _ _ _ _ _ (v6 := stk) _ _ _ _ _ _ _ _ (by omega) (by omega), Option.bind_some]
  simp only []
  rw [hb, Option.bind_some, if_pos (grow_ok (by rw [pr_len]; omega)), hn]
  kernel_rfl
theorem sm8 (n : Nat) {l : List Ins} {m : List Int} {i : Nat} (hl : l.length ≤ 200) (hi : i < l.length) {A B : Int} (hx : l.getD i (0, 0, 0) = (8, A, B)) (hr : rightI (8, A, B) = true) {ret stk loc inp out rds : List Int} {set held flt stp : Int} {mem : MemT} (hs : stk.length ≤ 16) (hd : 2 ≤ stk.length) {mt : Int} : stepIs n l m (8, A, B) mt ⟨ret, (i : Int), stk, loc, inp, out, set, rds, held, flt, stp⟩ mem := by
  have h0 : decide ((l.length : Int) > 0) = true := decide_eq_true (by omega)
  have hi2 : (decide (0 ≤ (i : Int)) && decide ((i : Int) < (l.length : Int))) = true := in_ix hi
  have hx2 : l.getD ((i : Int)).toNat (0, 0, 0) = (8, A, B) := by rw [Int.toNat_natCast]; exact hx
  have hn := i_step (show i < 1000000 by omega)
  refine (stp8 n (v1 := l) (v2 := m) (v3 := ret) (v5 := (i : Int)) (v6 := stk) (v7 := loc) (v8 := inp) (v9 := out) (v10 := set) (v11 := rds) (v12 := held) (v13 := flt) (v14 := stp) (v15 := mem) h0 hi2 hx2).trans ?_
  rw [pop_is n _ _ _ _ _ (v6 := stk) _ _ _ _ _ _ _ _ (by omega) (by omega), Option.bind_some, pop_is n _ _ _ _ _ (v6 := pr stk) _ _ _ _ _ _ _ _ (by rw [pr_len]; omega) (by rw [pr_len]; omega), Option.bind_some]
  simp only []
  rw [if_pos (grow_ok (by rw [pr_len, pr_len]; omega)), hn]
  kernel_rfl
theorem sm9 (n : Nat) {l : List Ins} {m : List Int} {i : Nat} (hl : l.length ≤ 200) (hi : i < l.length) {A B : Int} (hx : l.getD i (0, 0, 0) = (9, A, B)) (hr : rightI (9, A, B) = true) {ret stk loc inp out rds : List Int} {set held flt stp : Int} {mem : MemT} (hs : stk.length ≤ 16) (hd : 2 ≤ stk.length) {mt : Int} : stepIs n l m (9, A, B) mt ⟨ret, (i : Int), stk, loc, inp, out, set, rds, held, flt, stp⟩ mem := by
  have h0 : decide ((l.length : Int) > 0) = true := decide_eq_true (by omega)
  have hi2 : (decide (0 ≤ (i : Int)) && decide ((i : Int) < (l.length : Int))) = true := in_ix hi
  have hx2 : l.getD ((i : Int)).toNat (0, 0, 0) = (9, A, B) := by rw [Int.toNat_natCast]; exact hx
  have hn := i_step (show i < 1000000 by omega)
  refine (stp9 n (v1 := l) (v2 := m) (v3 := ret) (v5 := (i : Int)) (v6 := stk) (v7 := loc) (v8 := inp) (v9 := out) (v10 := set) (v11 := rds) (v12 := held) (v13 := flt) (v14 := stp) (v15 := mem) h0 hi2 hx2).trans ?_
  rw [pop_is n _ _ _ _ _ (v6 := stk) _ _ _ _ _ _ _ _ (by omega) (by omega), Option.bind_some, pop_is n _ _ _ _ _ (v6 := pr stk) _ _ _ _ _ _ _ _ (by rw [pr_len]; omega) (by rw [pr_len]; omega), Option.bind_some]
  simp only []
  rw [if_pos (grow_ok (by rw [pr_len, pr_len]; omega)), hn]
  kernel_rfl
theorem sm10 (n : Nat) {l : List Ins} {m : List Int} {i : Nat} (hl : l.length ≤ 200) (hi : i < l.length) {A B : Int} (hx : l.getD i (0, 0, 0) = (10, A, B)) (hr : rightI (10, A, B) = true) {ret stk loc inp out rds : List Int} {set held flt stp : Int} {mem : MemT} (hs : stk.length ≤ 16) {mt : Int} : stepIs n l m (10, A, B) mt ⟨ret, (i : Int), stk, loc, inp, out, set, rds, held, flt, stp⟩ mem := by
  have h0 : decide ((l.length : Int) > 0) = true := decide_eq_true (by omega)
  have hi2 : (decide (0 ≤ (i : Int)) && decide ((i : Int) < (l.length : Int))) = true := in_ix hi
  have hx2 : l.getD ((i : Int)).toNat (0, 0, 0) = (10, A, B) := by rw [Int.toNat_natCast]; exact hx
  have hn := i_step (show i < 1000000 by omega)
  refine (stp10 n (v1 := l) (v2 := m) (v3 := ret) (v5 := (i : Int)) (v6 := stk) (v7 := loc) (v8 := inp) (v9 := out) (v10 := set) (v11 := rds) (v12 := held) (v13 := flt) (v14 := stp) (v15 := mem) h0 hi2 hx2).trans ?_
  rw [hn]
  kernel_rfl
theorem sm11 (n : Nat) {l : List Ins} {m : List Int} {i : Nat} (hl : l.length ≤ 200) (hi : i < l.length) {A B : Int} (hx : l.getD i (0, 0, 0) = (11, A, B)) (hr : rightI (11, A, B) = true) {ret stk loc inp out rds : List Int} {set held flt stp : Int} {mem : MemT} (hs : stk.length ≤ 16) {mt : Int} : stepIs n l m (11, A, B) mt ⟨ret, (i : Int), stk, loc, inp, out, set, rds, held, flt, stp⟩ mem := by
  have h0 : decide ((l.length : Int) > 0) = true := decide_eq_true (by omega)
  have hi2 : (decide (0 ≤ (i : Int)) && decide ((i : Int) < (l.length : Int))) = true := in_ix hi
  have hx2 : l.getD ((i : Int)).toNat (0, 0, 0) = (11, A, B) := by rw [Int.toNat_natCast]; exact hx
  have hn := i_step (show i < 1000000 by omega)
  have ha := right8 (by omega) hr
  refine (stp11 n (v1 := l) (v2 := m) (v3 := ret) (v5 := (i : Int)) (v6 := stk) (v7 := loc) (v8 := inp) (v9 := out) (v10 := set) (v11 := rds) (v12 := held) (v13 := flt) (v14 := stp) (v15 := mem) h0 hi2 hx2).trans ?_
  rw [if_pos (ix_ok (by omega)), if_pos (grow_ok (by omega)), hn]
  kernel_rfl
theorem sm13 (n : Nat) {l : List Ins} {m : List Int} {i : Nat} (hl : l.length ≤ 200) (hi : i < l.length) {A B : Int} (hx : l.getD i (0, 0, 0) = (13, A, B)) (hr : rightI (13, A, B) = true) {ret stk loc inp out rds : List Int} {set held flt stp : Int} {mem : MemT} (hs : stk.length ≤ 16) {mt : Int} : stepIs n l m (13, A, B) mt ⟨ret, (i : Int), stk, loc, inp, out, set, rds, held, flt, stp⟩ mem := by
  have h0 : decide ((l.length : Int) > 0) = true := decide_eq_true (by omega)
  have hi2 : (decide (0 ≤ (i : Int)) && decide ((i : Int) < (l.length : Int))) = true := in_ix hi
  have hx2 : l.getD ((i : Int)).toNat (0, 0, 0) = (13, A, B) := by rw [Int.toNat_natCast]; exact hx
  have hn := i_step (show i < 1000000 by omega)
  have ha := right8 (by omega) hr
  refine (stp13 n (v1 := l) (v2 := m) (v3 := ret) (v5 := (i : Int)) (v6 := stk) (v7 := loc) (v8 := inp) (v9 := out) (v10 := set) (v11 := rds) (v12 := held) (v13 := flt) (v14 := stp) (v15 := mem) h0 hi2 hx2).trans ?_
  rw [if_pos (ix_ok (by omega)), if_pos (grow_ok (by omega)), hn]
  kernel_rfl
theorem sm15 (n : Nat) {l : List Ins} {m : List Int} {i : Nat} (hl : l.length ≤ 200) (hi : i < l.length) {A B : Int} (hx : l.getD i (0, 0, 0) = (15, A, B)) (hr : rightI (15, A, B) = true) {ret stk loc inp out rds : List Int} {set held flt stp : Int} {mem : MemT} (hs : stk.length ≤ 16) {mt : Int} : stepIs n l m (15, A, B) mt ⟨ret, (i : Int), stk, loc, inp, out, set, rds, held, flt, stp⟩ mem := by
  have h0 : decide ((l.length : Int) > 0) = true := decide_eq_true (by omega)
  have hi2 : (decide (0 ≤ (i : Int)) && decide ((i : Int) < (l.length : Int))) = true := in_ix hi
  have hx2 : l.getD ((i : Int)).toNat (0, 0, 0) = (15, A, B) := by rw [Int.toNat_natCast]; exact hx
  have hn := i_step (show i < 1000000 by omega)
  have ha := right16 (by omega) hr
  refine (stp15 n (v1 := l) (v2 := m) (v3 := ret) (v5 := (i : Int)) (v6 := stk) (v7 := loc) (v8 := inp) (v9 := out) (v10 := set) (v11 := rds) (v12 := held) (v13 := flt) (v14 := stp) (v15 := mem) h0 hi2 hx2).trans ?_
  rw [if_pos (ix_ok (by omega)), if_pos (grow_ok (by omega)), hn]
  kernel_rfl
theorem sm17 (n : Nat) {l : List Ins} {m : List Int} {i : Nat} (hl : l.length ≤ 200) (hi : i < l.length) {A B : Int} (hx : l.getD i (0, 0, 0) = (17, A, B)) (hr : rightI (17, A, B) = true) {ret stk loc inp out rds : List Int} {set held flt stp : Int} {mem : MemT} (hs : stk.length ≤ 16) {mt : Int} : stepIs n l m (17, A, B) mt ⟨ret, (i : Int), stk, loc, inp, out, set, rds, held, flt, stp⟩ mem := by
  have h0 : decide ((l.length : Int) > 0) = true := decide_eq_true (by omega)
  have hi2 : (decide (0 ≤ (i : Int)) && decide ((i : Int) < (l.length : Int))) = true := in_ix hi
  have hx2 : l.getD ((i : Int)).toNat (0, 0, 0) = (17, A, B) := by rw [Int.toNat_natCast]; exact hx
  have hn := i_step (show i < 1000000 by omega)
  have ha := right88 (by omega) hr
  refine (stp17 n (v1 := l) (v2 := m) (v3 := ret) (v5 := (i : Int)) (v6 := stk) (v7 := loc) (v8 := inp) (v9 := out) (v10 := set) (v11 := rds) (v12 := held) (v13 := flt) (v14 := stp) (v15 := mem) h0 hi2 hx2).trans ?_
  rw [if_pos (ix_ok (by omega)), if_pos (ix_ok (by omega)), if_pos (grow_ok (by omega)), hn]
  kernel_rfl
theorem sm12 (n : Nat) {l : List Ins} {m : List Int} {i : Nat} (hl : l.length ≤ 200) (hi : i < l.length) {A B : Int} (hx : l.getD i (0, 0, 0) = (12, A, B)) (hr : rightI (12, A, B) = true) {ret stk loc inp out rds : List Int} {set held flt stp : Int} {mem : MemT} (hs : stk.length ≤ 16) (hd : 1 ≤ stk.length) {mt : Int} : stepIs n l m (12, A, B) mt ⟨ret, (i : Int), stk, loc, inp, out, set, rds, held, flt, stp⟩ mem := by
  have h0 : decide ((l.length : Int) > 0) = true := decide_eq_true (by omega)
  have hi2 : (decide (0 ≤ (i : Int)) && decide ((i : Int) < (l.length : Int))) = true := in_ix hi
  have hx2 : l.getD ((i : Int)).toNat (0, 0, 0) = (12, A, B) := by rw [Int.toNat_natCast]; exact hx
  have hn := i_step (show i < 1000000 by omega)
  have ha := right8 (by omega) hr
  refine (stp12 n (v1 := l) (v2 := m) (v3 := ret) (v5 := (i : Int)) (v6 := stk) (v7 := loc) (v8 := inp) (v9 := out) (v10 := set) (v11 := rds) (v12 := held) (v13 := flt) (v14 := stp) (v15 := mem) h0 hi2 hx2).trans ?_
  rw [pop_is n _ _ _ _ _ (v6 := stk) _ _ _ _ _ _ _ _ (by omega) (by omega), Option.bind_some, if_pos (ix_ok (by omega)), hn]
  kernel_rfl
theorem sm14 (n : Nat) {l : List Ins} {m : List Int} {i : Nat} (hl : l.length ≤ 200) (hi : i < l.length) {A B : Int} (hx : l.getD i (0, 0, 0) = (14, A, B)) (hr : rightI (14, A, B) = true) {ret stk loc inp out rds : List Int} {set held flt stp : Int} {mem : MemT} (hs : stk.length ≤ 16) (hd : 1 ≤ stk.length) {mt : Int} : stepIs n l m (14, A, B) mt ⟨ret, (i : Int), stk, loc, inp, out, set, rds, held, flt, stp⟩ mem := by
  have h0 : decide ((l.length : Int) > 0) = true := decide_eq_true (by omega)
  have hi2 : (decide (0 ≤ (i : Int)) && decide ((i : Int) < (l.length : Int))) = true := in_ix hi
  have hx2 : l.getD ((i : Int)).toNat (0, 0, 0) = (14, A, B) := by rw [Int.toNat_natCast]; exact hx
  have hn := i_step (show i < 1000000 by omega)
  have ha := right8 (by omega) hr
  refine (stp14 n (v1 := l) (v2 := m) (v3 := ret) (v5 := (i : Int)) (v6 := stk) (v7 := loc) (v8 := inp) (v9 := out) (v10 := set) (v11 := rds) (v12 := held) (v13 := flt) (v14 := stp) (v15 := mem) h0 hi2 hx2).trans ?_
  rw [pop_is n _ _ _ _ _ (v6 := stk) _ _ _ _ _ _ _ _ (by omega) (by omega), Option.bind_some, if_pos (ix_ok (by omega)), hn]
  kernel_rfl
theorem sm16 (n : Nat) {l : List Ins} {m : List Int} {i : Nat} (hl : l.length ≤ 200) (hi : i < l.length) {A B : Int} (hx : l.getD i (0, 0, 0) = (16, A, B)) (hr : rightI (16, A, B) = true) {ret stk loc inp out rds : List Int} {set held flt stp : Int} {mem : MemT} (hs : stk.length ≤ 16) (hd : 1 ≤ stk.length) {mt : Int} : stepIs n l m (16, A, B) mt ⟨ret, (i : Int), stk, loc, inp, out, set, rds, held, flt, stp⟩ mem := by
  have h0 : decide ((l.length : Int) > 0) = true := decide_eq_true (by omega)
  have hi2 : (decide (0 ≤ (i : Int)) && decide ((i : Int) < (l.length : Int))) = true := in_ix hi
  have hx2 : l.getD ((i : Int)).toNat (0, 0, 0) = (16, A, B) := by rw [Int.toNat_natCast]; exact hx
  have hn := i_step (show i < 1000000 by omega)
  have ha := right16 (by omega) hr
  refine (stp16 n (v1 := l) (v2 := m) (v3 := ret) (v5 := (i : Int)) (v6 := stk) (v7 := loc) (v8 := inp) (v9 := out) (v10 := set) (v11 := rds) (v12 := held) (v13 := flt) (v14 := stp) (v15 := mem) h0 hi2 hx2).trans ?_
  rw [pop_is n _ _ _ _ _ (v6 := stk) _ _ _ _ _ _ _ _ (by omega) (by omega), Option.bind_some, if_pos (ix_ok (by omega)), if_neg (by simp; omega), hn]
  kernel_rfl
theorem sm18 (n : Nat) {l : List Ins} {m : List Int} {i : Nat} (hl : l.length ≤ 200) (hi : i < l.length) {A B : Int} (hx : l.getD i (0, 0, 0) = (18, A, B)) (hr : rightI (18, A, B) = true) {ret stk loc inp out rds : List Int} {set held flt stp : Int} {mem : MemT} (hs : stk.length ≤ 16) (hd : 1 ≤ stk.length) {mt : Int} : stepIs n l m (18, A, B) mt ⟨ret, (i : Int), stk, loc, inp, out, set, rds, held, flt, stp⟩ mem := by
  have h0 : decide ((l.length : Int) > 0) = true := decide_eq_true (by omega)
  have hi2 : (decide (0 ≤ (i : Int)) && decide ((i : Int) < (l.length : Int))) = true := in_ix hi
  have hx2 : l.getD ((i : Int)).toNat (0, 0, 0) = (18, A, B) := by rw [Int.toNat_natCast]; exact hx
  have hn := i_step (show i < 1000000 by omega)
  have ha := right88 (by omega) hr
  refine (stp18 n (v1 := l) (v2 := m) (v3 := ret) (v5 := (i : Int)) (v6 := stk) (v7 := loc) (v8 := inp) (v9 := out) (v10 := set) (v11 := rds) (v12 := held) (v13 := flt) (v14 := stp) (v15 := mem) h0 hi2 hx2).trans ?_
  rw [pop_is n _ _ _ _ _ (v6 := stk) _ _ _ _ _ _ _ _ (by omega) (by omega), Option.bind_some, if_pos (ix_ok (by omega)), if_pos (ix_ok (by omega)), hn]
  kernel_rfl
theorem sm19 (n : Nat) {l : List Ins} {m : List Int} {i : Nat} (hl : l.length ≤ 200) (hi : i < l.length) {A B : Int} (hx : l.getD i (0, 0, 0) = (19, A, B)) (hr : rightI (19, A, B) = true) {ret stk loc inp out rds : List Int} {set held flt stp : Int} {mem : MemT} (hs : stk.length ≤ 16) {mt : Int} : stepIs n l m (19, A, B) mt ⟨ret, (i : Int), stk, loc, inp, out, set, rds, held, flt, stp⟩ mem := by
  have h0 : decide ((l.length : Int) > 0) = true := decide_eq_true (by omega)
  have hi2 : (decide (0 ≤ (i : Int)) && decide ((i : Int) < (l.length : Int))) = true := in_ix hi
  have hx2 : l.getD ((i : Int)).toNat (0, 0, 0) = (19, A, B) := by rw [Int.toNat_natCast]; exact hx
  have hn := i_step (show i < 1000000 by omega)
  have ha := rightJ (.inl rfl) hr
  refine (stp19 n (v1 := l) (v2 := m) (v3 := ret) (v5 := (i : Int)) (v6 := stk) (v7 := loc) (v8 := inp) (v9 := out) (v10 := set) (v11 := rds) (v12 := held) (v13 := flt) (v14 := stp) (v15 := mem) h0 hi2 hx2).trans ?_
  rw [hn, wrap_id (show -9223372036854775808 ≤ (i : Int) + 1 + A by omega) (by omega)]
  kernel_rfl
theorem sm20 (n : Nat) {l : List Ins} {m : List Int} {i : Nat} (hl : l.length ≤ 200) (hi : i < l.length) {A B : Int} (hx : l.getD i (0, 0, 0) = (20, A, B)) (hr : rightI (20, A, B) = true) {ret stk loc inp out rds : List Int} {set held flt stp : Int} {mem : MemT} (hs : stk.length ≤ 16) (hd : 1 ≤ stk.length) {mt : Int} : stepIs n l m (20, A, B) mt ⟨ret, (i : Int), stk, loc, inp, out, set, rds, held, flt, stp⟩ mem := by
  have h0 : decide ((l.length : Int) > 0) = true := decide_eq_true (by omega)
  have hi2 : (decide (0 ≤ (i : Int)) && decide ((i : Int) < (l.length : Int))) = true := in_ix hi
  have hx2 : l.getD ((i : Int)).toNat (0, 0, 0) = (20, A, B) := by rw [Int.toNat_natCast]; exact hx
  have hn := i_step (show i < 1000000 by omega)
  have ha := rightJ (.inr rfl) hr
  refine (stp20 n (v1 := l) (v2 := m) (v3 := ret) (v5 := (i : Int)) (v6 := stk) (v7 := loc) (v8 := inp) (v9 := out) (v10 := set) (v11 := rds) (v12 := held) (v13 := flt) (v14 := stp) (v15 := mem) h0 hi2 hx2).trans ?_
  rw [pop_is n _ _ _ _ _ (v6 := stk) _ _ _ _ _ _ _ _ (by omega) (by omega), Option.bind_some]
  simp only []
  rw [hn, wrap_id (show -9223372036854775808 ≤ (i : Int) + 1 + A by omega) (by omega)]
  by_cases h : pv stk = 0
  · rw [if_pos (by simpa using h)]
    unfold stepM
    rw [show nextM (20, A, B) mt ⟨ret, (i : Int), stk, loc, inp, out, set, rds, held, flt, stp⟩ = (i : Int) + 1 + A by
      unfold nextM
      rw [if_neg (show ¬ (20 : Int) = 19 by decide), if_pos rfl, if_pos h]]
    kernel_rfl
  · rw [if_neg (by simpa using h)]
    unfold stepM
    rw [show nextM (20, A, B) mt ⟨ret, (i : Int), stk, loc, inp, out, set, rds, held, flt, stp⟩ = (i : Int) + 1 by
      unfold nextM
      rw [if_neg (show ¬ (20 : Int) = 19 by decide), if_pos rfl, if_neg h]]
    kernel_rfl
theorem sm21 (n : Nat) {l : List Ins} {m : List Int} {i : Nat} (hl : l.length ≤ 200) (hi : i < l.length) {A B : Int} (hx : l.getD i (0, 0, 0) = (21, A, B)) (hr : rightI (21, A, B) = true) {ret stk loc inp out rds : List Int} {set held flt stp : Int} {mem : MemT} (hs : stk.length ≤ 16) (hd : rds.length ≤ 200) {mt : Int} : stepIs n l m (21, A, B) mt ⟨ret, (i : Int), stk, loc, inp, out, set, rds, held, flt, stp⟩ mem := by
  have h0 : decide ((l.length : Int) > 0) = true := decide_eq_true (by omega)
  have hi2 : (decide (0 ≤ (i : Int)) && decide ((i : Int) < (l.length : Int))) = true := in_ix hi
  have hx2 : l.getD ((i : Int)).toNat (0, 0, 0) = (21, A, B) := by rw [Int.toNat_natCast]; exact hx
  have hn := i_step (show i < 1000000 by omega)
  refine (stp21 n (v1 := l) (v2 := m) (v3 := ret) (v5 := (i : Int)) (v6 := stk) (v7 := loc) (v8 := inp) (v9 := out) (v10 := set) (v11 := rds) (v12 := held) (v13 := flt) (v14 := stp) (v15 := mem) h0 hi2 hx2).trans ?_
  rw [if_pos (grow_ok (by omega)), hn]
  kernel_rfl
theorem sm22 (n : Nat) {l : List Ins} {m : List Int} {i : Nat} (hl : l.length ≤ 200) (hi : i < l.length) {A B : Int} (hx : l.getD i (0, 0, 0) = (22, A, B)) (hr : rightI (22, A, B) = true) {ret stk loc inp out rds : List Int} {set held flt stp : Int} {mem : MemT} (hs : stk.length ≤ 16) {r0 : List Int} {r : Int} (hrd : rds = r0 ++ [r]) (hr1 : 1 ≤ r ∧ r ≤ 1000) (hd : r0.length ≤ 200) (hm : m.length = l.length) {k : Nat} (hk : m.getD i 0 = (k : Int)) (hk2 : k < i) {mt : Int} (hmt : mt = m.getD i 0) : stepIs n l m (22, A, B) mt ⟨ret, (i : Int), stk, loc, inp, out, set, rds, held, flt, stp⟩ mem := by
  have h0 : decide ((l.length : Int) > 0) = true := decide_eq_true (by omega)
  have hi2 : (decide (0 ≤ (i : Int)) && decide ((i : Int) < (l.length : Int))) = true := in_ix hi
  have hx2 : l.getD ((i : Int)).toNat (0, 0, 0) = (22, A, B) := by rw [Int.toNat_natCast]; exact hx
  have hn := i_step (show i < 1000000 by omega)
  have hlen : (r0 ++ [r]).length = r0.length + 1 := by simp
  subst hrd
  have e1 : IntKind.wrap .i64 (((r0 ++ [r]).length : Int) - 1) = (r0.length : Int) := by
    rw [wrap_id (by omega) (by omega)]; omega
  have e2 : (r0 ++ [r]).getD r0.length 0 = r := by
    have := pv_app r0 r
    unfold pv at this
    rw [hlen, Nat.add_sub_cancel] at this
    exact this
  have e3 : IntKind.wrap .i64 (r - 1) = r - 1 := wrap_id (by omega) (by omega)
  have e4 : (r0 ++ [r - 1]).getD r0.length 0 = r - 1 := by
    have := pv_app r0 (r - 1)
    unfold pv at this
    rw [show (r0 ++ [r - 1]).length = r0.length + 1 by simp, Nat.add_sub_cancel] at this
    exact this
  have e5 : (r0 ++ [r - 1]).length = r0.length + 1 := by simp
  have e6 : (r0 ++ [r - 1]).take r0.length = r0 := by rw [List.take_left]
  have a1 : r - 1 > 0 → nextM (22, A, B) mt ⟨ret, (i : Int), stk, loc, inp, out, set, r0 ++ [r], held, flt, stp⟩ = (k : Int) + 1 ∧ rdsM (22, A, B) ⟨ret, (i : Int), stk, loc, inp, out, set, r0 ++ [r], held, flt, stp⟩ = r0 ++ [r - 1] := fun h => by
    unfold nextM rdsM
    simp only [pv_app, pr_app]
    simp only [if_true, if_pos h, hmt, hk]
    exact ⟨rfl, rfl⟩
  have a2 : ¬ r - 1 > 0 → nextM (22, A, B) mt ⟨ret, (i : Int), stk, loc, inp, out, set, r0 ++ [r], held, flt, stp⟩ = (i : Int) + 1 ∧ rdsM (22, A, B) ⟨ret, (i : Int), stk, loc, inp, out, set, r0 ++ [r], held, flt, stp⟩ = r0 := fun h => by
    unfold nextM rdsM
    simp only [pv_app, pr_app]
    simp only [if_true, if_neg h]
    exact ⟨rfl, rfl⟩
  refine (stp22 n (v1 := l) (v2 := m) (v3 := ret) (v5 := (i : Int)) (v6 := stk) (v7 := loc) (v8 := inp) (v9 := out) (v10 := set) (v11 := r0 ++ [r]) (v12 := held) (v13 := flt) (v14 := stp) (v15 := mem) h0 hi2 hx2).trans ?_
  rw [e1]
  simp only [Int.toNat_natCast, e2, e3, set_last, e4, Nat.sub_zero, e6, hk]
  rw [if_pos (in_ix (by omega)), if_pos (in_ix (by omega)), if_pos (in_ix (by omega)), hn, i_step (show k < 1000000 by omega)]
  by_cases h : r - 1 > 0
  · rw [if_pos (decide_eq_true h), if_pos (in_ix (by omega))]
    unfold stepM
    rw [(a1 h).1, (a1 h).2]
    kernel_rfl
  · rw [if_neg (by simpa using h), if_pos (by simp only [e5, Bool.and_eq_true, decide_eq_true_eq]; omega)]
    unfold stepM
    rw [(a2 h).1, (a2 h).2]
    kernel_rfl
theorem sm23 (n : Nat) {l : List Ins} {m : List Int} {i : Nat} (hl : l.length ≤ 200) (hi : i < l.length) {A B : Int} (hx : l.getD i (0, 0, 0) = (23, A, B)) (hr : rightI (23, A, B) = true) {ret stk loc inp out rds : List Int} {set held flt stp : Int} {mem : MemT} (hs : stk.length ≤ 16) {mt : Int} : stepIs n l m (23, A, B) mt ⟨ret, (i : Int), stk, loc, inp, out, set, rds, held, flt, stp⟩ mem := by
  have h0 : decide ((l.length : Int) > 0) = true := decide_eq_true (by omega)
  have hi2 : (decide (0 ≤ (i : Int)) && decide ((i : Int) < (l.length : Int))) = true := in_ix hi
  have hx2 : l.getD ((i : Int)).toNat (0, 0, 0) = (23, A, B) := by rw [Int.toNat_natCast]; exact hx
  have hn := i_step (show i < 1000000 by omega)
  have ha := right8 (by omega) hr
  refine (stp23 n (v1 := l) (v2 := m) (v3 := ret) (v5 := (i : Int)) (v6 := stk) (v7 := loc) (v8 := inp) (v9 := out) (v10 := set) (v11 := rds) (v12 := held) (v13 := flt) (v14 := stp) (v15 := mem) h0 hi2 hx2).trans ?_
  rw [if_neg (by simp; omega), hn]
  kernel_rfl
theorem sm24 (n : Nat) {l : List Ins} {m : List Int} {i : Nat} (hl : l.length ≤ 200) (hi : i < l.length) {A B : Int} (hx : l.getD i (0, 0, 0) = (24, A, B)) (hr : rightI (24, A, B) = true) {ret stk loc inp out rds : List Int} {set held flt stp : Int} {mem : MemT} (hs : stk.length ≤ 16) {mt : Int} : stepIs n l m (24, A, B) mt ⟨ret, (i : Int), stk, loc, inp, out, set, rds, held, flt, stp⟩ mem := by
  have h0 : decide ((l.length : Int) > 0) = true := decide_eq_true (by omega)
  have hi2 : (decide (0 ≤ (i : Int)) && decide ((i : Int) < (l.length : Int))) = true := in_ix hi
  have hx2 : l.getD ((i : Int)).toNat (0, 0, 0) = (24, A, B) := by rw [Int.toNat_natCast]; exact hx
  have hn := i_step (show i < 1000000 by omega)
  have ha := right8 (by omega) hr
  refine (stp24 n (v1 := l) (v2 := m) (v3 := ret) (v5 := (i : Int)) (v6 := stk) (v7 := loc) (v8 := inp) (v9 := out) (v10 := set) (v11 := rds) (v12 := held) (v13 := flt) (v14 := stp) (v15 := mem) h0 hi2 hx2).trans ?_
  rw [if_neg (by simp; omega), hn]
  kernel_rfl
theorem sm25 (n : Nat) {l : List Ins} {m : List Int} {i : Nat} (hl : l.length ≤ 200) (hi : i < l.length) {A B : Int} (hx : l.getD i (0, 0, 0) = (25, A, B)) (hr : rightI (25, A, B) = true) {ret stk loc inp out rds : List Int} {set held flt stp : Int} {mem : MemT} (hs : stk.length ≤ 16) {mt : Int} : stepIs n l m (25, A, B) mt ⟨ret, (i : Int), stk, loc, inp, out, set, rds, held, flt, stp⟩ mem := by
  have h0 : decide ((l.length : Int) > 0) = true := decide_eq_true (by omega)
  have hi2 : (decide (0 ≤ (i : Int)) && decide ((i : Int) < (l.length : Int))) = true := in_ix hi
  have hx2 : l.getD ((i : Int)).toNat (0, 0, 0) = (25, A, B) := by rw [Int.toNat_natCast]; exact hx
  have hn := i_step (show i < 1000000 by omega)
  refine (stp25 n (v1 := l) (v2 := m) (v3 := ret) (v5 := (i : Int)) (v6 := stk) (v7 := loc) (v8 := inp) (v9 := out) (v10 := set) (v11 := rds) (v12 := held) (v13 := flt) (v14 := stp) (v15 := mem) h0 hi2 hx2).trans ?_
  rw [hn]
  kernel_rfl
end Go.Proofs.Dk

/- Plain: a machine's state stays in order. -/
namespace Go.Proofs.Dk
open Go
set_option maxRecDepth 100000
set_option linter.unusedVariables false
set_option linter.unusedSimpArgs false
theorem bits01 {x y : Int} (hx : x = 0 ∨ x = 1) (hy : y = 0 ∨ y = 1) : (bits .and .i64 y x = 0 ∨ bits .and .i64 y x = 1) ∧ (bits .or .i64 y x = 0 ∨ bits .or .i64 y x = 1) := by
  rcases hx with rfl | rfl <;> rcases hy with rfl | rfl
  · exact ⟨.inl (by kernel_rfl), .inl (by kernel_rfl)⟩
  · exact ⟨.inl (by kernel_rfl), .inr (by kernel_rfl)⟩
  · exact ⟨.inl (by kernel_rfl), .inr (by kernel_rfl)⟩
  · exact ⟨.inr (by kernel_rfl), .inr (by kernel_rfl)⟩
theorem vt_step {o A B : Int} {t : ByteArray} {S : MS} {mem : MemT} (hr : rightI (o, A, B) = true) (h : (afterI (o, A, B) t).2 = 0) (hv : VT t S.stk) :
    VT (afterI (o, A, B) t).1 (stkM (o, A, B) S mem) ∧ (o = 2 ∨ o = 3 ∨ o = 6 ∨ o = 7 ∨ o = 12 ∨ o = 14 ∨ o = 16 ∨ o = 18 ∨ o = 20 → 1 ≤ S.stk.length) ∧ (o = 4 ∨ o = 5 ∨ o = 8 ∨ o = 9 → 2 ≤ S.stk.length) := by
  have hA := fun (h5 : o = 5) => right5 (h5 ▸ hr)
  have in_ : ∀ y, (o = 1 ∨ o = 11 ∨ o = 13 ∨ o = 15 ∨ o = 17) → stkM (o, A, B) S mem = S.stk ++ [y] → VT (afterI (o, A, B) t).1 (stkM (o, A, B) S mem) ∧ (o = 2 ∨ o = 3 ∨ o = 6 ∨ o = 7 ∨ o = 12 ∨ o = 14 ∨ o = 16 ∨ o = 18 ∨ o = 20 → 1 ≤ S.stk.length) ∧ (o = 4 ∨ o = 5 ∨ o = 8 ∨ o = 9 → 2 ≤ S.stk.length) := fun y ho e => by
    rw [e]
    exact ⟨vt_in h hv ho y, fun h => by omega, fun h => by omega⟩
  have out : (o = 2 ∨ o = 12 ∨ o = 14 ∨ o = 16 ∨ o = 18 ∨ o = 20) → VT (afterI (o, A, B) t).1 (stkM (o, A, B) S mem) ∧ (o = 2 ∨ o = 3 ∨ o = 6 ∨ o = 7 ∨ o = 12 ∨ o = 14 ∨ o = 16 ∨ o = 18 ∨ o = 20 → 1 ≤ S.stk.length) ∧ (o = 4 ∨ o = 5 ∨ o = 8 ∨ o = 9 → 2 ≤ S.stk.length) := fun ho => by
    obtain ⟨r, x, e1, e2⟩ := vt_out h hv ho
    have e : stkM (o, A, B) S mem = pr S.stk := by
      unfold stkM
      rw [if_neg (by show ¬ o = 1; omega), if_pos (show o = 2 ∨ o = 12 ∨ o = 14 ∨ o = 16 ∨ o = 18 ∨ o = 20 from ho)]
    rw [e, e1, pr_app]
    exact ⟨e2, fun _ => by simp, fun h => by omega⟩
  have no : (o = 19 ∨ o = 21 ∨ o = 22 ∨ o = 23 ∨ o = 24 ∨ o = 25) → stkM (o, A, B) S mem = S.stk → VT (afterI (o, A, B) t).1 (stkM (o, A, B) S mem) ∧ (o = 2 ∨ o = 3 ∨ o = 6 ∨ o = 7 ∨ o = 12 ∨ o = 14 ∨ o = 16 ∨ o = 18 ∨ o = 20 → 1 ≤ S.stk.length) ∧ (o = 4 ∨ o = 5 ∨ o = 8 ∨ o = 9 → 2 ≤ S.stk.length) := fun ho e => by
    rw [e]
    exact ⟨vt_no h hv ho, fun h => by omega, fun h => by omega⟩
  rcases op_cases (right_op hr) with ho | ho | ho | ho | ho | ho | ho | ho | ho | ho | ho | ho | ho | ho | ho | ho | ho | ho | ho | ho | ho | ho | ho | ho | ho
  · exact in_ A (by omega) (by subst ho; kernel_rfl)
  · exact out (by omega)
  · obtain ⟨r, x, e1, e2⟩ := vt_dup h hv ho
    have e : stkM (o, A, B) S mem = S.stk ++ [pv S.stk] := by subst ho; kernel_rfl
    rw [e, e1, pv_app, List.append_assoc]
    exact ⟨e2, fun _ => by simp, fun h => by omega⟩
  · obtain ⟨r, x, y, e1, e2⟩ := vt_swap h hv ho
    have e : stkM (o, A, B) S mem = (pr (pr S.stk) ++ [pv S.stk]) ++ [pv (pr S.stk)] := by subst ho; kernel_rfl
    rw [e, e1, pv_app2, pr_app2, pv_app, pr_app, List.append_assoc]
    exact ⟨e2, fun h => by omega, fun _ => by simp⟩
  · obtain ⟨r, x, y, e1, e2⟩ := vt_bin h hv ho
    have e : stkM (o, A, B) S mem = pr (pr S.stk) ++ [(twoI A (pv (pr S.stk)) (pv S.stk)).1] := by subst ho; kernel_rfl
    rw [e, e1, pv_app2, pr_app2, pv_app, pr_app]
    exact ⟨e2 _ (two_is 0 (hA ho) _ _).2, fun h => by omega, fun _ => by simp⟩
  · obtain ⟨r, x, e1, e2⟩ := vt_neg h hv ho
    have e : stkM (o, A, B) S mem = pr S.stk ++ [IntKind.wrap .i64 (0 - pv S.stk)] := by subst ho; kernel_rfl
    rw [e, e1, pr_app]
    exact ⟨e2 _, fun _ => by simp, fun h => by omega⟩
  · obtain ⟨r, x, e1, e2, e3⟩ := vt_not h hv ho
    have e : stkM (o, A, B) S mem = pr S.stk ++ [if pv S.stk = 0 then 1 else 0] := by subst ho; kernel_rfl
    rw [e, e1, pr_app]
    exact ⟨e3 _ (by split; exact .inr rfl; exact .inl rfl), fun _ => by simp, fun h => by omega⟩
  · obtain ⟨r, x, y, e1, e2, e3, e4⟩ := vt_log h hv (.inl ho)
    have e : stkM (o, A, B) S mem = pr (pr S.stk) ++ [bits .and .i64 (pv S.stk) (pv (pr S.stk))] := by subst ho; kernel_rfl
    rw [e, e1, pv_app2, pr_app2, pv_app, pr_app]
    exact ⟨e4 _ (bits01 e2 e3).1, fun h => by omega, fun _ => by simp⟩
  · obtain ⟨r, x, y, e1, e2, e3, e4⟩ := vt_log h hv (.inr ho)
    have e : stkM (o, A, B) S mem = pr (pr S.stk) ++ [bits .or .i64 (pv S.stk) (pv (pr S.stk))] := by subst ho; kernel_rfl
    rw [e, e1, pv_app2, pr_app2, pv_app, pr_app]
    exact ⟨e4 _ (bits01 e2 e3).2, fun h => by omega, fun _ => by simp⟩
  · have e : stkM (o, A, B) S mem = S.stk := by subst ho; kernel_rfl
    rw [e]
    exact ⟨vt_cast h hv ho, fun h => by omega, fun h => by omega⟩
  · exact in_ (S.loc.getD A.toNat 0) (by omega) (by subst ho; kernel_rfl)
  · exact out (by omega)
  · exact in_ (S.ret.getD A.toNat 0) (by omega) (by subst ho; kernel_rfl)
  · exact out (by omega)
  · exact in_ (S.inp.getD A.toNat 0) (by omega) (by subst ho; kernel_rfl)
  · exact out (by omega)
  · exact in_ ((mem.getD A.toNat z8).getD B.toNat 0) (by omega) (by subst ho; kernel_rfl)
  · exact out (by omega)
  · exact no (by omega) (by subst ho; kernel_rfl)
  · exact out (by omega)
  · exact no (by omega) (by subst ho; kernel_rfl)
  · exact no (by omega) (by subst ho; kernel_rfl)
  · exact no (by omega) (by subst ho; kernel_rfl)
  · exact no (by omega) (by subst ho; kernel_rfl)
  · exact no (by omega) (by subst ho; kernel_rfl)
theorem Ok.len {l : List Ins} {m h : List Int} {st : List ByteArray} (hR : Row l m h st) {s : MS} {i : Nat} {rs : List (Nat × Int)} (hO : Ok l m st s i rs) : s.stk.length ≤ 16 ∧ s.rds.length ≤ 200 ∧ l.length ≤ 200 := by
  have h1 := hO.vt.len
  have h2 := hR.stk.sz i
  have h3 := hR.fine.len
  have h4 : rs.length ≤ i := by
    have e : (rs.map (·.1)).length = rs.length := List.length_map _
    rw [← e, hO.lps]
    unfold Go.Proofs.Dk.lps
    exact Nat.le_trans (List.length_filter_le _ _) (by rw [List.length_range]; exact Nat.le_refl _)
  have h5 := hO.lt
  rw [hO.rds, List.length_map]
  omega
theorem step_is {l : List Ins} {m h : List Int} {st : List ByteArray} (hR : Row l m h st) {s : MS} {i : Nat} {rs : List (Nat × Int)} (hO : Ok l m st s i rs) (n : Nat) (mem : MemT) : stepIs n l m (l.getD i (0, 0, 0)) (m.getD i 0) s mem := by
  obtain ⟨hstk, hrl, hl⟩ := hO.len hR
  have hi := hO.lt
  have hF := hR.fine
  have hr := hF.right hi
  have hok := hR.stk.ok i hi
  have hlast : opAt l i = 22 → ∃ (k : Nat) (r0 : List Int) (r : Int), m.getD i 0 = (k : Int) ∧ k < i ∧ s.rds = r0 ++ [r] ∧ 1 ≤ r ∧ r ≤ 1000 ∧ r0.length ≤ 200 := fun h22 => by
    obtain ⟨k, a1, a2, a3, a4, a5, a6, a7⟩ := lps_next hF hi h22
    have e := hO.lps
    rw [a5] at e
    obtain ⟨rs0, rs1, e1, e2, e3⟩ := List.map_eq_append_iff.1 e
    obtain ⟨q, e4, e5⟩ := List.map_eq_singleton_iff.1 e3
    have hb := hO.rnd q (by rw [e1, e4]; simp)
    have hA := arg21 (hF.right (show k < l.length by omega)) a3
    rw [e5] at hb
    refine ⟨k, rs0.map (·.2), q.2, a1, a2, by rw [hO.rds, e1, e4]; simp, hb.1, by omega, ?_⟩
    have := hrl
    rw [hO.rds, e1, e4] at this
    simp at this ⊢
    omega
  have hv := vt_step (o := (l.getD i (0, 0, 0)).1) (A := (l.getD i (0, 0, 0)).2.1) (B := (l.getD i (0, 0, 0)).2.2) (S := s) (mem := mem) hr hok hO.vt
  have d1 := hv.2.1
  have d2 := hv.2.2
  have hp := hO.place
  clear hv hok hO
  unfold opAt at hlast
  generalize hx : l.getD i (0, 0, 0) = x at hr d1 d2 hlast
  obtain ⟨o, A, B⟩ := x
  obtain ⟨ret, at_, stk, loc, inp, out, set, rds, held, flt, stp⟩ := s
  simp only at hstk hrl d1 d2 hp hlast
  subst hp
  rcases op_cases (right_op hr) with rfl | rfl | rfl | rfl | rfl | rfl | rfl | rfl | rfl | rfl | rfl | rfl | rfl | rfl | rfl | rfl | rfl | rfl | rfl | rfl | rfl | rfl | rfl | rfl | rfl
  · exact sm1 n hl hi hx hr hstk
  · exact sm2 n hl hi hx hr hstk (d1 (by decide))
  · exact sm3 n hl hi hx hr hstk (d1 (by decide))
  · exact sm4 n hl hi hx hr hstk (d2 (by decide))
  · exact sm5 n hl hi hx hr hstk (d2 (by decide))
  · exact sm6 n hl hi hx hr hstk (d1 (by decide))
  · exact sm7 n hl hi hx hr hstk (d1 (by decide))
  · exact sm8 n hl hi hx hr hstk (d2 (by decide))
  · exact sm9 n hl hi hx hr hstk (d2 (by decide))
  · exact sm10 n hl hi hx hr hstk
  · exact sm11 n hl hi hx hr hstk
  · exact sm12 n hl hi hx hr hstk (d1 (by decide))
  · exact sm13 n hl hi hx hr hstk
  · exact sm14 n hl hi hx hr hstk (d1 (by decide))
  · exact sm15 n hl hi hx hr hstk
  · exact sm16 n hl hi hx hr hstk (d1 (by decide))
  · exact sm17 n hl hi hx hr hstk
  · exact sm18 n hl hi hx hr hstk (d1 (by decide))
  · exact sm19 n hl hi hx hr hstk
  · exact sm20 n hl hi hx hr hstk (d1 (by decide))
  · exact sm21 n hl hi hx hr hstk hrl
  · obtain ⟨k, r0, r, e1, e2, e3, e4, e5, e6⟩ := hlast rfl
    exact sm22 n hl hi hx hr hstk e3 ⟨e4, e5⟩ e6 hF.nest.hm e1 e2 rfl
  · exact sm23 n hl hi hx hr hstk
  · exact sm24 n hl hi hx hr hstk
  · exact sm25 n hl hi hx hr hstk
end Go.Proofs.Dk

/- Plain: where a machine's step goes. -/
namespace Go.Proofs.Dk
open Go
set_option maxRecDepth 100000
set_option linter.unusedVariables false
set_option linter.unusedSimpArgs false
theorem bit1_is {A : Int} {a : Nat} (h : A = (a : Int)) (ha : a ≤ 7) : bit1 A = ((2 ^ a : Nat) : Int) := by
  subst h
  exact shl_small ha
theorem andNot_is (v a : Nat) (hv : v < 256) (ha : a ≤ 7) : ∃ w : Nat, bits .andNot .i64 (v : Int) ((2 ^ a : Nat) : Int) = (w : Int) ∧ w < 256 ∧ ∀ b, w.testBit b = (v.testBit b && decide (b ≠ a)) := by
  have h2 : 2 ^ a < 2 ^ 8 := Nat.pow_lt_pow_right (by omega) (by omega)
  have key : bits .andNot .i64 (v : Int) ((2 ^ a : Nat) : Int) = IntKind.i64.wrap (((BitVec.ofInt 64 (v : Int)) &&& ~~~ (BitVec.ofInt 64 ((2 ^ a : Nat) : Int))).toNat : Int) := rfl
  have hw : ∀ b, ((BitVec.ofInt 64 (v : Int)) &&& ~~~ (BitVec.ofInt 64 ((2 ^ a : Nat) : Int))).toNat.testBit b = (v.testBit b && decide (b ≠ a)) := fun b => by
    rw [BitVec.toNat_and, Nat.testBit_and, ofInt_u64 v (by omega)]
    by_cases hb : b < 64
    · rw [BitVec.testBit_toNat, BitVec.getLsbD_not, ← BitVec.testBit_toNat, ofInt_u64 _ (by omega), Nat.testBit_two_pow, decide_eq_true hb, Bool.true_and]
      congr 1
      by_cases hab : a = b
      · rw [decide_eq_true hab, decide_eq_false (by omega)]; rfl
      · rw [decide_eq_false hab, decide_eq_true (by omega)]; rfl
    · have : v.testBit b = false := Nat.testBit_lt_two_pow (Nat.lt_of_lt_of_le hv (by
        have := Nat.pow_le_pow_right (n := 2) (by decide) (show 8 ≤ b by omega)
        omega))
      rw [this, Bool.false_and, Bool.false_and]
  generalize hW : ((BitVec.ofInt 64 (v : Int)) &&& ~~~ (BitVec.ofInt 64 ((2 ^ a : Nat) : Int))).toNat = W at key hw
  have hlt : W < 256 := by
    have hle : W ≤ v := by
      rw [← hW, BitVec.toNat_and, ofInt_u64 v (by omega)]
      exact Nat.and_le_left
    omega
  refine ⟨W, ?_, hlt, hw⟩
  rw [key, wrap_id (by omega) (by omega)]
structure NextI (l : List Ins) (m : List Int) (st : List ByteArray) (i : Nat) (rs : List (Nat × Int)) (s' : MS) : Prop where
  ex : ∃ q rs', Ok l m st s' q rs' ∧ phi l m q rs' + 1 ≤ phi l m i rs
theorem mem_next {l : List Ins} {i : Nat} (h19 : opAt l i ≠ 19) (h25 : opAt l i ≠ 25) : i + 1 ∈ nextsI l i := by
  unfold nextsI
  rw [if_neg h19]
  split
  · exact List.mem_cons_self ..
  · exact List.mem_singleton.2 rfl
theorem go_plain {l : List Ins} {m h : List Int} {st : List ByteArray} (hR : Row l m h st) {s s' : MS} {i : Nat} {rs : List (Nat × Int)} (hO : Ok l m st s i rs) (h21 : opAt l i ≠ 21) (h22 : opAt l i ≠ 22) (h23 : opAt l i ≠ 23) (h24 : opAt l i ≠ 24) {q : Nat} (hq : q ∈ nextsI l i)
    (e1 : s'.at_ = (q : Int)) (e2 : VT (afterI (l.getD i (0, 0, 0)) (stL st i)).1 s'.stk) (e3 : s'.rds = s.rds) (e4 : s'.held = s.held) : NextI l m st i rs s' := by
  have hF := hR.fine
  have hi := hO.lt
  have hql := hF.next hi q hq
  have hlps : lps l m q = lps l m i ∧ ∀ v, HeldB l m i v → HeldB l m q v := by
    unfold nextsI at hq
    split at hq
    · rename_i h19
      rw [List.mem_singleton] at hq
      subst hq
      exact ⟨lps_jump hF hi (.inl h19), fun v hv => hv.jump hF hi (.inl h19)⟩
    · split at hq
      · rename_i h20
        rw [List.mem_cons, List.mem_singleton] at hq
        rcases hq with rfl | rfl
        · exact ⟨lps_plain hF hi h21 h22 h24, fun v hv => hv.plain hF hi h23 h22 h24⟩
        · exact ⟨lps_jump hF hi (.inr h20), fun v hv => hv.jump hF hi (.inr h20)⟩
      · split at hq
        · cases hq
        · rw [List.mem_singleton] at hq
          subst hq
          exact ⟨lps_plain hF hi h21 h22 h24, fun v hv => hv.plain hF hi h23 h22 h24⟩
  refine ⟨q, rs, ⟨e1, hql, ?_, by rw [hlps.1]; exact hO.lps, by rw [e3]; exact hO.rds, hO.rnd, ?_⟩, phi_on hF hi (nexts_gt hq) hO.lps⟩
  · rw [hR.stk.nx i hi q hq]
    exact e2
  · obtain ⟨v, v1, v2⟩ := hO.held
    exact ⟨v, e4.trans v1, hlps.2 v v2⟩
theorem step_next {l : List Ins} {m h : List Int} {st : List ByteArray} (hR : Row l m h st) {s : MS} {i : Nat} {rs : List (Nat × Int)} (hO : Ok l m st s i rs) (mem : MemT) (h25 : opAt l i ≠ 25) : NextI l m st i rs (stepM (l.getD i (0, 0, 0)) (m.getD i 0) s mem) := by
  have hi := hO.lt
  have hF := hR.fine
  have hr := hF.right hi
  have hok := hR.stk.ok i hi
  have hp := hO.place
  have hv := (vt_step (o := (l.getD i (0, 0, 0)).1) (A := (l.getD i (0, 0, 0)).2.1) (B := (l.getD i (0, 0, 0)).2.2) (S := s) (mem := mem) hr hok hO.vt).1
  have hx : l.getD i (0, 0, 0) = (opAt l i, argA l i, (l.getD i (0, 0, 0)).2.2) := rfl
  have hstk : VT (afterI (l.getD i (0, 0, 0)) (stL st i)).1 (stepM (l.getD i (0, 0, 0)) (m.getD i 0) s mem).stk := hv
  have hrds : opAt l i ≠ 21 → opAt l i ≠ 22 → (stepM (l.getD i (0, 0, 0)) (m.getD i 0) s mem).rds = s.rds := fun h1 h2 => by
    show rdsM _ _ = _
    unfold rdsM
    rw [if_neg h1, if_neg h2]
  have hheld : opAt l i ≠ 23 → opAt l i ≠ 24 → (stepM (l.getD i (0, 0, 0)) (m.getD i 0) s mem).held = s.held := fun h1 h2 => by
    show (if _ then _ else if _ then _ else _) = _
    rw [if_neg h1, if_neg h2]
  have hon : opAt l i ≠ 19 → opAt l i ≠ 20 → opAt l i ≠ 22 → (stepM (l.getD i (0, 0, 0)) (m.getD i 0) s mem).at_ = ((i + 1 : Nat) : Int) := fun h1 h2 h3 => by
    show nextM _ _ _ = _
    unfold nextM
    rw [if_neg h1, if_neg h2, if_neg h3, hp]
    rfl
  by_cases h22 : opAt l i = 22
  · obtain ⟨k, a1, a2, a3, a4, a5, a6, a7⟩ := lps_next hF hi h22
    obtain ⟨k', b1, b2, b3⟩ : ∃ k' : Nat, m.getD i 0 = (k' : Int) ∧ (∀ v, HeldB l m i v → HeldB l m (k' + 1) v) ∧ (∀ v, HeldB l m i v → HeldB l m (i + 1) v) := by
      refine ⟨k, a1, fun v hv => ?_, fun v hv => ?_⟩
      · obtain ⟨k2, c1, c2, c3⟩ := hv.next hF hi h22
        have : k = k2 := by rw [a1] at c1; omega
        rw [this]; exact c2
      · obtain ⟨k2, c1, c2, c3⟩ := hv.next hF hi h22
        exact c3
    have hkk : k = k' := by rw [a1] at b1; omega
    subst hkk
    obtain ⟨v, v1, v2⟩ := hO.held
    have e := hO.lps
    rw [a5] at e
    obtain ⟨rs0, rs1, e1, e2, e3⟩ := List.map_eq_append_iff.1 e
    obtain ⟨q, e4, e5⟩ := List.map_eq_singleton_iff.1 e3
    obtain ⟨qk, qr⟩ := q
    simp only at e5
    subst e5
    subst e4
    subst e1
    have hsr : s.rds = rs0.map (·.2) ++ [qr] := by rw [hO.rds]; simp
    have hb := hO.rnd (qk, qr) (by simp)
    have hph := phi_next hF hi a2 a3 a4 a5 e2 (r := qr)
    have hst22 := hR.stk.nt i hi h22
    rw [a1, Int.toNat_natCast] at hst22
    -- the types ahead of the loop's first instruction are those of its Next
    have hgo : stL st (qk + 1) = (afterI (l.getD qk (0, 0, 0)) (stL st i)).1 := by
      rw [hR.stk.nx qk (by omega) (qk + 1) (mem_next (by rw [a3]; decide) (by rw [a3]; decide)), hst22]
    have hx22 : l.getD i (0, 0, 0) = (22, argA l i, (l.getD i (0, 0, 0)).2.2) := by rw [← h22]
    have hst : (stepM (l.getD i (0, 0, 0)) (m.getD i 0) s mem).stk = s.stk := by
      have e : ∀ A B, stkM (22, A, B) s mem = s.stk := fun A B => by kernel_rfl
      show stkM (l.getD i (0, 0, 0)) s mem = _
      rw [hx22, e]
    by_cases hq : qr - 1 > 0
    · refine ⟨qk + 1, rs0 ++ [(qk, qr - 1)], ⟨?_, by omega, ?_, ?_, ?_, ?_, v, (hheld (by omega) (by omega)).trans v1, b2 v v2⟩, hph.1⟩
      · show nextM _ _ _ = _
        unfold nextM
        rw [if_neg (show ¬ opAt l i = 19 by omega), if_neg (show ¬ opAt l i = 20 by omega), if_pos h22, hsr, pv_app, if_pos hq, a1]
        rfl
      · rw [hst, hgo]
        have hr2 := hF.right (show qk < l.length by omega)
        have hok2 := hR.stk.ok qk (by omega)
        rw [hst22] at hok2
        exact vt_no (o := (l.getD qk (0, 0, 0)).1) (A := (l.getD qk (0, 0, 0)).2.1) (B := (l.getD qk (0, 0, 0)).2.2) hok2 hO.vt (.inr (.inl a3))
      · rw [a6]; simp [e2]
      · show rdsM _ _ = _
        unfold rdsM
        rw [if_neg (show ¬ opAt l i = 21 by omega), if_pos h22, hsr, pv_app, pr_app, if_pos hq]
        simp
      · intro e he
        rw [List.mem_append, List.mem_singleton] at he
        rcases he with he | he
        · exact hO.rnd e (List.mem_append_left _ he)
        · subst he
          exact ⟨by show 1 ≤ qr - 1; omega, by have := hb.2; show qr - 1 ≤ argA l qk; simp only at this; omega⟩
    · have hq1 : qr = 1 := by have := hb.1; simp only at this; omega
      have hnx := mem_next (l := l) (i := i) (by omega) h25
      refine ⟨i + 1, rs0, ⟨?_, hF.next hi _ hnx, ?_, ?_, ?_, fun e he => hO.rnd e (List.mem_append_left _ he), v, (hheld (by omega) (by omega)).trans v1, b3 v v2⟩, hph.2 hq1⟩
      · show nextM _ _ _ = _
        unfold nextM
        rw [if_neg (show ¬ opAt l i = 19 by omega), if_neg (show ¬ opAt l i = 20 by omega), if_pos h22, hsr, pv_app, if_neg hq, hp]
        rfl
      · rw [hR.stk.nx i hi _ hnx]
        exact hstk
      · rw [a7]; exact e2
      · show rdsM _ _ = _
        unfold rdsM
        rw [if_neg (show ¬ opAt l i = 21 by omega), if_pos h22, hsr, pv_app, pr_app, if_neg hq]
  by_cases h21 : opAt l i = 21
  · have hnx := mem_next (l := l) (i := i) (by omega) h25
    obtain ⟨v, v1, v2⟩ := hO.held
    refine ⟨i + 1, rs ++ [(i, argA l i)], ⟨hon (by omega) (by omega) h22, hF.next hi _ hnx, ?_, ?_, ?_, ?_, v, (hheld (by omega) (by omega)).trans v1, v2.plain hF hi (by omega) h22 (by omega)⟩, phi_loop hF hi hO.lps⟩
    · rw [hR.stk.nx i hi _ hnx]; exact hstk
    · rw [lps_loop hF hi h21]; simp [hO.lps]
    · show rdsM _ _ = _
      unfold rdsM
      rw [if_pos h21, hO.rds, List.map_append]
      rfl
    · intro e he
      rw [List.mem_append, List.mem_singleton] at he
      rcases he with he | he
      · exact hO.rnd e he
      · subst he
        exact ⟨(arg21 hr h21).1, Int.le_refl _⟩
  by_cases h23 : opAt l i = 23
  · have hnx := mem_next (l := l) (i := i) (by omega) h25
    obtain ⟨v, v1, v2⟩ := hO.held
    obtain ⟨a, ha, ha7⟩ := argA_nat hr (.inl h23)
    refine ⟨i + 1, rs, ⟨hon (by omega) (by omega) h22, hF.next hi _ hnx, ?_, ?_, ?_, hO.rnd, v ||| 2 ^ a, ?_, v2.lockS hF hi h23 ha ha7⟩, phi_on hF hi (by omega) hO.lps⟩
    · rw [hR.stk.nx i hi _ hnx]; exact hstk
    · rw [lps_plain hF hi h21 h22 (by omega)]; exact hO.lps
    · rw [hrds h21 h22]; exact hO.rds
    · show (if _ then _ else if _ then _ else _) = _
      rw [if_pos h23, v1]
      show bits .or .i64 (v : Int) (bit1 (argA l i)) = _
      rw [bit1_is ha ha7]
      exact i64_or v (2 ^ a) v2.1 (by have := Nat.pow_lt_pow_right (a := 2) (by omega) (show a < 8 by omega); omega)
  by_cases h24 : opAt l i = 24
  · have hnx := mem_next (l := l) (i := i) (by omega) h25
    obtain ⟨v, v1, v2⟩ := hO.held
    have h0 := right8 (o := (l.getD i (0, 0, 0)).1) (A := (l.getD i (0, 0, 0)).2.1) (B := (l.getD i (0, 0, 0)).2.2) (by rw [show (l.getD i (0, 0, 0)).1 = 24 from h24]; omega) hr
    obtain ⟨a, ha, ha7⟩ : ∃ a : Nat, argA l i = (a : Int) ∧ a ≤ 7 := ⟨(argA l i).toNat, by unfold argA; omega, by unfold argA; omega⟩
    obtain ⟨w, w1, w2, w3⟩ := andNot_is v a v2.1 ha7
    refine ⟨i + 1, rs, ⟨hon (by omega) (by omega) h22, hF.next hi _ hnx, ?_, ?_, ?_, hO.rnd, w, ?_, v2.unlock hF hR.rise hi h24 ha w2 w3⟩, phi_on hF hi (by omega) hO.lps⟩
    · rw [hR.stk.nx i hi _ hnx]; exact hstk
    · rw [lps_unlock hF hi h24]; exact hO.lps
    · rw [hrds h21 h22]; exact hO.rds
    · show (if _ then _ else if _ then _ else _) = _
      rw [if_neg h23, if_pos h24, v1]
      show bits .andNot .i64 (v : Int) (bit1 (argA l i)) = _
      rw [bit1_is ha ha7]
      exact w1
  have key := fun {q : Nat} (hq : q ∈ nextsI l i) (e1 : (stepM (l.getD i (0, 0, 0)) (m.getD i 0) s mem).at_ = (q : Int)) => go_plain hR hO h21 h22 h23 h24 hq e1 hstk (hrds h21 h22) (hheld h23 h24)
  by_cases h19 : opAt l i = 19
  · have hj := rightJ (o := (l.getD i (0, 0, 0)).1) (A := (l.getD i (0, 0, 0)).2.1) (B := (l.getD i (0, 0, 0)).2.2) (.inl h19) hr
    refine key (q := jumpTo l i) (by unfold nextsI; rw [if_pos h19]; exact List.mem_singleton.2 rfl) ?_
    show nextM _ _ _ = _
    unfold nextM jumpTo
    rw [if_pos h19, hp]
    omega
  by_cases h20 : opAt l i = 20
  · have hj := rightJ (o := (l.getD i (0, 0, 0)).1) (A := (l.getD i (0, 0, 0)).2.1) (B := (l.getD i (0, 0, 0)).2.2) (.inr h20) hr
    by_cases hz : pv s.stk = 0
    · refine key (q := jumpTo l i) (by unfold nextsI; rw [if_neg h19, if_pos h20]; simp) ?_
      show nextM _ _ _ = _
      unfold nextM jumpTo
      rw [if_neg h19, if_pos h20, if_pos hz, hp]
      omega
    · refine key (q := i + 1) (by unfold nextsI; rw [if_neg h19, if_pos h20]; simp) ?_
      show nextM _ _ _ = _
      unfold nextM
      rw [if_neg h19, if_pos h20, if_neg hz, hp]
      rfl
  · exact key (q := i + 1) (mem_next h19 h25) (hon h19 h20 h22)
end Go.Proofs.Dk

/- Plain: the steps of a way, as far as a run has come. -/
namespace Go.Proofs.Dk
open Go
set_option maxRecDepth 100000
set_option linter.unusedVariables false
set_option linter.unusedSimpArgs false
structure Meas (b : Int → Int → Int) (P : Int → Int → Prop) (Q : Int → Int → Int → Prop) : Prop where
  bet : Bet b
  zero : P 0 0
  one : ∀ t v, 0 ≤ t → 0 ≤ v ∧ v ≤ 1048577 → P t v → P (t + 1) (addI v 1)
  none_ : ∀ w, Q 0 0 w
  round : ∀ c n w t, 0 ≤ c → 0 ≤ n → 0 ≤ t → 0 ≤ w ∧ w ≤ 1048577 → Q c n w → P t w → Q (c + t + 1) (n + 1) w
  loop : ∀ t v c w A, 0 ≤ t → 0 ≤ v ∧ v ≤ 1048577 → 0 ≤ c → 0 ≤ w ∧ w ≤ 1048577 → 1 ≤ A → P t v → Q c A w → P (t + 1 + c) (addI v (loopI w A))
  put : ∀ (D : Nat → Int) (k : Nat) (v t : Int), 0 ≤ v ∧ v ≤ 1048577 → (∀ j, StepsI (D j)) → P t v → P t (putI b D k v k)
  keep : ∀ (D : Nat → Int) (q k : Nat) (v t : Int), 0 ≤ v ∧ v ≤ 1048577 → (∀ j, StepsI (D j)) → D k ≠ -1 → P t (D k) → P t (putI b D q v k)
def UpP (t v : Int) : Prop := capI t ≤ v
def UpQ (c n w : Int) : Prop := w + 1 < 1048577 → c ≤ n * (w + 1)
theorem capI_le (v : Int) : capI v ≤ 1048577 := by unfold capI; split <;> omega
theorem capI_mono {a b : Int} (h : a ≤ b) : capI a ≤ capI b := by unfold capI; split <;> split <;> omega
theorem up_meas : Meas bM UpP UpQ where
  bet := bM_bet
  zero := by unfold UpP capI; decide
  one := fun t v ht hv h => by unfold UpP capI at *; unfold addI; split at h <;> split <;> split <;> omega
  none_ := fun w => by intro h; simp
  round := fun c n w t hc hn ht hw h1 h2 => by
    intro h
    have h3 := h1 h
    unfold UpP capI at h2
    rw [Int.add_mul, Int.one_mul]
    split at h2 <;> omega
  loop := fun t v c w A ht hv hc hw hA h1 h2 => by
    unfold UpP at *
    have hp : 0 ≤ A * (w + 1) := Int.mul_nonneg (by omega) (by omega)
    by_cases hs : w + 1 < 1048577
    · have h3 := h2 hs
      have e : loopI w A = capI (1 + A * (w + 1)) := by
        have := loopI_cap hw.1 hA
        rw [show capI w = w by unfold capI; rw [if_neg (by omega)]] at this
        exact this
      rw [e]
      have h4 : capI (t + 1 + c) ≤ addI (capI t) (capI (1 + A * (w + 1))) := by
        rw [addI_cap ht (by omega)]
        exact capI_mono (by omega)
      refine Int.le_trans h4 (addI_le h1 (Int.le_refl _))
    · have e : loopI w A = 1048577 := by
        unfold loopI addI
        rw [if_pos (by split <;> omega)]
      rw [e]
      have := capI_le (t + 1 + c)
      unfold addI
      split <;> omega
  put := fun D k v t hv hD h => by
    unfold UpP putI at *
    rw [if_pos rfl]
    split
    · exact h
    · unfold bM
      split <;> omega
  keep := fun D q k v t hv hD hk h => by
    unfold UpP putI at *
    split
    · rename_i e
      subst e
      rw [if_neg hk]
      unfold bM
      split <;> omega
    · exact h
abbrev Dw (b : Int → Int → Int) (l : List Ins) (m : List Int) (f a z : Nat) : Nat → Int := runW b (wayF b l m f) l m (z - a) a (startW a)
theorem puts_keep {b : Int → Int → Int} {P : Int → Int → Prop} {Q : Int → Int → Int → Prop} (hM : Meas b P Q) {v t : Int} (hv : 0 ≤ v ∧ v ≤ 1048577) : ∀ (ks : List Nat) {D : Nat → Int} {k : Nat}, (∀ j, StepsI (D j)) → D k ≠ -1 → P t (D k) → P t (ks.foldl (fun g k => putI b g k v) D k)
  | [], D, k, _, _, h => h
  | q :: ks, D, k, hD, hk, h => by
    refine puts_keep hM hv ks (D := putI b D q v) (putI_ok hM.bet hD q hv) ?_ (hM.keep D q k v t hv hD hk h)
    exact puts_some hM.bet (by omega) [q] (.inl hk)
theorem puts_at {b : Int → Int → Int} {P : Int → Int → Prop} {Q : Int → Int → Int → Prop} (hM : Meas b P Q) {v t : Int} (hv : 0 ≤ v ∧ v ≤ 1048577) (h : P t v) : ∀ (ks : List Nat) {D : Nat → Int} {k : Nat}, (∀ j, StepsI (D j)) → k ∈ ks → P t (ks.foldl (fun g k => putI b g k v) D k)
  | q :: ks, D, k, hD, hk => by
    by_cases e : k = q
    · subst e
      refine puts_keep hM hv ks (D := putI b D k v) (putI_ok hM.bet hD k hv) ?_ (hM.put D k v t hv hD h)
      exact puts_some hM.bet (by omega) [k] (.inr (List.mem_cons_self ..))
    · exact puts_at hM hv h ks (D := putI b D q v) (putI_ok hM.bet hD q hv) ((List.mem_cons.1 hk).resolve_left e)
theorem step_keep {b : Int → Int → Int} {P : Int → Int → Prop} {Q : Int → Int → Int → Prop} (hM : Meas b P Q) {W : Nat → Nat → Int} {l : List Ins} {m : List Int} {i : Nat} {D : Nat → Int} (hD : ∀ k, StepsI (D k)) (hr : rightI (l.getD i (0, 0, 0)) = true) (hW : opAt l i = 21 → StepsI (W (i + 1) (mN m i))) {k : Nat} {t : Int} (hk : D k ≠ -1) (h : P t (D k)) : stepW b W l m i D k ≠ -1 ∧ P t (stepW b W l m i D k) := by
  unfold stepW
  split
  · exact ⟨hk, h⟩
  · rename_i hi
    have hDi := (hD i).nn hi
    have hv := addI_ok hDi.1 (costI_ok hr hW).1
    exact ⟨puts_some hM.bet (by omega) _ (.inl hk), puts_keep hM hv _ hD hk h⟩
theorem run_keep {b : Int → Int → Int} {P : Int → Int → Prop} {Q : Int → Int → Int → Prop} (hM : Meas b P Q) {W : Nat → Nat → Int} {l : List Ins} {m : List Int} (hr : ∀ i, i < l.length → rightI (l.getD i (0, 0, 0)) = true) : ∀ (r i : Nat) {D : Nat → Int} {k : Nat} {t : Int}, (∀ k, StepsI (D k)) → r + i ≤ l.length → (∀ k, i ≤ k → k < r + i → opAt l k = 21 → StepsI (W (k + 1) (mN m k))) → D k ≠ -1 → P t (D k) → runW b W l m r i D k ≠ -1 ∧ P t (runW b W l m r i D k)
  | 0, i, D, k, t, hD, hl, hW, hk, h => ⟨hk, h⟩
  | r + 1, i, D, k, t, hD, hl, hW, hk, h => by
    have h1 := step_keep hM hD (hr i (by omega)) (hW i (Nat.le_refl _) (by omega)) hk h
    exact run_keep hM hr r (i + 1) (stepW_ok hM.bet hD (hr i (by omega)) (hW i (Nat.le_refl _) (by omega))) (by omega) (fun k h1 h2 => hW k (by omega) (by omega)) h1.1 h1.2
theorem puts_other {b : Int → Int → Int} {v : Int} {k : Nat} : ∀ (ks : List Nat) {D : Nat → Int}, (∀ q ∈ ks, q ≠ k) → ks.foldl (fun g k => putI b g k v) D k = D k
  | [], D, h => rfl
  | q :: ks, D, h => by
    refine (puts_other ks (D := putI b D q v) fun p hp => h p (List.mem_cons_of_mem _ hp)).trans ?_
    unfold putI
    rw [if_neg (fun e => h q (List.mem_cons_self ..) e.symm)]
theorem run_low {b : Int → Int → Int} {W : Nat → Nat → Int} {l : List Ins} {m : List Int} {a z : Nat} (hR : Reg l m a z) : ∀ (r i : Nat) {D : Nat → Int} {k : Nat}, a ≤ i → i + r ≤ z → k ≤ i → runW b W l m r i D k = D k
  | 0, i, D, k, _, _, _ => rfl
  | r + 1, i, D, k, ha, hz, hk => by
    show runW b W l m r (i + 1) (stepW b W l m i D) k = D k
    rw [run_low hR r (i + 1) (by omega) (by omega) (by omega)]
    unfold stepW
    split
    · rfl
    · exact puts_other _ fun q hq e => by have := (hR.hop ha (by omega)).2 q hq; omega
theorem hop_meas {b : Int → Int → Int} {P : Int → Int → Prop} {Q : Int → Int → Int → Prop} (hM : Meas b P Q) {l : List Ins} {m h : List Int} (hF : Fine l m h) (f : Nat) {a z : Nat} (hR : Reg l m a z) {i q : Nat} (ha : a ≤ i) (hz : i < z) (hq : q ∈ hopsI l m i) (hDi : Dw b l m f a z i ≠ -1) {t : Int} (ht : P t (addI (Dw b l m f a z i) (costI (wayF b l m f) l m i))) :
    Dw b l m f a z q ≠ -1 ∧ P t (Dw b l m f a z q) := by
  have hlt := hR.lt
  have hrr : ∀ i, i < l.length → rightI (l.getD i (0, 0, 0)) = true := fun i hi => hF.right hi
  have hWk : ∀ k, a ≤ k → k < z → opAt l k = 21 → StepsI (wayF b l m f (k + 1) (mN m k)) := fun k k1 k2 k3 => wayF_ok hM.bet hF f (hF.reg (by omega) (isOpen_iff.2 (.inl k3)))
  have e : ∀ k, Dw b l m f a z k = runW b (wayF b l m f) l m (z - i - 1) (i + 1) (stepW b (wayF b l m f) l m i (runW b (wayF b l m f) l m (i - a) a (startW a))) k := fun k => by
    unfold Dw
    rw [show z - a = (i - a) + ((z - i - 1) + 1) by omega, runW_add, show a + (i - a) = i by omega]
    rfl
  have hD0 := runW_ok hM.bet hrr (W := wayF b l m f) (m := m) (i - a) a (startW_ok a) (by omega) (fun k k1 k2 k3 => hWk k k1 (by omega) k3)
  have ei : Dw b l m f a z i = runW b (wayF b l m f) l m (i - a) a (startW a) i := by
    rw [e i, run_low hR (z - i - 1) (i + 1) (by omega) (by omega) (by omega)]
    unfold stepW
    split
    · rfl
    · exact puts_other _ fun q hq e => by have := (hR.hop ha hz).2 q hq; omega
  rw [ei] at hDi ht
  have hDn := (hD0 i).nn hDi
  have hc := costI_ok (W := wayF b l m f) (m := m) (hrr i (by omega)) (fun h21 => hWk i ha hz h21)
  have hv := addI_ok hDn.1 hc.1
  have hst : stepW b (wayF b l m f) l m i (runW b (wayF b l m f) l m (i - a) a (startW a)) q ≠ -1 ∧ P t (stepW b (wayF b l m f) l m i (runW b (wayF b l m f) l m (i - a) a (startW a)) q) := by
    unfold stepW
    rw [if_neg hDi]
    exact ⟨puts_some hM.bet (by omega) _ (.inr hq), puts_at hM hv ht _ hD0 hq⟩
  rw [e q]
  exact run_keep hM hrr (z - i - 1) (i + 1) (stepW_ok hM.bet hD0 (hrr i (by omega)) (fun h21 => hWk i ha hz h21)) (by omega) (fun k k1 k2 k3 => hWk k (by omega) (by omega) k3) hst.1 hst.2
theorem dw_start {b : Int → Int → Int} {l : List Ins} {m : List Int} (f : Nat) {a z : Nat} (hR : Reg l m a z) : Dw b l m f a z a = 0 := by
  unfold Dw
  rw [run_low hR (z - a) a (Nat.le_refl _) (by have := hR.le; omega) (Nat.le_refl _)]
  unfold startW
  rw [if_pos rfl]
end Go.Proofs.Dk

/- Plain: how far a run has come in a way, with the rounds of its loops. -/
namespace Go.Proofs.Dk
open Go
set_option maxRecDepth 100000
set_option linter.unusedVariables false
set_option linter.unusedSimpArgs false
def InvP (b : Int → Int → Int) (P : Int → Int → Prop) (Q : Int → Int → Int → Prop) (l : List Ins) (m : List Int) (f : Nat) : Nat → Nat → Nat → List (Nat × Int) → Int → Prop
  | a, z, i, [], t => 0 ≤ t ∧ RIn l m a z i ∧ Dw b l m f a z i ≠ -1 ∧ P t (Dw b l m f a z i)
  | a, z, i, (k, r) :: rs, t => ∃ t0 c t1, t = t0 + 1 + c + t1 ∧ 0 ≤ t0 ∧ 0 ≤ c ∧ RIn l m a z k ∧ k < z ∧ opAt l k = 21 ∧ Dw b l m f a z k ≠ -1 ∧ P t0 (Dw b l m f a z k) ∧ r ≤ argA l k ∧ Q c (argA l k - r) (wayF b l m f (k + 1) (mN m k)) ∧ InvP b P Q l m f (k + 1) (mN m k) i rs t1
theorem InvP.nn {b : Int → Int → Int} {P : Int → Int → Prop} {Q : Int → Int → Int → Prop} {l : List Ins} {m : List Int} {f : Nat} : ∀ {rs : List (Nat × Int)} {a z i : Nat} {t : Int}, InvP b P Q l m f a z i rs t → 0 ≤ t
  | [], a, z, i, t, h => h.1
  | (k, r) :: rs, a, z, i, t, ⟨t0, c, t1, e, h1, h2, _, _, _, _, _, _, _, h⟩ => by
    have := InvP.nn h
    omega
theorem InvP.in_ {b : Int → Int → Int} {P : Int → Int → Prop} {Q : Int → Int → Int → Prop} {l : List Ins} {m h : List Int} (hF : Fine l m h) {f : Nat} : ∀ {rs : List (Nat × Int)} {a z i : Nat} {t : Int}, Reg l m a z → InvP b P Q l m f a z i rs t → a ≤ i ∧ i ≤ z
  | [], a, z, i, t, hR, hI => ⟨hI.2.1.1, hI.2.1.2.1⟩
  | (k, r) :: rs, a, z, i, t, hR, ⟨t0, c, t1, e, h1, h2, h3, h4, h5, _, _, _, _, hI⟩ => by
    have := hR.lt
    have hRk := hF.reg (show k < l.length by omega) (isOpen_iff.2 (.inl h5))
    obtain ⟨j, j1, j2, j3⟩ := hR.loop k h3.1 h4 (isOpen_iff.2 (.inl h5))
    have e2 : mN m k = j := by unfold mN; rw [j1]; rfl
    have := InvP.in_ hF hRk hI
    have := h3.1
    omega
theorem mat_is {l : List Ins} {m h : List Int} (hF : Fine l m h) {k : Nat} (hk : k < l.length) (ho : isOpen l k = true) : ∃ j : Nat, m.getD k 0 = (j : Int) ∧ mN m k = j ∧ k < j ∧ j < l.length ∧ m.getD j 0 = (k : Int) ∧ l.getD j (0, 0, 0) = ends (l.getD k (0, 0, 0)) := by
  obtain ⟨j, j1, j2, j3, j4, j5⟩ := hF.closed.op_ k hk ho
  exact ⟨j, j1, by unfold mN; rw [j1]; rfl, j2, j3, j5, j4⟩
theorem rin_next {l : List Ins} {m h : List Int} (hF : Fine l m h) {a z : Nat} (hR : Reg l m a z) {i q : Nat} (hI : RIn l m a z i) (hz : i < z) (h21 : opAt l i ≠ 21) (hq : q ∈ nextsI l i) : RIn l m a z q ∧ q ∈ hopsI l m i := by
  have hlt := hR.lt
  have hq2 : q ∈ hopsI l m i := by
    unfold nextsI at hq
    unfold hopsI
    rw [if_neg h21]
    split at hq
    · rename_i h; rw [if_pos h]; exact hq
    · rename_i h
      rw [if_neg h]
      split at hq
      · rename_i h2
        rw [if_pos h2]
        rw [List.mem_cons, List.mem_singleton] at hq
        rw [List.mem_cons, List.mem_singleton]
        exact hq.symm
      · rename_i h2
        rw [if_neg h2]
        split at hq
        · cases hq
        · exact hq
  have hb := (hR.hop hI.1 hz).2 q hq2
  refine ⟨⟨by have := hI.1; omega, hb.2, fun p h1 h2 h3 => ?_⟩, hq2⟩
  rcases Nat.lt_or_ge p i with hp | hp
  · have := hI.2.2 p h1 hp h3; omega
  · by_cases e : p = i
    · subst e; exact absurd h3 h21
    · -- a jump over the beginning of a loop does not end in it
      have ho := isOpen_iff.2 (.inl h3)
      obtain ⟨j, j1, j2, j3, j4, j5, j6⟩ := mat_is hF (show p < l.length by omega) ho
      rw [j2]
      rcases Nat.lt_or_ge j q with hj | hj
      · exact hj
      · exfalso
        have hjmp : (opAt l i = 19 ∨ opAt l i = 20) ∧ q = jumpTo l i := by
          unfold nextsI at hq
          split at hq
          · rename_i h; exact ⟨.inl h, List.mem_singleton.1 hq⟩
          · split at hq
            · rename_i h2
              rw [List.mem_cons, List.mem_singleton] at hq
              rcases hq with h | h
              · omega
              · exact ⟨.inr h2, h⟩
            · split at hq
              · cases hq
              · have := List.mem_singleton.1 hq; omega
        have e1 := hF.jump_enc (show i < l.length by omega) hjmp.1 p
        rw [← hjmp.2] at e1
        have e2 := (enc_iff ho j1).2 (show p < q ∧ q ≤ j from ⟨h2, hj⟩)
        rw [e1] at e2
        have := (enc_open e2).1
        omega
def zIn (m : List Int) (z : Nat) : List (Nat × Int) → Nat
  | [] => z
  | (k, _) :: rs => zIn m (mN m k) rs
theorem InvP.on {b : Int → Int → Int} {P : Int → Int → Prop} {Q : Int → Int → Int → Prop} (hM : Meas b P Q) {l : List Ins} {m h : List Int} (hF : Fine l m h) {f : Nat} : ∀ {rs : List (Nat × Int)} {a z i q : Nat} {t : Int}, Reg l m a z → InvP b P Q l m f a z i rs t → i < zIn m z rs → opAt l i ≠ 21 → q ∈ nextsI l i → InvP b P Q l m f a z q rs (t + 1)
  | [], a, z, i, q, t, hR, ⟨h1, h2, h3, h4⟩, hz, h21, hq => by
    have hlt := hR.lt
    have hz2 : i < z := hz
    obtain ⟨r1, r2⟩ := rin_next hF hR h2 hz2 h21 hq
    have hS := runW_ok hM.bet (fun i hi => hF.right hi) (W := wayF b l m f) (m := m) (z - a) a (startW_ok a) (by have := hR.le; omega) (fun k k1 k2 k3 => wayF_ok hM.bet hF f (hF.reg (by omega) (isOpen_iff.2 (.inl k3))))
    have hv := (hS i).nn h3
    have hc : costI (wayF b l m f) l m i = 1 := by unfold costI; rw [if_neg h21]
    obtain ⟨g1, g2⟩ := hop_meas hM hF f hR h2.1 hz2 r2 h3 (t := t + 1) (by rw [hc]; exact hM.one t _ h1 hv h4)
    exact ⟨by omega, r1, g1, g2⟩
  | (k, r) :: rs, a, z, i, q, t, hR, ⟨t0, c, t1, e, h1, h2, h3, h4, h5, h6, h7, h8, h9, hI⟩, hz, h21, hq => by
    have := hR.lt
    have hRk := hF.reg (show k < l.length by omega) (isOpen_iff.2 (.inl h5))
    exact ⟨t0, c, t1 + 1, by omega, h1, h2, h3, h4, h5, h6, h7, h8, h9, InvP.on hM hF hRk hI hz h21 hq⟩
theorem InvP.into {b : Int → Int → Int} {P : Int → Int → Prop} {Q : Int → Int → Int → Prop} (hM : Meas b P Q) {l : List Ins} {m h : List Int} (hF : Fine l m h) {f : Nat} : ∀ {rs : List (Nat × Int)} {a z i : Nat} {t : Int}, Reg l m a z → InvP b P Q l m f a z i rs t → i < zIn m z rs → opAt l i = 21 → InvP b P Q l m f a z (i + 1) (rs ++ [(i, argA l i)]) (t + 1)
  | [], a, z, i, t, hR, ⟨h1, h2, h3, h4⟩, hz, h21 => by
    have hlt := hR.lt
    have hz2 : i < z := hz
    have hRk := hF.reg (show i < l.length by omega) (isOpen_iff.2 (.inl h21))
    refine ⟨t, 0, 0, by omega, h1, by omega, h2, hz2, h21, h3, h4, Int.le_refl _, by rw [Int.sub_self]; exact hM.none_ _, by omega, ⟨Nat.le_refl _, hRk.le, fun q h1 h2 _ => by omega⟩, ?_, ?_⟩
    · rw [dw_start f hRk]; decide
    · rw [dw_start f hRk]; exact hM.zero
  | (k, r) :: rs, a, z, i, t, hR, ⟨t0, c, t1, e, h1, h2, h3, h4, h5, h6, h7, h8, h9, hI⟩, hz, h21 => by
    have := hR.lt
    have hRk := hF.reg (show k < l.length by omega) (isOpen_iff.2 (.inl h5))
    exact ⟨t0, c, t1 + 1, by omega, h1, h2, h3, h4, h5, h6, h7, h8, h9, InvP.into hM hF hRk hI hz h21⟩
theorem way_is {b : Int → Int → Int} {l : List Ins} {m h : List Int} (hF : Fine l m h) {f : Nat} (hf : l.length < f) {a z : Nat} (hR : Reg l m a z) : Dw b l m f a z z = wayF b l m f a z := by
  have h1 := hR.lt
  have := wayF_fuel (b := b) hF (f + 1) f hR (by omega) (by omega)
  exact this
theorem InvP.again {b : Int → Int → Int} {P : Int → Int → Prop} {Q : Int → Int → Int → Prop} (hM : Meas b P Q) {l : List Ins} {m h : List Int} (hF : Fine l m h) {f : Nat} (hf : l.length < f) : ∀ {rs : List (Nat × Int)} {a z i k : Nat} {r t : Int}, Reg l m a z → InvP b P Q l m f a z i (rs ++ [(k, r)]) t → i = mN m k → InvP b P Q l m f a z (k + 1) (rs ++ [(k, r - 1)]) (t + 1)
  | [], a, z, i, k, r, t, hR, ⟨t0, c, t1, e, h1, h2, h3, h4, h5, h6, h7, h8, h9, g1, g2, g3, g4⟩, hi => by
    have hlt := hR.lt
    have hRk := hF.reg (show k < l.length by omega) (isOpen_iff.2 (.inl h5))
    subst hi
    rw [way_is hF hf hRk] at g3 g4
    have hw := (wayF_ok hM.bet hF f hRk).nn g3
    refine ⟨t0, c + t1 + 1, 0, by omega, h1, by omega, h3, h4, h5, h6, h7, by omega, ?_, by omega, ⟨Nat.le_refl _, hRk.le, fun q h1 h2 _ => by omega⟩, ?_, ?_⟩
    · have := hM.round c (argA l k - r) _ t1 h2 (by omega) g1 hw h9 g4
      rw [show argA l k - r + 1 = argA l k - (r - 1) by omega] at this
      exact this
    · rw [dw_start f hRk]; decide
    · rw [dw_start f hRk]; exact hM.zero
  | (k0, r0) :: rs, a, z, i, k, r, t, hR, ⟨t0, c, t1, e, h1, h2, h3, h4, h5, h6, h7, h8, h9, hI⟩, hi => by
    have := hR.lt
    have hRk := hF.reg (show k0 < l.length by omega) (isOpen_iff.2 (.inl h5))
    exact ⟨t0, c, t1 + 1, by omega, h1, h2, h3, h4, h5, h6, h7, h8, h9, InvP.again hM hF hf hRk hI hi⟩
theorem InvP.out {b : Int → Int → Int} {P : Int → Int → Prop} {Q : Int → Int → Int → Prop} (hM : Meas b P Q) {l : List Ins} {m h : List Int} (hF : Fine l m h) {f : Nat} (hf : l.length < f) : ∀ {rs : List (Nat × Int)} {a z i k : Nat} {t : Int}, Reg l m a z → InvP b P Q l m f a z i (rs ++ [(k, 1)]) t → i = mN m k → InvP b P Q l m f a z (i + 1) rs (t + 1)
  | [], a, z, i, k, t, hR, ⟨t0, c, t1, e, h1, h2, h3, h4, h5, h6, h7, h8, h9, g1, g2, g3, g4⟩, hi => by
    have hlt := hR.lt
    have hRk := hF.reg (show k < l.length by omega) (isOpen_iff.2 (.inl h5))
    subst hi
    rw [way_is hF hf hRk] at g3 g4
    have hw := (wayF_ok hM.bet hF f hRk).nn g3
    have hA := arg21 (hF.right (show k < l.length by omega)) h5
    have hq := hM.round c (argA l k - 1) _ t1 h2 (by omega) g1 hw h9 g4
    rw [show argA l k - 1 + 1 = argA l k by omega] at hq
    have hS := runW_ok hM.bet (fun i hi => hF.right hi) (W := wayF b l m f) (m := m) (z - a) a (startW_ok a) (by have := hR.le; omega) (fun k k1 k2 k3 => wayF_ok hM.bet hF f (hF.reg (by omega) (isOpen_iff.2 (.inl k3))))
    have hv := (hS k).nn h6
    have hl := hM.loop t0 _ (c + t1 + 1) _ (argA l k) h1 hv (by omega) hw hA.1 h7 hq
    have hc : costI (wayF b l m f) l m k = loopI (wayF b l m f (k + 1) (mN m k)) (argA l k) := by unfold costI; rw [if_pos h5]
    have hhop : mN m k + 1 ∈ hopsI l m k := by unfold hopsI; rw [if_pos h5]; exact List.mem_singleton.2 rfl
    obtain ⟨b1, b2⟩ := hop_meas hM hF f hR h3.1 h4 hhop h6 (t := t0 + 1 + (c + t1 + 1)) (by rw [hc]; exact hl)
    have hbz := (hR.hop h3.1 h4).2 _ hhop
    obtain ⟨j, j1, j2, j3, j4, j5, j6⟩ := mat_is hF (show k < l.length by omega) (isOpen_iff.2 (.inl h5))
    refine ⟨by omega, ⟨by have := h3.1; omega, hbz.2, fun p p1 p2 p3 => ?_⟩, b1, ?_⟩
    · have hpo := isOpen_iff.2 (.inl p3)
      obtain ⟨jp, w1, w2, w3, w4, w5, w6⟩ := mat_is hF (show p < l.length by omega) hpo
      rcases Nat.lt_trichotomy p k with hp | hp | hp
      · have := h3.2.2 p p1 hp p3; omega
      · subst hp; omega
      · have hpj : p ≠ j := fun e => by
          have := ends_op (l.getD k (0, 0, 0))
          rw [← j6, ← e] at this
          unfold opAt at p3
          rw [p3] at this
          rcases this with h | h <;> cases h
        obtain ⟨x, x1, x2⟩ := hF.nest.cross k p j hp (by omega) (by omega) (isOpen_iff.2 (.inl h5)) hpo j1
        rw [w1] at x1
        omega
    · rw [e]
      rw [show t0 + 1 + c + t1 + 1 = t0 + 1 + (c + t1 + 1) by omega]
      exact b2
  | (k0, r0) :: rs, a, z, i, k, t, hR, ⟨t0, c, t1, e, h1, h2, h3, h4, h5, h6, h7, h8, h9, hI⟩, hi => by
    have := hR.lt
    have hRk := hF.reg (show k0 < l.length by omega) (isOpen_iff.2 (.inl h5))
    exact ⟨t0, c, t1 + 1, by omega, h1, h2, h3, h4, h5, h6, h7, h8, h9, InvP.out hM hF hf hRk hI hi⟩
theorem InvP.start {b : Int → Int → Int} {P : Int → Int → Prop} {Q : Int → Int → Int → Prop} (hM : Meas b P Q) {l : List Ins} {m : List Int} {f a z : Nat} (hR : Reg l m a z) : InvP b P Q l m f a z a [] 0 :=
  ⟨Int.le_refl _, ⟨Nat.le_refl _, hR.le, fun q h1 h2 _ => by omega⟩, by rw [dw_start f hR]; decide, by rw [dw_start f hR]; exact hM.zero⟩
end Go.Proofs.Dk

/- Plain: where a machine's step goes, and what its way tells of it. -/
namespace Go.Proofs.Dk
open Go
set_option maxRecDepth 100000
set_option linter.unusedVariables false
set_option linter.unusedSimpArgs false
def GoW (l : List Ins) (m : List Int) (i : Nat) (rs : List (Nat × Int)) (q : Nat) (rs' : List (Nat × Int)) : Prop :=
  ∀ (b : Int → Int → Int) (P : Int → Int → Prop) (Q : Int → Int → Int → Prop) (f a z : Nat) (t : Int), Meas b P Q → l.length < f → Reg l m a z → InvP b P Q l m f a z i rs t → i ≠ z → InvP b P Q l m f a z q rs' (t + 1)
theorem in_zIn {b : Int → Int → Int} {P : Int → Int → Prop} {Q : Int → Int → Int → Prop} {l : List Ins} {m h : List Int} (hF : Fine l m h) {f : Nat} : ∀ {rs : List (Nat × Int)} {a z i : Nat} {t : Int}, Reg l m a z → InvP b P Q l m f a z i rs t → i ≠ z → opAt l i ≠ 22 → i < zIn m z rs
  | [], a, z, i, t, hR, hI, hz, h22 => by
    have := (InvP.in_ hF hR hI).2
    show i < z
    omega
  | (k, r) :: rs, a, z, i, t, hR, ⟨t0, c, t1, e, h1, h2, h3, h4, h5, h6, h7, h8, h9, hI⟩, hz, h22 => by
    have := hR.lt
    have hRk := hF.reg (show k < l.length by omega) (isOpen_iff.2 (.inl h5))
    show i < zIn m (mN m k) rs
    refine in_zIn hF hRk hI (fun e => h22 ?_) h22
    obtain ⟨j, j1, j2, j3, j4, j5, j6⟩ := mat_is hF (show k < l.length by omega) (isOpen_iff.2 (.inl h5))
    rw [j2] at e
    rw [e]
    unfold opAt
    rw [j6]
    unfold ends
    rw [if_pos h5]
theorem goes_on {l : List Ins} {m h : List Int} (hF : Fine l m h) {i q : Nat} {rs : List (Nat × Int)} (h21 : opAt l i ≠ 21) (h22 : opAt l i ≠ 22) (hq : q ∈ nextsI l i) : GoW l m i rs q rs :=
  fun b P Q f a z t hM hf hR hI hz => InvP.on hM hF hR hI (in_zIn hF hR hI hz h22) h21 hq
theorem goes_into {l : List Ins} {m h : List Int} (hF : Fine l m h) {i : Nat} {rs : List (Nat × Int)} (h21 : opAt l i = 21) : GoW l m i rs (i + 1) (rs ++ [(i, argA l i)]) :=
  fun b P Q f a z t hM hf hR hI hz => InvP.into hM hF hR hI (in_zIn hF hR hI hz (by rw [h21]; decide)) h21
theorem goes_again {l : List Ins} {m h : List Int} (hF : Fine l m h) {i k : Nat} {r : Int} {rs : List (Nat × Int)} (hi : i = mN m k) : GoW l m i (rs ++ [(k, r)]) (k + 1) (rs ++ [(k, r - 1)]) :=
  fun b P Q f a z t hM hf hR hI hz => InvP.again hM hF hf hR hI hi
theorem goes_out {l : List Ins} {m h : List Int} (hF : Fine l m h) {i k : Nat} {rs : List (Nat × Int)} (hi : i = mN m k) : GoW l m i (rs ++ [(k, 1)]) (i + 1) rs :=
  fun b P Q f a z t hM hf hR hI hz => InvP.out hM hF hf hR hI hi
def EncS (l : List Ins) (m : List Int) (i q : Nat) : Prop := ∀ p, opAt l p = 23 → enc l m p q = true → (p = i ∧ opAt l i = 23) ∨ (enc l m p i = true ∧ i ≠ mN m p)
theorem lock_end {l : List Ins} {m h : List Int} (hF : Fine l m h) {p i : Nat} (hp : opAt l p = 23) (he : enc l m p i = true) (h24 : opAt l i ≠ 24) : i ≠ mN m p := by
  have ho := (enc_open he).2
  obtain ⟨j, j1, j2, j3, j4, j5, j6⟩ := mat_is hF (open_lt ho) ho
  intro e
  rw [j2] at e
  subst e
  have h21 : ¬ (l.getD p (0, 0, 0)).1 = 21 := fun h => by unfold opAt at hp; rw [hp] at h; cases h
  unfold ends at j6
  rw [if_neg h21] at j6
  unfold opAt at h24
  rw [j6] at h24
  exact h24 rfl
theorem encS_on {l : List Ins} {m h : List Int} (hF : Fine l m h) {i q : Nat} (hi : i < l.length) (h22 : opAt l i ≠ 22) (hq : q ∈ nextsI l i) : EncS l m i q := fun p hp he => by
  by_cases h24 : opAt l i = 24
  · obtain ⟨k0, a1, a2, a3, a4, a5, a6, a7⟩ := enc_close hF hi (.inr h24)
    have hq1 : q = i + 1 := by
      unfold nextsI at hq
      rw [if_neg (by omega), if_neg (by omega), if_neg (by omega)] at hq
      exact List.mem_singleton.1 hq
    subst hq1
    rw [a7] at he
    refine .inr ⟨by rw [a6, he, Bool.or_true], fun e => ?_⟩
    have hpo := (enc_open he).2
    obtain ⟨j, j1, j2, j3, j4, j5, j6⟩ := mat_is hF (open_lt hpo) hpo
    rw [j2] at e
    subst e
    rw [a1] at j5
    have : p = k0 := by omega
    subst this
    have := (enc_open he).1
    omega
  · have key : (p = i ∧ opAt l i = 23) ∨ enc l m p i = true := by
      have hsucc : q = i + 1 → (p = i ∧ opAt l i = 23) ∨ enc l m p i = true := fun e => by
        subst e
        rw [enc_succ hF hi h22 h24, Bool.or_eq_true, Bool.and_eq_true, decide_eq_true_eq] at he
        rcases he with ⟨h1, _⟩ | h1
        · exact .inl ⟨h1, h1 ▸ hp⟩
        · exact .inr h1
      unfold nextsI at hq
      split at hq
      · rename_i h
        have := List.mem_singleton.1 hq
        subst this
        rw [hF.jump_enc hi (.inl h)] at he
        exact .inr he
      · split at hq
        · rename_i h
          rw [List.mem_cons, List.mem_singleton] at hq
          rcases hq with e | e
          · exact hsucc e
          · subst e
            rw [hF.jump_enc hi (.inr h)] at he
            exact .inr he
        · split at hq
          · cases hq
          · exact hsucc (List.mem_singleton.1 hq)
    rcases key with h | h
    · exact .inl h
    · exact .inr ⟨h, lock_end hF hp h h24⟩
theorem encS_next {l : List Ins} {m h : List Int} (hF : Fine l m h) {i k : Nat} (hi : i < l.length) (h22 : opAt l i = 22) (hk : m.getD i 0 = (k : Int)) : EncS l m i (k + 1) ∧ EncS l m i (i + 1) := by
  obtain ⟨k0, a1, a2, a3, a4, a5, a6, a7⟩ := enc_close hF hi (.inl h22)
  obtain ⟨k1, b1, b2, b3, b4, b5⟩ := lps_next hF hi h22
  have e0 : k0 = k := by rw [a1] at hk; omega
  have e1 : k1 = k0 := by rw [a1] at b1; omega
  subst e0
  subst e1
  refine ⟨fun p hp he => ?_, fun p hp he => ?_⟩
  · rw [enc_succ hF (by omega) (by rw [b3]; decide) (by rw [b3]; decide), Bool.or_eq_true, Bool.and_eq_true, decide_eq_true_eq] at he
    rcases he with ⟨h1, _⟩ | h1
    · subst h1; rw [b3] at hp; cases hp
    · have he2 : enc l m p i = true := by rw [a6, h1, Bool.or_true]
      exact .inr ⟨he2, lock_end hF hp he2 (by omega)⟩
  · rw [a7] at he
    have he2 : enc l m p i = true := by rw [a6, he, Bool.or_true]
    exact .inr ⟨he2, lock_end hF hp he2 (by omega)⟩
structure NextG (l : List Ins) (m : List Int) (st : List ByteArray) (i : Nat) (rs : List (Nat × Int)) (s' : MS) : Prop where
  ex : ∃ q rs', Ok l m st s' q rs' ∧ phi l m q rs' + 1 ≤ phi l m i rs ∧ GoW l m i rs q rs' ∧ EncS l m i q
theorem go_plainG {l : List Ins} {m h : List Int} {st : List ByteArray} (hR : Row l m h st) {s s' : MS} {i : Nat} {rs : List (Nat × Int)} (hO : Ok l m st s i rs) (h21 : opAt l i ≠ 21) (h22 : opAt l i ≠ 22) (h23 : opAt l i ≠ 23) (h24 : opAt l i ≠ 24) {q : Nat} (hq : q ∈ nextsI l i)
    (e1 : s'.at_ = (q : Int)) (e2 : VT (afterI (l.getD i (0, 0, 0)) (stL st i)).1 s'.stk) (e3 : s'.rds = s.rds) (e4 : s'.held = s.held) : NextG l m st i rs s' := by
  have hF := hR.fine
  have hi := hO.lt
  have hql := hF.next hi q hq
  have hlps : lps l m q = lps l m i ∧ ∀ v, HeldB l m i v → HeldB l m q v := by
    unfold nextsI at hq
    split at hq
    · rename_i h19
      rw [List.mem_singleton] at hq
      subst hq
      exact ⟨lps_jump hF hi (.inl h19), fun v hv => hv.jump hF hi (.inl h19)⟩
    · split at hq
      · rename_i h20
        rw [List.mem_cons, List.mem_singleton] at hq
        rcases hq with rfl | rfl
        · exact ⟨lps_plain hF hi h21 h22 h24, fun v hv => hv.plain hF hi h23 h22 h24⟩
        · exact ⟨lps_jump hF hi (.inr h20), fun v hv => hv.jump hF hi (.inr h20)⟩
      · split at hq
        · cases hq
        · rw [List.mem_singleton] at hq
          subst hq
          exact ⟨lps_plain hF hi h21 h22 h24, fun v hv => hv.plain hF hi h23 h22 h24⟩
  refine ⟨q, rs, ⟨e1, hql, ?_, by rw [hlps.1]; exact hO.lps, by rw [e3]; exact hO.rds, hO.rnd, ?_⟩, phi_on hF hi (nexts_gt hq) hO.lps, goes_on hF h21 h22 hq, encS_on hF hi h22 hq⟩
  · rw [hR.stk.nx i hi q hq]
    exact e2
  · obtain ⟨v, v1, v2⟩ := hO.held
    exact ⟨v, e4.trans v1, hlps.2 v v2⟩
theorem step_go {l : List Ins} {m h : List Int} {st : List ByteArray} (hR : Row l m h st) {s : MS} {i : Nat} {rs : List (Nat × Int)} (hO : Ok l m st s i rs) (mem : MemT) (h25 : opAt l i ≠ 25) : NextG l m st i rs (stepM (l.getD i (0, 0, 0)) (m.getD i 0) s mem) := by
  have hi := hO.lt
  have hF := hR.fine
  have hr := hF.right hi
  have hok := hR.stk.ok i hi
  have hp := hO.place
  have hv := (vt_step (o := (l.getD i (0, 0, 0)).1) (A := (l.getD i (0, 0, 0)).2.1) (B := (l.getD i (0, 0, 0)).2.2) (S := s) (mem := mem) hr hok hO.vt).1
  have hx : l.getD i (0, 0, 0) = (opAt l i, argA l i, (l.getD i (0, 0, 0)).2.2) := rfl
  have hstk : VT (afterI (l.getD i (0, 0, 0)) (stL st i)).1 (stepM (l.getD i (0, 0, 0)) (m.getD i 0) s mem).stk := hv
  have hrds : opAt l i ≠ 21 → opAt l i ≠ 22 → (stepM (l.getD i (0, 0, 0)) (m.getD i 0) s mem).rds = s.rds := fun h1 h2 => by
    show rdsM _ _ = _
    unfold rdsM
    rw [if_neg h1, if_neg h2]
  have hheld : opAt l i ≠ 23 → opAt l i ≠ 24 → (stepM (l.getD i (0, 0, 0)) (m.getD i 0) s mem).held = s.held := fun h1 h2 => by
    show (if _ then _ else if _ then _ else _) = _
    rw [if_neg h1, if_neg h2]
  have hon : opAt l i ≠ 19 → opAt l i ≠ 20 → opAt l i ≠ 22 → (stepM (l.getD i (0, 0, 0)) (m.getD i 0) s mem).at_ = ((i + 1 : Nat) : Int) := fun h1 h2 h3 => by
    show nextM _ _ _ = _
    unfold nextM
    rw [if_neg h1, if_neg h2, if_neg h3, hp]
    rfl
  by_cases h22 : opAt l i = 22
  · obtain ⟨k, a1, a2, a3, a4, a5, a6, a7⟩ := lps_next hF hi h22
    obtain ⟨k', b1, b2, b3⟩ : ∃ k' : Nat, m.getD i 0 = (k' : Int) ∧ (∀ v, HeldB l m i v → HeldB l m (k' + 1) v) ∧ (∀ v, HeldB l m i v → HeldB l m (i + 1) v) := by
      refine ⟨k, a1, fun v hv => ?_, fun v hv => ?_⟩
      · obtain ⟨k2, c1, c2, c3⟩ := hv.next hF hi h22
        have : k = k2 := by rw [a1] at c1; omega
        rw [this]; exact c2
      · obtain ⟨k2, c1, c2, c3⟩ := hv.next hF hi h22
        exact c3
    have hkk : k = k' := by rw [a1] at b1; omega
    subst hkk
    obtain ⟨v, v1, v2⟩ := hO.held
    have e := hO.lps
    rw [a5] at e
    obtain ⟨rs0, rs1, e1, e2, e3⟩ := List.map_eq_append_iff.1 e
    obtain ⟨q, e4, e5⟩ := List.map_eq_singleton_iff.1 e3
    obtain ⟨qk, qr⟩ := q
    simp only at e5
    subst e5
    subst e4
    subst e1
    have hsr : s.rds = rs0.map (·.2) ++ [qr] := by rw [hO.rds]; simp
    have hb := hO.rnd (qk, qr) (by simp)
    have hph := phi_next hF hi a2 a3 a4 a5 e2 (r := qr)
    have hgm : i = mN m qk := by unfold mN; rw [a4]; rfl
    have hst22 := hR.stk.nt i hi h22
    rw [a1, Int.toNat_natCast] at hst22
    -- the types ahead of the loop's first instruction are those of its Next
    have hgo : stL st (qk + 1) = (afterI (l.getD qk (0, 0, 0)) (stL st i)).1 := by
      rw [hR.stk.nx qk (by omega) (qk + 1) (mem_next (by rw [a3]; decide) (by rw [a3]; decide)), hst22]
    have hx22 : l.getD i (0, 0, 0) = (22, argA l i, (l.getD i (0, 0, 0)).2.2) := by rw [← h22]
    have hst : (stepM (l.getD i (0, 0, 0)) (m.getD i 0) s mem).stk = s.stk := by
      have e : ∀ A B, stkM (22, A, B) s mem = s.stk := fun A B => by kernel_rfl
      show stkM (l.getD i (0, 0, 0)) s mem = _
      rw [hx22, e]
    by_cases hq : qr - 1 > 0
    · refine ⟨qk + 1, rs0 ++ [(qk, qr - 1)], ⟨?_, by omega, ?_, ?_, ?_, ?_, v, (hheld (by omega) (by omega)).trans v1, b2 v v2⟩, hph.1, goes_again hF hgm, (encS_next hF hi h22 a1).1⟩
      · show nextM _ _ _ = _
        unfold nextM
        rw [if_neg (show ¬ opAt l i = 19 by omega), if_neg (show ¬ opAt l i = 20 by omega), if_pos h22, hsr, pv_app, if_pos hq, a1]
        rfl
      · rw [hst, hgo]
        have hr2 := hF.right (show qk < l.length by omega)
        have hok2 := hR.stk.ok qk (by omega)
        rw [hst22] at hok2
        exact vt_no (o := (l.getD qk (0, 0, 0)).1) (A := (l.getD qk (0, 0, 0)).2.1) (B := (l.getD qk (0, 0, 0)).2.2) hok2 hO.vt (.inr (.inl a3))
      · rw [a6]; simp [e2]
      · show rdsM _ _ = _
        unfold rdsM
        rw [if_neg (show ¬ opAt l i = 21 by omega), if_pos h22, hsr, pv_app, pr_app, if_pos hq]
        simp
      · intro e he
        rw [List.mem_append, List.mem_singleton] at he
        rcases he with he | he
        · exact hO.rnd e (List.mem_append_left _ he)
        · subst he
          exact ⟨by show 1 ≤ qr - 1; omega, by have := hb.2; show qr - 1 ≤ argA l qk; simp only at this; omega⟩
    · have hq1 : qr = 1 := by have := hb.1; simp only at this; omega
      have hnx := mem_next (l := l) (i := i) (by omega) h25
      refine ⟨i + 1, rs0, ⟨?_, hF.next hi _ hnx, ?_, ?_, ?_, fun e he => hO.rnd e (List.mem_append_left _ he), v, (hheld (by omega) (by omega)).trans v1, b3 v v2⟩, hph.2 hq1, by rw [hq1]; exact goes_out hF hgm, (encS_next hF hi h22 a1).2⟩
      · show nextM _ _ _ = _
        unfold nextM
        rw [if_neg (show ¬ opAt l i = 19 by omega), if_neg (show ¬ opAt l i = 20 by omega), if_pos h22, hsr, pv_app, if_neg hq, hp]
        rfl
      · rw [hR.stk.nx i hi _ hnx]
        exact hstk
      · rw [a7]; exact e2
      · show rdsM _ _ = _
        unfold rdsM
        rw [if_neg (show ¬ opAt l i = 21 by omega), if_pos h22, hsr, pv_app, pr_app, if_neg hq]
  by_cases h21 : opAt l i = 21
  · have hnx := mem_next (l := l) (i := i) (by omega) h25
    obtain ⟨v, v1, v2⟩ := hO.held
    refine ⟨i + 1, rs ++ [(i, argA l i)], ⟨hon (by omega) (by omega) h22, hF.next hi _ hnx, ?_, ?_, ?_, ?_, v, (hheld (by omega) (by omega)).trans v1, v2.plain hF hi (by omega) h22 (by omega)⟩, phi_loop hF hi hO.lps, goes_into hF h21, encS_on hF hi h22 hnx⟩
    · rw [hR.stk.nx i hi _ hnx]; exact hstk
    · rw [lps_loop hF hi h21]; simp [hO.lps]
    · show rdsM _ _ = _
      unfold rdsM
      rw [if_pos h21, hO.rds, List.map_append]
      rfl
    · intro e he
      rw [List.mem_append, List.mem_singleton] at he
      rcases he with he | he
      · exact hO.rnd e he
      · subst he
        exact ⟨(arg21 hr h21).1, Int.le_refl _⟩
  by_cases h23 : opAt l i = 23
  · have hnx := mem_next (l := l) (i := i) (by omega) h25
    obtain ⟨v, v1, v2⟩ := hO.held
    obtain ⟨a, ha, ha7⟩ := argA_nat hr (.inl h23)
    refine ⟨i + 1, rs, ⟨hon (by omega) (by omega) h22, hF.next hi _ hnx, ?_, ?_, ?_, hO.rnd, v ||| 2 ^ a, ?_, v2.lockS hF hi h23 ha ha7⟩, phi_on hF hi (by omega) hO.lps, goes_on hF h21 h22 hnx, encS_on hF hi h22 hnx⟩
    · rw [hR.stk.nx i hi _ hnx]; exact hstk
    · rw [lps_plain hF hi h21 h22 (by omega)]; exact hO.lps
    · rw [hrds h21 h22]; exact hO.rds
    · show (if _ then _ else if _ then _ else _) = _
      rw [if_pos h23, v1]
      show bits .or .i64 (v : Int) (bit1 (argA l i)) = _
      rw [bit1_is ha ha7]
      exact i64_or v (2 ^ a) v2.1 (by have := Nat.pow_lt_pow_right (a := 2) (by omega) (show a < 8 by omega); omega)
  by_cases h24 : opAt l i = 24
  · have hnx := mem_next (l := l) (i := i) (by omega) h25
    obtain ⟨v, v1, v2⟩ := hO.held
    have h0 := right8 (o := (l.getD i (0, 0, 0)).1) (A := (l.getD i (0, 0, 0)).2.1) (B := (l.getD i (0, 0, 0)).2.2) (by rw [show (l.getD i (0, 0, 0)).1 = 24 from h24]; omega) hr
    obtain ⟨a, ha, ha7⟩ : ∃ a : Nat, argA l i = (a : Int) ∧ a ≤ 7 := ⟨(argA l i).toNat, by unfold argA; omega, by unfold argA; omega⟩
    obtain ⟨w, w1, w2, w3⟩ := andNot_is v a v2.1 ha7
    refine ⟨i + 1, rs, ⟨hon (by omega) (by omega) h22, hF.next hi _ hnx, ?_, ?_, ?_, hO.rnd, w, ?_, v2.unlock hF hR.rise hi h24 ha w2 w3⟩, phi_on hF hi (by omega) hO.lps, goes_on hF h21 h22 hnx, encS_on hF hi h22 hnx⟩
    · rw [hR.stk.nx i hi _ hnx]; exact hstk
    · rw [lps_unlock hF hi h24]; exact hO.lps
    · rw [hrds h21 h22]; exact hO.rds
    · show (if _ then _ else if _ then _ else _) = _
      rw [if_neg h23, if_pos h24, v1]
      show bits .andNot .i64 (v : Int) (bit1 (argA l i)) = _
      rw [bit1_is ha ha7]
      exact w1
  have key := fun {q : Nat} (hq : q ∈ nextsI l i) (e1 : (stepM (l.getD i (0, 0, 0)) (m.getD i 0) s mem).at_ = (q : Int)) => go_plainG hR hO h21 h22 h23 h24 hq e1 hstk (hrds h21 h22) (hheld h23 h24)
  by_cases h19 : opAt l i = 19
  · have hj := rightJ (o := (l.getD i (0, 0, 0)).1) (A := (l.getD i (0, 0, 0)).2.1) (B := (l.getD i (0, 0, 0)).2.2) (.inl h19) hr
    refine key (q := jumpTo l i) (by unfold nextsI; rw [if_pos h19]; exact List.mem_singleton.2 rfl) ?_
    show nextM _ _ _ = _
    unfold nextM jumpTo
    rw [if_pos h19, hp]
    omega
  by_cases h20 : opAt l i = 20
  · have hj := rightJ (o := (l.getD i (0, 0, 0)).1) (A := (l.getD i (0, 0, 0)).2.1) (B := (l.getD i (0, 0, 0)).2.2) (.inr h20) hr
    by_cases hz : pv s.stk = 0
    · refine key (q := jumpTo l i) (by unfold nextsI; rw [if_neg h19, if_pos h20]; simp) ?_
      show nextM _ _ _ = _
      unfold nextM jumpTo
      rw [if_neg h19, if_pos h20, if_pos hz, hp]
      omega
    · refine key (q := i + 1) (by unfold nextsI; rw [if_neg h19, if_pos h20]; simp) ?_
      show nextM _ _ _ = _
      unfold nextM
      rw [if_neg h19, if_pos h20, if_neg hz, hp]
      rfl
  · exact key (q := i + 1) (mem_next h19 h25) (hon h19 h20 h22)
end Go.Proofs.Dk

/- Plain: what the Vm laws have in common. -/
namespace Go.Proofs.Dk
open Go
set_option maxRecDepth 100000
set_option linter.unusedVariables false
set_option linter.unusedSimpArgs false
theorem it_ex {X R : Type} {S : (X → Option R) → X → Option R} (Q : Nat → X → Prop) (P : R → Prop) (h0 : ∀ x, ¬ Q 0 x) (h : ∀ f x F, (∀ y, Q f y → ∃ r, F y = some r ∧ P r) → Q (f + 1) x → ∃ r, S F x = some r ∧ P r) : ∀ f x, Q f x → ∃ r, it S f x = some r ∧ P r
  | 0, x, hq => absurd hq (h0 x)
  | f + 1, x, hq => h f x (it S f) (it_ex Q P h0 h f) hq
abbrev z16 : List Int := [0, 0, 0, 0, 0, 0, 0, 0, 0, 0, 0, 0, 0, 0, 0, 0]
abbrev startS (ret inp : List Int) : MS := ⟨ret, 0, [], z8, inp, z16, 0, [], 0, 0, 0⟩
theorem start_ok {l : List Ins} {m h : List Int} {st : List ByteArray} (hR : Row l m h st) (ret inp : List Int) : Ok l m st (startS ret inp) 0 [] := by
  have hl := hR.fine.len
  refine ⟨rfl, by omega, ?_, rfl, rfl, (fun e he => by cases he), 0, rfl, by omega, fun b => ?_⟩
  · rw [hR.stk.z]
    exact trivial
  · rw [Nat.zero_testBit]
    exact ⟨(fun h => by cases h), fun ⟨k, k1, _⟩ => by have := (enc_open k1).1; omega⟩
theorem start_is (n : Nat) {l : List Ins} (hl : 0 < l.length) (m ret inp : List Int) (at_ : Int) (stk loc inp2 out : List Int) (set : Int) (rds : List Int) (held flt stp : Int) :
    vm_Machine_Start.f n inp l m ret false at_ stk loc inp2 out set rds held flt stp = some (0, l, m, ret, true, 0, [], z8, inp, z16, 0, [], 0, 0, 0) := by
  unfold vm_Machine_Start.f
  rw [decide_eq_true (show (l.length : Int) > 0 by omega), if_neg (by decide), if_neg (by decide)]
theorem cap_ok {l : List Ins} (h : l.length ≤ 200) : (decide (0 = 0) && decide (0 = 0) && decide (l.length * 24 ≤ 140737488355328) && decide (1 ≤ 24)) = true := by simp; omega
end Go.Proofs.Dk

/- Plain: a machine's outputs; blocks that are held. -/
namespace Go.Proofs.Dk
open Go
set_option maxRecDepth 100000
set_option linter.unusedVariables false
set_option linter.unusedSimpArgs false
def setB (set : Int) (k : Nat) : Bool := bits .and .i64 (set.fdiv (2 ^ (min ((k : Int)).toNat 64))) 1 == 1
def outsF (out : List Int) (set : Int) : Nat → Nat → List (Int × Int)
  | 0, _ => []
  | r + 1, k => (if setB set k = true then [((k : Int), out.getD k 0)] else []) ++ outsF out set r (k + 1)
def outsI (out : List Int) (set : Int) : List (Int × Int) := outsF out set 16 0
theorem outs_is (n : Nat) (hn : 16 < n) (l : List Ins) (m ret : List Int) (on : Bool) (at_ : Int) (stk loc inp out : List Int) (set : Int) (rds : List Int) (held flt stp : Int) :
    Kq14.f n l m ret on at_ stk loc inp out set rds held flt stp = some (outsI out set, l, m, ret, on, at_, stk, loc, inp, out, set, rds, held, flt, stp) := by
  unfold Kq14.f
  have key : ∃ r, Kq14.b0.l n ([], out, 0, l, m, ret, on, at_, stk, loc, inp, out, set, rds, held, flt, stp) = some r ∧ r = (outsI out set, l, m, ret, on, at_, stk, loc, inp, out, set, rds, held, flt, stp) := by
    show ∃ r, it _ n _ = some r ∧ _
    refine it_ex (fun f x => ∃ (k : Nat) (o : List (Int × Int)), k ≤ 16 ∧ 16 < f + k ∧ o.length ≤ k ∧ o ++ outsF out set (16 - k) k = outsI out set ∧ x = (o, out, (k : Int), l, m, ret, on, at_, stk, loc, inp, out, set, rds, held, flt, stp)) _ (fun x ⟨k, o, h1, h2, _⟩ => by omega) ?_ n _ ⟨0, [], by omega, by omega, Nat.zero_le _, by unfold outsI; rw [List.nil_append, Nat.sub_zero], rfl⟩
    rintro f x F hF ⟨k, o, h1, h2, h3, h4, rfl⟩
    show ∃ r, Kq14.b0 n F o out (k : Int) l m ret on at_ stk loc inp out set rds held flt stp = some r ∧ _
    unfold Kq14.b0
    rcases Nat.lt_or_ge k 16 with hk | hk
    · rw [if_pos (decide_eq_true (by omega)), if_pos (by simp; omega), if_neg (by simp), next_ix (by omega)]
      rw [show 16 - k = (16 - (k + 1)) + 1 by omega] at h4
      unfold outsF setB at h4
      rw [Int.toNat_natCast] at h4
      rw [Int.toNat_natCast]
      by_cases hb : (bits .and .i64 (set.fdiv (2 ^ (min k 64))) 1 == 1) = true
      · rw [if_pos hb, if_pos (by simp; omega)]
        rw [if_pos hb] at h4
        exact hF _ ⟨k + 1, _, by omega, by omega, by simp; omega, by rw [List.append_assoc]; exact h4, rfl⟩
      · rw [if_neg hb]
        rw [if_neg hb, List.nil_append] at h4
        exact hF _ ⟨k + 1, o, by omega, by omega, by omega, h4, rfl⟩
    · have : k = 16 := by omega
      subst this
      rw [if_neg (by decide)]
      rw [Nat.sub_self] at h4
      unfold outsF at h4
      rw [List.append_nil] at h4
      subst h4
      exact ⟨_, rfl, rfl⟩
  obtain ⟨r, e1, e2⟩ := key
  subst e2
  rw [e1]
  rfl
end Go.Proofs.Dk

/- Plain: a machine that runs, and one that does not any more. -/
namespace Go.Proofs.Dk
open Go
set_option maxRecDepth 100000
set_option linter.unusedVariables false
set_option linter.unusedSimpArgs false
structure CS where
  on : Bool
  s : MS
  mem : MemT
noncomputable def step1 (l : List Ins) (m : List Int) (c : CS) : CS :=
  if c.on = true then ⟨decide ((l.getD c.s.at_.toNat (0, 0, 0)).1 ≠ 25), stepM (l.getD c.s.at_.toNat (0, 0, 0)) (m.getD c.s.at_.toNat 0) c.s c.mem, memM (l.getD c.s.at_.toNat (0, 0, 0)) c.s c.mem⟩ else c
def COk (l : List Ins) (m : List Int) (st : List ByteArray) (c : CS) : Prop := c.on = true → ∃ i rs, Ok l m st c.s i rs
abbrev tupC (l : List Ins) (m : List Int) (c : CS) := tupM l m c.on c.s c.mem
theorem cstep {l : List Ins} {m h : List Int} {st : List ByteArray} (hR : Row l m h st) {c : CS} (hc : COk l m st c) (n : Nat) : (∃ ev e, stepF n l m c.on c.s c.mem = some (ev, e, tupC l m (step1 l m c))) ∧ COk l m st (step1 l m c) := by
  obtain ⟨on, s, mem⟩ := c
  cases on with
  | false =>
    refine ⟨⟨(0, 0), 16, ?_⟩, fun h => by cases h⟩
    have hl := hR.fine.len
    unfold stepF Kq5.f
    dsimp only
    rw [decide_eq_true (show (l.length : Int) > 0 by omega), if_neg (by decide), if_pos (by decide)]
    rfl
  | true =>
    obtain ⟨i, rs, hO⟩ := hc rfl
    have hp : s.at_ = (i : Int) := hO.place
    have e : s.at_.toNat = i := by rw [hp]; exact Int.toNat_natCast i
    have e1 : step1 l m ⟨true, s, mem⟩ = ⟨decide ((l.getD i (0, 0, 0)).1 ≠ 25), stepM (l.getD i (0, 0, 0)) (m.getD i 0) s mem, memM (l.getD i (0, 0, 0)) s mem⟩ := by
      unfold step1
      rw [if_pos rfl]
      dsimp only
      rw [e]
    rw [e1]
    refine ⟨⟨_, 0, step_is hR hO n mem⟩, fun h => ?_⟩
    have h25 : opAt l i ≠ 25 := of_decide_eq_true h
    obtain ⟨q, rs', hq, _⟩ := (step_next hR hO mem h25).ex
    exact ⟨q, rs', hq⟩
theorem outsF_len (out : List Int) (set : Int) : ∀ r k, (outsF out set r k).length ≤ r
  | 0, k => Nat.le_refl _
  | r + 1, k => by
    have := outsF_len out set r (k + 1)
    unfold outsF
    rw [List.length_append]
    split <;> simp <;> omega
theorem outsI_len (out : List Int) (set : Int) : (outsI out set).length ≤ 16 := outsF_len out set 16 0
end Go.Proofs.Dk

/- Plain: rows that stand behind others. -/
namespace Go.Proofs.Dk
open Go
set_option maxRecDepth 100000
set_option linter.unusedVariables false
set_option linter.unusedSimpArgs false
structure Within (l l' : List Ins) (m m' : List Int) (p a z : Nat) : Prop where
  ins : ∀ i, a ≤ i → i < z → l'.getD (i + p) (0, 0, 0) = l.getD i (0, 0, 0)
  mat : ∀ i, a ≤ i → i < z → opAt l i = 21 → mN m' (i + p) = mN m i + p
end Go.Proofs.Dk

/- Plain: rows one behind the other, a loop around a row. -/
namespace Go.Proofs.Dk
open Go
set_option maxRecDepth 100000
set_option linter.unusedVariables false
set_option linter.unusedSimpArgs false
theorem Fine.mat {l : List Ins} {m h : List Int} (hF : Fine l m h) {i : Nat} (hi : i < l.length) (e : opAt l i = 21) : m.getD i 0 = ((mN m i : Nat) : Int) ∧ m.getD i 0 ≠ -1 := by
  obtain ⟨j, j1, j2, j3⟩ := hF.nest.open_ i hi (isOpen_iff.2 (.inl e))
  unfold mN
  rw [j1]
  exact ⟨rfl, by omega⟩
end Go.Proofs.Dk

/- Plain: one row without its End, and another one behind it. -/
namespace Go.Proofs.Dk
open Go
set_option maxRecDepth 100000
set_option linter.unusedVariables false
set_option linter.unusedSimpArgs false
structure Both (a b c : List Ins) (p : Nat) (ma mb mc : List Int) : Prop where
  len : c.length = p + b.length
  pa : a.length = p + 1
  ia : ∀ i, i < p → c.getD i (0, 0, 0) = a.getD i (0, 0, 0)
  ib : ∀ i, i < b.length → c.getD (i + p) (0, 0, 0) = b.getD i (0, 0, 0)
  mma : ∀ i, i < p → ma.getD i 0 ≠ -1 → mc.getD i 0 = ma.getD i 0
  mmb : ∀ i, i < b.length → mb.getD i 0 ≠ -1 → mc.getD (i + p) 0 = mb.getD i 0 + p
theorem ends25 {l : List Ins} {m h : List Int} (hF : Fine l m h) {i : Nat} (hi : i < l.length) : opAt l i = 25 ↔ i + 1 = l.length := by
  constructor
  · intro h25
    have h1 := hF.ends i hi
    unfold endQ at h1
    rw [show ((l.getD i (0, 0, 0)).1 == 25) = true from beq_iff_eq.2 h25] at h1
    cases h4 : ((i : Int) == ((l.length - 1 : Nat) : Int))
    · rw [h4] at h1; cases h1
    · have := eq_of_beq h4; omega
  · intro h
    have := hF.last
    rw [show l.length - 1 = i by omega] at this
    exact this
theorem Both.opb {a b c : List Ins} {p : Nat} {ma mb mc : List Int} (hB : Both a b c p ma mb mc) {i : Nat} (hi : i < b.length) : opAt c (i + p) = opAt b i ∧ argA c (i + p) = argA b i ∧ jumpTo c (i + p) = jumpTo b i + p ∧ isOpen c (i + p) = isOpen b i := by
  have e := hB.ib i hi
  unfold opAt argA jumpTo isOpen
  rw [e]
  exact ⟨rfl, rfl, by omega, rfl⟩
end Go.Proofs.Dk

/- Plain: a run of both rows is a run of the first one, and then one of the second one. -/
namespace Go.Proofs.Dk
open Go
set_option maxRecDepth 100000
set_option linter.unusedVariables false
set_option linter.unusedSimpArgs false
abbrev z88 : MemT := [[0, 0, 0, 0, 0, 0, 0, 0], [0, 0, 0, 0, 0, 0, 0, 0], [0, 0, 0, 0, 0, 0, 0, 0], [0, 0, 0, 0, 0, 0, 0, 0], [0, 0, 0, 0, 0, 0, 0, 0], [0, 0, 0, 0, 0, 0, 0, 0], [0, 0, 0, 0, 0, 0, 0, 0], [0, 0, 0, 0, 0, 0, 0, 0]]
noncomputable def stepZ (l : List Ins) (m : List Int) (c : CS) : CS := ⟨(step1 l m ⟨c.on, c.s, z88⟩).on, (step1 l m ⟨c.on, c.s, z88⟩).s, z88⟩
theorem cstepZ {l : List Ins} {m h : List Int} {st : List ByteArray} (hR : Row l m h st) {c : CS} (hc : COk l m st c) (n : Nat) : (∃ ev e mem, stepF n l m c.on c.s z88 = some (ev, e, tupM l m (stepZ l m c).on (stepZ l m c).s mem)) ∧ COk l m st (stepZ l m c) := by
  obtain ⟨⟨ev, e, a1⟩, a2⟩ := cstep hR (c := ⟨c.on, c.s, z88⟩) hc n
  exact ⟨⟨ev, e, _, a1⟩, a2⟩
noncomputable def stepZN (l : List Ins) (m : List Int) : Nat → CS → CS
  | 0, c => c
  | k + 1, c => stepZ l m (stepZN l m k c)
theorem stepZ_off {l : List Ins} {m : List Int} {c : CS} (h : c.on = false) : (stepZ l m c).on = false ∧ (stepZ l m c).s = c.s := by
  unfold stepZ step1
  rw [if_neg (show ¬ c.on = true by rw [h]; decide)]
  exact ⟨h, rfl⟩
theorem stepZN_ok {l : List Ins} {m h : List Int} {st : List ByteArray} (hR : Row l m h st) {c : CS} (hc : COk l m st c) : ∀ k, COk l m st (stepZN l m k c)
  | 0 => hc
  | k + 1 => (cstepZ hR (stepZN_ok hR hc k) 0).2
theorem stepZ_on {l : List Ins} {m : List Int} {c : CS} {i : Nat} (h : c.on = true) (hp : c.s.at_ = (i : Int)) : (stepZ l m c).on = decide (opAt l i ≠ 25) ∧ (stepZ l m c).s = stepM (l.getD i (0, 0, 0)) (m.getD i 0) c.s z88 := by
  unfold stepZ step1
  rw [if_pos (show c.on = true from h)]
  dsimp only
  rw [show c.s.at_.toNat = i by rw [hp]; exact Int.toNat_natCast i]
  exact ⟨rfl, rfl⟩
theorem i64_or16 (a b : Nat) (ha : a < 65536) (hb : b < 65536) : bits .or .i64 (a : Int) (b : Int) = ((a ||| b : Nat) : Int) := by
  have hx : a ||| b < 2 ^ 16 := Nat.or_lt_two_pow (by omega) (by omega)
  show IntKind.i64.wrap ((BitVec.ofInt 64 (a : Int) ||| BitVec.ofInt 64 (b : Int)).toNat : Int) = _
  rw [BitVec.toNat_or, ofInt_u64 a (by omega), ofInt_u64 b (by omega), wrap_id (by omega) (by omega)]
theorem bit1_16 {A : Int} {a : Nat} (h : A = (a : Int)) (ha : a ≤ 15) : bit1 A = ((2 ^ a : Nat) : Int) ∧ 2 ^ a < 65536 := by
  subst h
  have h1 : min ((a : Int)).toNat 64 = a := by rw [Int.toNat_natCast]; omega
  have h2 : 2 ^ a ≤ 2 ^ 15 := Nat.pow_le_pow_right (by omega) ha
  have h3 : ((2 ^ a : Nat) : Int) = (2 : Int) ^ a := by rw [Int.natCast_pow]; rfl
  refine ⟨?_, by omega⟩
  unfold bit1
  rw [h1, Int.one_mul, ← h3]
  generalize 2 ^ a = w at h2 ⊢
  rw [wrap_id (by omega) (by omega)]
theorem setB_is {x k : Nat} (hx : x < 65536) (hk : k < 16) : setB (x : Int) k = x.testBit k := by
  unfold setB
  have h1 : min ((k : Int)).toNat 64 = k := by rw [Int.toNat_natCast]; omega
  have h3 : (2 : Int) ^ k = ((2 ^ k : Nat) : Int) := by rw [Int.natCast_pow]; rfl
  have h4 : ((x : Int)).fdiv ((2 ^ k : Nat) : Int) = ((x / 2 ^ k : Nat) : Int) := by
    rw [Int.fdiv_eq_ediv_of_nonneg _ (Int.natCast_nonneg _)]
    rfl
  have h5 : x / 2 ^ k < 65536 := Nat.lt_of_le_of_lt (Nat.div_le_self _ _) hx
  have h6 : bits .and .i64 ((x / 2 ^ k : Nat) : Int) 1 = ((x / 2 ^ k % 2 : Nat) : Int) := by
    have hx : (x / 2 ^ k) &&& 1 = x / 2 ^ k % 2 := nat_mask1 _
    show IntKind.i64.wrap ((BitVec.ofInt 64 ((x / 2 ^ k : Nat) : Int) &&& BitVec.ofInt 64 ((1 : Nat) : Int)).toNat : Int) = _
    rw [BitVec.toNat_and, ofInt_u64 _ (by omega), ofInt_u64 1 (by omega), hx, wrap_id (by omega) (by omega)]
  rw [h1, h3, h4, h6, Nat.testBit_eq_decide_div_mod_eq]
  apply bool_iff
  rw [beq_iff_eq, decide_eq_true_eq]
  omega
structure RunI (inp : List Int) (t : Nat) (s : MS) : Prop where
  inp : s.inp = inp
  stp : 0 ≤ s.stp ∧ s.stp ≤ (t : Int)
  set : ∃ x : Nat, s.set = (x : Int) ∧ x < 65536
theorem set_step {x : Ins} {mt : Int} {s : MS} {mem : MemT} (hr : rightI x = true) {v : Nat} (hv : s.set = (v : Int)) (hv2 : v < 65536) : ∃ b : Nat, b < 65536 ∧ (∀ s' : MS, ∀ w : Nat, s'.set = (w : Int) → w < 65536 → ∀ mt' mem', (stepM x mt' s' mem').set = ((w ||| b : Nat) : Int)) := by
  by_cases h16 : x.1 = 16
  · have ha := right16 (o := x.1) (A := x.2.1) (B := x.2.2) (.inr h16) hr
    obtain ⟨b1, b2⟩ := bit1_16 (A := x.2.1) (a := x.2.1.toNat) (by omega) (by omega)
    refine ⟨2 ^ x.2.1.toNat, b2, fun s' w hw hw2 mt' mem' => ?_⟩
    show (if x.1 = 16 then bits .or .i64 s'.set (bit1 x.2.1) else s'.set) = _
    rw [if_pos h16, hw, b1, i64_or16 w _ hw2 b2]
  · refine ⟨0, by omega, fun s' w hw hw2 mt' mem' => ?_⟩
    show (if x.1 = 16 then bits .or .i64 s'.set (bit1 x.2.1) else s'.set) = _
    rw [if_neg h16, hw, Nat.or_zero]
theorem RunI.step {l : List Ins} {m h : List Int} {st : List ByteArray} (hR : Row l m h st) {inp : List Int} {t : Nat} {c : CS} (hc : COk l m st c) (hI : RunI inp t c.s) (ht : t < 1000000) : RunI inp (t + 1) (stepZ l m c).s := by
  cases hon : c.on with
  | false =>
    rw [(stepZ_off (l := l) (m := m) hon).2]
    exact ⟨hI.inp, ⟨hI.stp.1, by have := hI.stp.2; omega⟩, hI.set⟩
  | true =>
    obtain ⟨i, rs, hO⟩ := hc hon
    rw [(stepZ_on (l := l) (m := m) hon hO.place).2]
    have hs := hI.stp
    obtain ⟨x, x1, x2⟩ := hI.set
    obtain ⟨b, b1, b2⟩ := set_step (mt := 0) (mem := z88) (hR.fine.right hO.lt) x1 x2
    refine ⟨hI.inp, ?_, x ||| b, b2 c.s x x1 x2 _ _, Nat.or_lt_two_pow (n := 16) x2 b1⟩
    show 0 ≤ IntKind.wrap .i64 (c.s.stp + 1) ∧ IntKind.wrap .i64 (c.s.stp + 1) ≤ _
    rw [wrap_id (by omega) (by omega)]
    omega
theorem RunI.run {l : List Ins} {m h : List Int} {st : List ByteArray} (hR : Row l m h st) {inp : List Int} {c : CS} (hc : COk l m st c) (hI : RunI inp 0 c.s) : ∀ t, t < 1000000 → RunI inp t (stepZN l m t c).s
  | 0, _ => hI
  | t + 1, ht => (RunI.run hR hc hI t (by omega)).step hR (stepZN_ok hR hc t) (by omega)
structure RelB (p : Nat) (S : MS) (T U : CS) : Prop where
  on : U.on = T.on
  at_ : U.s.at_ = T.s.at_ + p
  stk : U.s.stk = T.s.stk
  rds : U.s.rds = T.s.rds
  held : U.s.held = T.s.held
  inp : U.s.inp = T.s.inp
  stp : U.s.stp = S.stp + T.s.stp
  set : ∃ x y : Nat, S.set = (x : Int) ∧ T.s.set = (y : Int) ∧ U.s.set = ((x ||| y : Nat) : Int) ∧ x < 65536 ∧ y < 65536
theorem RelB.step {a b c : List Ins} {p : Nat} {ma mb mc hb : List Int} {sb : List ByteArray} (hB : Both a b c p ma mb mc) (hR : Row b mb hb sb) (h11 : ∀ k, k < b.length → opAt b k ≠ 11 ∧ opAt b k ≠ 13) {S : MS} {T U : CS} (hT : COk b mb sb T) (h : RelB p S T U) (hs : 0 ≤ S.stp ∧ S.stp ≤ 1000000) (ht : 0 ≤ T.s.stp ∧ T.s.stp ≤ 1000000) : RelB p S (stepZ b mb T) (stepZ c mc U) := by
  cases hon : T.on with
  | false =>
    have e1 := stepZ_off (l := b) (m := mb) hon
    have e2 := stepZ_off (l := c) (m := mc) (h.on.trans hon)
    refine ⟨e2.1.trans e1.1.symm, ?_, ?_, ?_, ?_, ?_, ?_, ?_⟩ <;> rw [e1.2, e2.2]
    · exact h.at_
    · exact h.stk
    · exact h.rds
    · exact h.held
    · exact h.inp
    · exact h.stp
    · exact h.set
  | true =>
    obtain ⟨i, rs, hO⟩ := hT hon
    have hi := hO.lt
    have hp := hO.place
    have hpU : U.s.at_ = ((i + p : Nat) : Int) := by rw [h.at_, hp]; omega
    have e1 := stepZ_on (l := b) (m := mb) hon hp
    have e2 := stepZ_on (l := c) (m := mc) (h.on.trans hon) hpU
    have hr := hR.fine.right hi
    have hm : opAt b i = 22 → mc.getD (i + p) 0 = mb.getD i 0 + p := fun h22 => by
      obtain ⟨k, k1, _⟩ := hR.fine.closed.cl i hi (.inl h22)
      exact hB.mmb i hi (by rw [k1]; omega)
    rw [hB.ib i hi] at e2
    obtain ⟨x, y, s1, s2, s3, s4, s5⟩ := h.set
    obtain ⟨w, w1, w2⟩ := set_step (mt := 0) (mem := z88) hr s2 s5
    obtain ⟨n11, n13⟩ := h11 i hi
    unfold opAt at hm n11 n13
    have eop := (hB.opb hi).1
    unfold opAt at eop
    refine ⟨?_, ?_, ?_, ?_, ?_, ?_, ?_, x, y ||| w, s1, ?_, ?_, s4, Nat.or_lt_two_pow (n := 16) s5 w1⟩
    · rw [e1.1, e2.1]
      unfold opAt
      rw [eop]
    all_goals try rw [e1.2]
    all_goals try rw [e2.2]
    · show nextM _ _ _ = nextM _ _ _ + _
      unfold nextM
      rw [h.at_, h.stk, h.rds]
      split
      · omega
      · split
        · split <;> omega
        · split
          · rename_i h22
            rw [hm h22]
            split <;> omega
          · omega
    · show stkM _ _ _ = stkM _ _ _
      unfold stkM
      rw [h.stk, h.inp, if_neg n11, if_neg n13, if_neg n11, if_neg n13]
    · show rdsM _ _ = rdsM _ _
      unfold rdsM
      rw [h.rds]
    · show (if _ then _ else if _ then _ else _) = (if _ then _ else if _ then _ else _)
      rw [h.held]
    · exact h.inp
    · show IntKind.wrap .i64 (U.s.stp + 1) = S.stp + IntKind.wrap .i64 (T.s.stp + 1)
      have := h.stp
      rw [wrap_id (by omega) (by omega), wrap_id (by omega) (by omega)]
      omega
    · exact w2 _ _ s2 s5 _ _
    · rw [w2 _ _ s3 (Nat.or_lt_two_pow (n := 16) s4 s5) _ _, Nat.or_assoc]
end Go.Proofs.Dk

/- Plain: a run takes no more steps than the worst way, and no fewer than the best; locks take no more than their sections. -/
namespace Go.Proofs.Dk
open Go
set_option maxRecDepth 100000
set_option linter.unusedVariables false
set_option linter.unusedSimpArgs false
theorem end_lps {l : List Ins} {m h : List Int} (hF : Fine l m h) {i : Nat} (hi : i < l.length) (h25 : opAt l i = 25) : lps l m i = [] := by
  cases hl : lps l m i with
  | nil => rfl
  | cons k r =>
    exfalso
    have hk : k ∈ lps l m i := by rw [hl]; exact List.mem_cons_self ..
    obtain ⟨k1, k2⟩ := lps_mem hk
    have ho := (enc_open k1).2
    obtain ⟨j, j1, j2, j3, j4, j5, j6⟩ := mat_is hF (open_lt ho) ho
    have h1 := (enc_iff ho j1).1 k1
    have h2 := (ends25 hF hi).1 h25
    have hji : j = i := by omega
    subst hji
    have := ends_op (l.getD k (0, 0, 0))
    rw [← j6] at this
    unfold opAt at h25
    rw [h25] at this
    rcases this with h | h <;> cases h
theorem rs_nil {rs : List (Nat × Int)} (h : rs.map (·.1) = []) : rs = [] := List.map_eq_nil_iff.1 h
theorem run_lim {l : List Ins} {m h : List Int} {st : List ByteArray} (hR : Row l m h st) {f : Nat} (hf : l.length < f) (hw : wayF bM l m f 0 (l.length - 1) < 1048577) : ∀ (N : Nat) {s : MS} {i : Nat} {rs : List (Nat × Int)} {k : Int}, phi l m i rs ≤ (N : Int) → Ok l m st s i rs → InvP bM UpP UpQ l m f 0 (l.length - 1) i rs k → k ≤ wayF bM l m f 0 (l.length - 1)
  | N, s, i, rs, k, hN, hO, hI => by
    have hF := hR.fine
    have hA := hF.all
    by_cases h25 : opAt l i = 25
    · have e := hO.lps
      rw [end_lps hF hO.lt h25] at e
      have := rs_nil e
      subst this
      have hi : i = l.length - 1 := by have := (ends25 hF hO.lt).1 h25; omega
      subst hi
      obtain ⟨h1, h2, h3, h4⟩ := hI
      rw [way_is hF hf hA] at h4
      unfold UpP capI at h4
      split at h4 <;> omega
    · obtain ⟨q, rs', hq, hp, hg, _⟩ := (step_go hR hO z88 h25).ex
      have hz : i ≠ l.length - 1 := fun e => h25 ((ends25 hF hO.lt).2 (by have := hO.lt; omega))
      have hI2 := hg bM UpP UpQ f 0 (l.length - 1) k up_meas hf hA hI hz
      have hnn := phi_nn hF (i := q) (rs := rs') (fun e he => (hq.rnd e he).1)
      cases N with
      | zero => omega
      | succ N =>
        have := run_lim hR hf hw N (by omega) hq hI2
        omega
end Go.Proofs.Dk

/- CheckRuns is true. -/
namespace Go.Proofs.Dk
open Go
set_option maxRecDepth 100000
set_option linter.unusedVariables false
theorem known12b : camshaftlaw12_known.f 30000 = some true := by kernel_rfl
abbrev m77 : MemT := [[77, 77, 77, 77, 77, 77, 77, 77], [77, 77, 77, 77, 77, 77, 77, 77], [77, 77, 77, 77, 77, 77, 77, 77], [77, 77, 77, 77, 77, 77, 77, 77], [77, 77, 77, 77, 77, 77, 77, 77], [77, 77, 77, 77, 77, 77, 77, 77], [77, 77, 77, 77, 77, 77, 77, 77], [77, 77, 77, 77, 77, 77, 77, 77]]
theorem ck_fill (N : Int) {l : List Ins} {m : List Int} (i1 i2 i3 i4 : Int) (sf : List Int) (bl : List (List Int)) (ts : List Tsk) (t1 t2 t3 t4 : Int) (tb tq : List Int) (tc : List Ins) (s : MS) : Kq0.b1.l 30000 (N, 0, i1, i2, i3, i4, sf, bl, ts, l, m, s.ret, true, s.at_, s.stk, s.loc, s.inp, s.out, s.set, s.rds, s.held, s.flt, s.stp, t1, t2, t3, t4, tb, tq, tc, z88) = some (N, i1, i2, i3, i4, sf, bl, ts, l, m, s.ret, true, s.at_, s.stk, s.loc, s.inp, s.out, s.set, s.rds, s.held, s.flt, s.stp, t1, t2, t3, t4, tb, tq, tc, m77) := by kernel_rfl
theorem ck_b3 (n : Nat) (N : Int) {l : List Ins} {m : List Int} (i1 i2 i3 i4 : Int) (sf : List Int) (bl : List (List Int)) (ts : List Tsk) (t1 t2 t3 t4 : Int) (tb tq : List Int) (tc : List Ins) (hto : tq.length < n) (hto2 : tq.length < 1000000) (outs : List (Int × Int)) {k : Nat} (hk : k < outs.length) (mem : MemT) (on : Bool) (s : MS) (hin : (outs.getD k (0, 0)).1 ∈ tq) :
    ∃ r, Kq0.b3.l n (N, outs, (k : Int), false, 0, i1, i2, i3, i4, sf, bl, ts, l, m, s.ret, on, s.at_, s.stk, s.loc, s.inp, s.out, s.set, s.rds, s.held, s.flt, s.stp, t1, t2, t3, t4, tb, tq, tc, mem) = some r ∧ r = (N, outs, (k : Int), true, i1, i2, i3, i4, sf, bl, ts, l, m, s.ret, on, s.at_, s.stk, s.loc, s.inp, s.out, s.set, s.rds, s.held, s.flt, s.stp, t1, t2, t3, t4, tb, tq, tc, mem) := by
  show ∃ r, it _ n _ = some r ∧ _
  refine it_ex (fun f x => ∃ (j : Nat) (ok : Bool), j ≤ tq.length ∧ tq.length < f + j ∧ (ok = true ∨ (outs.getD k (0, 0)).1 ∈ tq.drop j) ∧ x = (N, outs, (k : Int), ok, (j : Int), i1, i2, i3, i4, sf, bl, ts, l, m, s.ret, on, s.at_, s.stk, s.loc, s.inp, s.out, s.set, s.rds, s.held, s.flt, s.stp, t1, t2, t3, t4, tb, tq, tc, mem)) _ (fun x ⟨j, ok, h1, h2, _⟩ => by omega) ?_ n _ ⟨0, false, by omega, by omega, .inr hin, rfl⟩
  rintro f x F hF ⟨j, ok, h1, h2, h3, rfl⟩
  show ∃ r, Kq0.b3 n F N outs (k : Int) ok (j : Int) i1 i2 i3 i4 sf bl ts l m s.ret on s.at_ s.stk s.loc s.inp s.out s.set s.rds s.held s.flt s.stp t1 t2 t3 t4 tb tq tc mem = some r ∧ _
  unfold Kq0.b3
  rcases Nat.lt_or_ge j tq.length with hj | hj
  · rw [if_pos (decide_eq_true (by omega)), next_ix (by omega)]
    cases ok with
    | true =>
      rw [if_pos rfl]
      exact hF _ ⟨j + 1, true, by omega, by omega, .inl rfl, rfl⟩
    | false =>
      have h3 : (outs.getD k (0, 0)).1 ∈ tq.drop j := h3.resolve_left (by decide)
      rw [drop_eq_cons (d := (0 : Int)) hj, List.mem_cons] at h3
      rw [if_neg (by decide), if_pos (in_ix hj), if_pos (in_ix hk), Int.toNat_natCast, Int.toNat_natCast]
      refine hF _ ⟨j + 1, _, by omega, by omega, ?_, rfl⟩
      rcases h3 with h3 | h3
      · left; rw [← h3]; exact beq_self_eq_true _
      · exact .inr h3
  · rw [if_neg (by simp; omega)]
    have : j = tq.length := by omega
    subst this
    rw [List.drop_length] at h3
    have : ok = true := h3.resolve_right (by simp)
    subst this
    exact ⟨_, rfl, rfl⟩
theorem ck_b4 (n : Nat) (N : Int) {l : List Ins} {m : List Int} (i1 i2 i3 i4 : Int) (sf : List Int) (bl : List (List Int)) (ts : List Tsk) (t1 t2 t3 t4 : Int) (tb tq : List Int) (tc : List Ins) (hto : tq.length < n) (hto2 : tq.length < 1000000) {outs : List (Int × Int)} (ho : outs.length < n) (ho2 : outs.length < 1000000) (mem : MemT) (on : Bool) (s : MS) (hin : ∀ e ∈ outs, e.1 ∈ tq) :
    ∃ r, Kq0.b4.l n (N, outs, 0, i1, i2, i3, i4, sf, bl, ts, l, m, s.ret, on, s.at_, s.stk, s.loc, s.inp, s.out, s.set, s.rds, s.held, s.flt, s.stp, t1, t2, t3, t4, tb, tq, tc, mem) = some r ∧ r = .inr ((N, ()), ((i1, i2, i3, i4, sf, bl, ts, ()), (l, m, s.ret, on, s.at_, s.stk, s.loc, s.inp, s.out, s.set, s.rds, s.held, s.flt, s.stp, ()), (t1, t2, t3, t4, tb, tq, tc, ()), (mem, ()), ())) := by
  show ∃ r, it _ n _ = some r ∧ _
  refine it_ex (fun f x => ∃ k : Nat, k ≤ outs.length ∧ outs.length < f + k ∧ x = (N, outs, (k : Int), i1, i2, i3, i4, sf, bl, ts, l, m, s.ret, on, s.at_, s.stk, s.loc, s.inp, s.out, s.set, s.rds, s.held, s.flt, s.stp, t1, t2, t3, t4, tb, tq, tc, mem)) _ (fun x ⟨k, h1, h2, _⟩ => by omega) ?_ n _ ⟨0, by omega, by omega, rfl⟩
  rintro f x F hF ⟨k, h1, h2, rfl⟩
  show ∃ r, Kq0.b4 n F N outs (k : Int) i1 i2 i3 i4 sf bl ts l m s.ret on s.at_ s.stk s.loc s.inp s.out s.set s.rds s.held s.flt s.stp t1 t2 t3 t4 tb tq tc mem = some r ∧ _
  unfold Kq0.b4
  rcases Nat.lt_or_ge k outs.length with hk | hk
  · rw [if_pos (decide_eq_true (by omega))]
    have hm : (outs.getD k (0, 0)).1 ∈ tq := hin _ (by rw [List.getD_eq_getElem?_getD, List.getElem?_eq_getElem hk]; exact List.getElem_mem _)
    obtain ⟨r, e1, e2⟩ := ck_b3 n N (l := l) (m := m) i1 i2 i3 i4 sf bl ts t1 t2 t3 t4 tb tq tc hto hto2 outs hk mem on s hm
    subst e2
    rw [e1, Option.bind_some]
    dsimp only
    rw [if_neg (by decide), next_ix (by omega)]
    exact hF _ ⟨k + 1, by omega, by omega, rfl⟩
  · rw [if_neg (by simp; omega)]
    exact ⟨_, rfl, rfl⟩
def MemI (bl : List (List Int)) (mem : MemT) : Prop := ∀ A B : Nat, A < 8 → B < 8 → ¬ (A < bl.length ∧ B < (bl.getD A []).length) → (mem.getD A z8).getD B 0 = 77
theorem ck_b5 (n : Nat) (hn : 8 < n) (N : Int) {l : List Ins} {m : List Int} (i1 i2 i3 i4 : Int) (sf : List Int) (bl : List (List Int)) (ts : List Tsk) {mem : MemT} (hm : MemI bl mem) {k : Nat} (hk : k < 8) (on : Bool) (s : MS) :
    ∃ r, Kq0.b5.l n (N, (k : Int), 0, i1, i2, i3, i4, sf, bl, ts, l, m, s.ret, on, s.at_, s.stk, s.loc, s.inp, s.out, s.set, s.rds, s.held, s.flt, s.stp, mem) = some r ∧ r = .inr ((N, (k : Int), ()), ((i1, i2, i3, i4, sf, bl, ts, ()), (l, m, s.ret, on, s.at_, s.stk, s.loc, s.inp, s.out, s.set, s.rds, s.held, s.flt, s.stp, ()), (mem, ()), ())) := by
  show ∃ r, it _ n _ = some r ∧ _
  refine it_ex (fun f x => ∃ w : Nat, w ≤ 8 ∧ 8 < f + w ∧ x = (N, (k : Int), (w : Int), i1, i2, i3, i4, sf, bl, ts, l, m, s.ret, on, s.at_, s.stk, s.loc, s.inp, s.out, s.set, s.rds, s.held, s.flt, s.stp, mem)) _ (fun x ⟨w, h1, h2, _⟩ => by omega) ?_ n _ ⟨0, by omega, by omega, rfl⟩
  rintro f x F hF ⟨w, h1, h2, rfl⟩
  show ∃ r, Kq0.b5 n F N (k : Int) (w : Int) i1 i2 i3 i4 sf bl ts l m s.ret on s.at_ s.stk s.loc s.inp s.out s.set s.rds s.held s.flt s.stp mem = some r ∧ _
  unfold Kq0.b5
  rcases Nat.lt_or_ge w 8 with hw | hw
  · have ih := hF _ ⟨w + 1, by omega, by omega, rfl⟩
    rw [if_pos (decide_eq_true (by omega)), next_ix (by omega), Int.toNat_natCast, Int.toNat_natCast]
    have e77 : ¬ (k < bl.length ∧ w < (bl.getD k []).length) → (((mem.getD k [(0 : Int), (0 : Int), (0 : Int), (0 : Int), (0 : Int), (0 : Int), (0 : Int), (0 : Int)]).getD w (0 : Int)) != 77) = false := fun h => by
      have : (mem.getD k [(0 : Int), (0 : Int), (0 : Int), (0 : Int), (0 : Int), (0 : Int), (0 : Int), (0 : Int)]).getD w (0 : Int) = 77 := hm k w hk hw h
      rw [this]; rfl
    by_cases h3 : k < bl.length
    · rw [if_pos (decide_eq_true (by omega)), if_pos (in_ix h3)]
      by_cases h4 : w < (bl.getD k []).length
      · rw [if_neg (by rw [decide_eq_true (show (w : Int) < ((bl.getD k []).length : Int) by omega)]; decide)]
        exact ih
      · rw [if_pos (by rw [decide_eq_false (show ¬ (w : Int) < ((bl.getD k []).length : Int) by omega)]; decide), if_pos (ix_ok (by omega)), if_pos (ix_ok (by omega)), e77 (fun h => h4 h.2), if_neg (by decide)]
        exact ih
    · rw [if_neg (by simp; omega), if_pos (ix_ok (by omega)), if_pos (ix_ok (by omega)), e77 (fun h => h3 h.1), if_neg (by decide)]
      exact ih
  · rw [if_neg (by simp; omega)]
    exact ⟨_, rfl, rfl⟩
theorem ck_b6 (n : Nat) (hn : 8 < n) (N : Int) {l : List Ins} {m : List Int} (i1 i2 i3 i4 : Int) (sf : List Int) (bl : List (List Int)) (ts : List Tsk) {mem : MemT} (hm : MemI bl mem) (on : Bool) (s : MS) :
    ∃ r, Kq0.b6.l n (N, 0, i1, i2, i3, i4, sf, bl, ts, l, m, s.ret, on, s.at_, s.stk, s.loc, s.inp, s.out, s.set, s.rds, s.held, s.flt, s.stp, mem) = some r ∧ r = .inr ((N, ()), ((i1, i2, i3, i4, sf, bl, ts, ()), (l, m, s.ret, on, s.at_, s.stk, s.loc, s.inp, s.out, s.set, s.rds, s.held, s.flt, s.stp, ()), (mem, ()), ())) := by
  show ∃ r, it _ n _ = some r ∧ _
  refine it_ex (fun f x => ∃ k : Nat, k ≤ 8 ∧ 8 < f + k ∧ x = (N, (k : Int), i1, i2, i3, i4, sf, bl, ts, l, m, s.ret, on, s.at_, s.stk, s.loc, s.inp, s.out, s.set, s.rds, s.held, s.flt, s.stp, mem)) _ (fun x ⟨k, h1, h2, _⟩ => by omega) ?_ n _ ⟨0, by omega, by omega, rfl⟩
  rintro f x F hF ⟨k, h1, h2, rfl⟩
  show ∃ r, Kq0.b6 n F N (k : Int) i1 i2 i3 i4 sf bl ts l m s.ret on s.at_ s.stk s.loc s.inp s.out s.set s.rds s.held s.flt s.stp mem = some r ∧ _
  unfold Kq0.b6
  rcases Nat.lt_or_ge k 8 with hk | hk
  · rw [if_pos (decide_eq_true (by omega))]
    obtain ⟨r, e1, e2⟩ := ck_b5 n hn N (l := l) (m := m) i1 i2 i3 i4 sf bl ts hm hk on s
    subst e2
    rw [e1, Option.bind_some]
    dsimp only [Sum.elim_inr]
    rw [next_ix (by omega)]
    exact hF _ ⟨k + 1, by omega, by omega, rfl⟩
  · rw [if_neg (by simp; omega)]
    exact ⟨_, rfl, rfl⟩
def OutI (tq : List Int) (set : Int) : Prop := ∃ x : Nat, set = (x : Int) ∧ x < 65536 ∧ ∀ k, x.testBit k = true → (k : Int) ∈ tq
theorem outs_own {tq out : List Int} {set : Int} (h : OutI tq set) : ∀ e ∈ outsI out set, e.1 ∈ tq := by
  obtain ⟨x, h1, h2, h3⟩ := h
  subst h1
  have key : ∀ r k, r + k ≤ 16 → ∀ e ∈ outsF out (x : Int) r k, e.1 ∈ tq := by
    intro r
    induction r with
    | zero => intro k _ e he; cases he
    | succ r ih =>
      intro k hk e he
      unfold outsF at he
      rcases List.mem_append.1 he with h | h
      · rw [setB_is h2 (by omega)] at h
        split at h
        · rename_i hb
          have := List.mem_singleton.1 h
          rw [this]
          exact h3 k hb
        · cases h
      · exact ih (k + 1) (by omega) e h
  exact key 16 0 (by omega)
theorem mem_step {bl : List (List Int)} {mem : MemT} {s : MS} {x : Ins} (hr : rightI x = true) (hm : MemI bl mem) (hx : x.1 = 18 → x.2.1 < (bl.length : Int) ∧ x.2.2 < ((bl.getD x.2.1.toNat []).length : Int)) : MemI bl (memM x s mem) := by
  intro A B hA hB hn
  unfold memM
  split
  · rename_i h18
    have ha := right88 (o := x.1) (A := x.2.1) (B := x.2.2) (.inr h18) hr
    obtain ⟨b1, b2⟩ := hx h18
    have hold := hm A B hA hB hn
    by_cases e : A = x.2.1.toNat
    · have hne : B ≠ x.2.2.toNat := fun e2 => hn ⟨by omega, by rw [e]; omega⟩
      rcases Nat.lt_or_ge x.2.1.toNat mem.length with hl | hl
      · have e3 : (mem.set x.2.1.toNat ((mem.getD x.2.1.toNat z8).set x.2.2.toNat (pv s.stk))).getD A z8 = (mem.getD A z8).set x.2.2.toNat (pv s.stk) := by
          rw [getD_set hl, if_pos e, e]
        rw [e3, List.getD_eq_getElem?_getD, List.getElem?_set_ne (fun h => hne h.symm), ← List.getD_eq_getElem?_getD]
        exact hold
      · rw [List.set_eq_of_length_le hl]
        exact hold
    · have e3 : (mem.set x.2.1.toNat ((mem.getD x.2.1.toNat z8).set x.2.2.toNat (pv s.stk))).getD A z8 = mem.getD A z8 := by
        rw [List.getD_eq_getElem?_getD, List.getElem?_set_ne (fun h => e h.symm), ← List.getD_eq_getElem?_getD]
      rw [e3]
      exact hold
  · exact hm A B hA hB hn
theorem out_step {tq : List Int} {s : MS} {x : Ins} {mt : Int} {mem : MemT} (hr : rightI x = true) (ho : OutI tq s.set) (hx : x.1 = 16 → x.2.1 ∈ tq) : OutI tq (stepM x mt s mem).set := by
  obtain ⟨w, h1, h2, h3⟩ := ho
  show OutI tq (if x.1 = 16 then bits .or .i64 s.set (bit1 x.2.1) else s.set)
  split
  · rename_i h16
    have ha := right16 (o := x.1) (A := x.2.1) (B := x.2.2) (.inr h16) hr
    obtain ⟨b1, b2⟩ := bit1_16 (A := x.2.1) (a := x.2.1.toNat) (by omega) (by omega)
    refine ⟨w ||| 2 ^ x.2.1.toNat, by rw [h1, b1, i64_or16 w _ h2 b2], Nat.or_lt_two_pow (n := 16) h2 b2, fun k hk => ?_⟩
    rw [Nat.testBit_or, Bool.or_eq_true] at hk
    rcases hk with hk | hk
    · exact h3 k hk
    · rw [Nat.testBit_two_pow, decide_eq_true_eq] at hk
      have : (k : Int) = x.2.1 := by omega
      rw [this]
      exact hx h16
  · exact ⟨w, h1, h2, h3⟩
theorem ck_b2 (n : Nat) (hn : 20010 < n) {m h : List Int} {st : List ByteArray} {l : List Ins} (hR : Row l m h st) (N : Int) (i1 i2 i3 i4 : Int) (sf : List Int) (bl : List (List Int)) (ts : List Tsk) (t1 t2 t3 t4 : Int) (tb tq : List Int) (tc : List Ins) {s : MS} (hO : Ok l m st s 0 []) (hs : s.stp = 0) (hs2 : OutI tq s.set) {mem : MemT} (hm : MemI bl mem) {w : Int} (hw : w = wayF bM l m n 0 (l.length - 1) + 1) (hw2 : w ≤ N) (hN : N ≤ 20000)
    (hx18 : ∀ i, i < l.length → opAt l i = 18 → argA l i < (bl.length : Int) ∧ (l.getD i (0, 0, 0)).2.2 < ((bl.getD (argA l i).toNat []).length : Int)) (hx16 : ∀ i, i < l.length → opAt l i = 16 → argA l i ∈ tq) :
    ∃ r, Kq0.b2.l n (N, i1, i2, i3, i4, sf, bl, ts, l, m, s.ret, true, s.at_, s.stk, s.loc, s.inp, s.out, s.set, s.rds, s.held, s.flt, s.stp, t1, t2, t3, t4, tb, tq, tc, mem) = some r ∧ ∃ (s' : MS) (mem' : MemT), s'.stp ≤ w ∧ 0 ≤ s'.stp ∧ OutI tq s'.set ∧ MemI bl mem' ∧ r = .inr ((N, ()), ((i1, i2, i3, i4, sf, bl, ts, ()), (l, m, s'.ret, false, s'.at_, s'.stk, s'.loc, s'.inp, s'.out, s'.set, s'.rds, s'.held, s'.flt, s'.stp, ()), (t1, t2, t3, t4, tb, tq, tc, ()), (mem', ()), ())) := by
  have hF := hR.fine
  have hA := hF.all
  obtain ⟨hl1, hl2⟩ := hF.len
  have hf : l.length < n := by omega
  have hwc : wayF bM l m n 0 (l.length - 1) < 1048577 := by omega
  show ∃ r, it _ n _ = some r ∧ _
  refine it_ex (fun f x => ∃ (k : Nat) (i : Nat) (rs : List (Nat × Int)) (s : MS) (mem : MemT) (on : Bool), (k : Int) ≤ w ∧ 20005 < f + k ∧ s.stp = (k : Int) ∧ OutI tq s.set ∧ MemI bl mem ∧ (on = true → Ok l m st s i rs ∧ InvP bM UpP UpQ l m n 0 (l.length - 1) i rs (k : Int)) ∧ x = (N, i1, i2, i3, i4, sf, bl, ts, l, m, s.ret, on, s.at_, s.stk, s.loc, s.inp, s.out, s.set, s.rds, s.held, s.flt, s.stp, t1, t2, t3, t4, tb, tq, tc, mem)) _ (fun x ⟨k, i, rs, s, mem, on, h1, h2, _⟩ => by omega) ?_ n _ ⟨0, 0, [], s, mem, true, by have := (wayF_ok bM_bet hF n hA); rcases this with h | h <;> omega, by omega, hs, hs2, hm, fun _ => ⟨hO, InvP.start up_meas hA⟩, rfl⟩
  rintro f x F hF' ⟨k, i, rs, s, mem, on, h1, h2, h3, h4, h5, hon, rfl⟩
  show ∃ r, Kq0.b2 n F N i1 i2 i3 i4 sf bl ts l m s.ret on s.at_ s.stk s.loc s.inp s.out s.set s.rds s.held s.flt s.stp t1 t2 t3 t4 tb tq tc mem = some r ∧ _
  unfold Kq0.b2
  have eR : ∀ (ret : List Int) (on : Bool) (at_ : Int) (stk loc inp out : List Int) (set : Int) (rds : List Int) (held flt stp : Int), vm_Machine_Running.f n l m ret on at_ stk loc inp out set rds held flt stp = some (on, l, m, ret, on, at_, stk, loc, inp, out, set, rds, held, flt, stp) := fun _ _ _ _ _ _ _ _ _ _ _ _ => rfl
  have eS : ∀ (ret : List Int) (on : Bool) (at_ : Int) (stk loc inp out : List Int) (set : Int) (rds : List Int) (held flt stp : Int), vm_Machine_Steps.f n l m ret on at_ stk loc inp out set rds held flt stp = some (stp, l, m, ret, on, at_, stk, loc, inp, out, set, rds, held, flt, stp) := fun _ _ _ _ _ _ _ _ _ _ _ _ => rfl
  have eH : ∀ (ret : List Int) (on : Bool) (at_ : Int) (stk loc inp out : List Int) (set : Int) (rds : List Int) (held flt stp : Int), vm_Machine_Held.f n l m ret on at_ stk loc inp out set rds held flt stp = some (held, l, m, ret, on, at_, stk, loc, inp, out, set, rds, held, flt, stp) := fun _ _ _ _ _ _ _ _ _ _ _ _ => rfl
  rw [eR, Option.bind_some]
  dsimp only
  cases on with
  | false =>
    rw [if_neg (by decide)]
    exact ⟨_, rfl, s, mem, by omega, by omega, h4, h5, rfl⟩
  | true =>
    obtain ⟨hO, hU⟩ := hon rfl
    have hi := hO.lt
    have hr := hF.right hi
    obtain ⟨M, hM⟩ : ∃ M : Nat, phi l m i rs ≤ (M : Int) := ⟨(phi l m i rs).toNat, by omega⟩
    have hk := run_lim hR hf hwc M hM hO hU
    obtain ⟨v, v1, v2⟩ := hO.held
    have hv := v2.1
    have hS := step_is hR hO n mem
    unfold stepIs stepF tupM at hS
    rw [if_pos rfl, eS, Option.bind_some]
    dsimp only
    rw [if_pos (decide_eq_true (by omega)), eH, Option.bind_some]
    dsimp only
    rw [if_neg (by simp; omega), eH, Option.bind_some]
    dsimp only
    rw [if_neg (by simp; omega), hS, Option.bind_some]
    dsimp only
    rw [if_neg (by decide)]
    have hstp : (stepM (l.getD i (0, 0, 0)) (m.getD i 0) s mem).stp = ((k + 1 : Nat) : Int) := by
      show IntKind.wrap .i64 (s.stp + 1) = _
      rw [h3, next_ix (by omega)]
    have g4 := out_step (x := l.getD i (0, 0, 0)) (mt := m.getD i 0) (mem := mem) hr h4 (hx16 i hi)
    have g5 := mem_step (x := l.getD i (0, 0, 0)) (s := s) hr h5 (hx18 i hi)
    by_cases h25 : opAt l i = 25
    · exact hF' _ ⟨k + 1, 0, [], _, _, _, by omega, by omega, hstp, g4, g5, fun h => absurd h25 (of_decide_eq_true h), rfl⟩
    · obtain ⟨q, rs', hq, hp, hg, he⟩ := (step_go hR hO mem h25).ex
      have hz : i ≠ l.length - 1 := fun e => h25 ((ends25 hF hi).2 (by omega))
      refine hF' _ ⟨k + 1, q, rs', _, _, _, by omega, by omega, hstp, g4, g5, fun _ => ⟨hq, ?_⟩, rfl⟩
      exact hg bM UpP UpQ n 0 (l.length - 1) _ up_meas hf hA hU hz
theorem camshaftlaw12_CheckRuns_true (a0 : (Int × (Int × (Int × (Int × ((List Int) × ((List (List Int)) × (List (Int × (Int × (Int × (Int × ((List Int) × ((List Int) × (List (Int × (Int × Int))))))))))))))))) (a1 : Int) (a2 : (List Int)) (ok0 : Sh.Ok (.pair (.int .i64) (.pair (.int .i64) (.pair (.int .i64) (.pair (.int .i64) (.pair (.sl (.int .i64)) (.pair (.sl (.sl (.int .i64))) (.sl (.pair (.int .i64) (.pair (.int .i64) (.pair (.int .i64) (.pair (.int .i64) (.pair (.sl (.int .i64)) (.pair (.sl (.int .i64)) (.sl (.pair (.int .i64) (.pair (.int .i64) (.int .i64))))))))))))))))) a0) (ok1 : Sh.Ok (.int .i64) a1) (ok2 : Sh.Ok (.arr 16 (.int .i64)) a2) (sm0 : Sh.Sm (.pair (.int .i64) (.pair (.int .i64) (.pair (.int .i64) (.pair (.int .i64) (.pair (.sl (.int .i64)) (.pair (.sl (.sl (.int .i64))) (.sl (.pair (.int .i64) (.pair (.int .i64) (.pair (.int .i64) (.pair (.int .i64) (.pair (.sl (.int .i64)) (.pair (.sl (.int .i64)) (.sl (.pair (.int .i64) (.pair (.int .i64) (.int .i64))))))))))))))))) a0) : ∃ n, Kq0.f n a0 a1 a2 = some true := by
  refine ⟨30000, ?_⟩
  have hn1 : 200 < 30000 := by decide
  have hn2 : 30000 < 1000000 := by decide
  unfold Kq0.f
  rw [known12b]
  rcases img_light 30000 hn1 hn2 sm0 with h | ⟨h, hL⟩
  · rw [show Kq3.f 30000 (a0.1, a0.2.1, a0.2.2.1, a0.2.2.2.1, a0.2.2.2.2.1, a0.2.2.2.2.2.1, a0.2.2.2.2.2.2) = some 0 from h, Option.bind_some, if_pos (by decide)]
    rfl
  rw [show Kq3.f 30000 (a0.1, a0.2.1, a0.2.2.1, a0.2.2.2.1, a0.2.2.2.2.1, a0.2.2.2.2.2.1, a0.2.2.2.2.2.2) = some 1 from h, Option.bind_some, if_neg (by decide)]
  rw [show check_Task.f 30000 (a0.1, a0.2.1, a0.2.2.1, a0.2.2.2.1, a0.2.2.2.2.1, a0.2.2.2.2.2.1, a0.2.2.2.2.2.2) a1 = _ from task_is 30000 hn1 hn2 a0 a1, Option.bind_some]
  by_cases hz : taskI 30000 a0 a1 = 0
  · obtain ⟨hRt, ⟨h0, h1⟩, h2, h3, h4⟩ := taskI_zero hz
    rw [if_neg (by rw [hz]; decide)]
    rw [show check_Slots.f 30000 (a0.1, a0.2.1, a0.2.2.1, a0.2.2.2.1, a0.2.2.2.2.1, a0.2.2.2.2.2.1, a0.2.2.2.2.2.2) a1 = _ from slots_is 30000 hn1 hn2 a0 a1, Option.bind_some]
    have hsl : slotsI 30000 a0 a1 = ((allI bM 30000 (taskAt a0 a1).code).1 + 2 * a0.1 + a0.2.1 + a0.2.2.1, 0) := by
      unfold slotsI
      rw [if_neg (fun h => h hz)]
    rw [hsl]
    dsimp only
    have hT : TaskOk a0 (taskAt a0 a1) ∧ taskAt a0 a1 ∈ Img.tasks a0 := hRt.task h0 h1
    have hnum := hRt.1
    have hc : (taskAt a0 a1).code.length ≤ 200 := hT.1.2.2.2.2.1
    have hto : (taskAt a0 a1).outs.length ≤ 16 := by
      have h5 : ((taskAt a0 a1).outs.length : Int) ≤ (Img.safe a0).length - 1 - -1 := hT.1.2.2.1.len (by omega)
      have h6 := hnum.2.2.2.2.1
      omega
    have hin : a0.2.2.2.2.2.2.getD a1.toNat ((0 : Int), ((0 : Int), ((0 : Int), ((0 : Int), ([], ([], [])))))) = taskAt a0 a1 := rfl
    rw [hin, if_pos (ix_some h0 h1)]
    generalize ht : taskAt a0 a1 = t at *
    obtain ⟨t1, t2, t3, t4, tb, tq, tc⟩ := t
    obtain ⟨i1, i2, i3, i4, sf, bl, ts⟩ := a0
    dsimp only at h2 h4 hnum ⊢
    have hc : tc.length ≤ 200 := hc
    have hto : tq.length ≤ 16 := hto
    have hz1 := (all_zero h2).1
    have hz2 := (all_zero h2).2
    have hR := row_of hz1 hz2
    obtain ⟨q1, q2, q3, q4, q5⟩ := allI_err 30000 tc h2
    have hl0 := hR.fine.len
    rw [locks_is2 30000 tc (by omega) (by omega), Option.bind_some]
    dsimp only
    rw [if_neg (by simp [hz1]), stacks_is2 30000 tc (by omega) (by omega) (by omega), Option.bind_some]
    dsimp only
    rw [if_neg (by simp [hz2]), match_is 30000 tc (by omega) (by omega), Option.bind_some, if_pos (cap_ok hc), if_neg (by decide), start_is 30000 hl0.1, Option.bind_some]
    dsimp only
    rw [if_neg (by decide)]
    generalize hN : (allI bM 30000 tc).1 + 2 * i1 + i2 + i3 = N at *
    by_cases hbig : N > 20000
    · rw [if_pos (decide_eq_true hbig), if_pos (by decide)]
      rfl
    rw [if_neg (fun h => hbig (of_decide_eq_true h))]
    obtain ⟨n1, n2, n3, n4⟩ := hnum
    dsimp only at n1 n2 n3
    rw [if_pos (ix_some h0 h1)]
    have e1 := ck_fill (l := tc) (m := (scanI tc).1) N i1 i2 i3 i4 sf bl ts t1 t2 t3 t4 tb tq tc (startS [0, 0, 0, 0, 0, 0, 0, 0] a2)
    dsimp only at e1
    rw [e1, Option.bind_some]
    dsimp only
    have hname : ∀ i, i < tc.length → nameI (i1, i2, i3, i4, sf, bl, ts) (t1, t2, t3, t4, tb, tq, tc) (tc.getD i (0, 0, 0)) = true := fun i hi => by
      have := List.all_eq_true.1 h4 (tc.getD i (0, 0, 0)) (by rw [getD_in hi]; exact List.getElem_mem _)
      exact this
    have hM : MemI bl m77 := fun A B hA hB _ => by
      have : A = 0 ∨ A = 1 ∨ A = 2 ∨ A = 3 ∨ A = 4 ∨ A = 5 ∨ A = 6 ∨ A = 7 := by omega
      have hB2 : B = 0 ∨ B = 1 ∨ B = 2 ∨ B = 3 ∨ B = 4 ∨ B = 5 ∨ B = 6 ∨ B = 7 := by omega
      have e : m77.getD A z8 = [77, 77, 77, 77, 77, 77, 77, 77] := by rcases this with rfl | rfl | rfl | rfl | rfl | rfl | rfl | rfl <;> rfl
      rw [e]
      rcases hB2 with rfl | rfl | rfl | rfl | rfl | rfl | rfl | rfl <;> rfl
    obtain ⟨r, f1, s', mem', f2, f3, f4, f5, f6⟩ := ck_b2 30000 (by omega) hR N i1 i2 i3 i4 sf bl ts t1 t2 t3 t4 tb tq tc (start_ok hR [0, 0, 0, 0, 0, 0, 0, 0] a2) rfl ⟨0, rfl, by decide, fun k hk => by rw [Nat.zero_testBit] at hk; cases hk⟩ hM q4 (by omega) (by omega)
      (fun i hi h18 => by
        have := hname i hi
        unfold nameI at this
        have e18 : (tc.getD i (0, 0, 0)).1 = 18 := h18
        rw [if_neg (show ¬ (tc.getD i (0, 0, 0)).1 = 15 by rw [e18]; decide), if_neg (show ¬ (tc.getD i (0, 0, 0)).1 = 16 by rw [e18]; decide), if_neg (show ¬ (tc.getD i (0, 0, 0)).1 = 17 by rw [e18]; decide), if_pos e18] at this
        have hbb := locked_blocks hz1 h3 hT.1 (tc.getD i (0, 0, 0)) (by rw [getD_in hi]; exact List.getElem_mem _) (.inr h18)
        exact ⟨hbb.2, of_decide_eq_true this⟩)
      (fun i hi h16 => by
        have := hname i hi
        unfold nameI at this
        have e16 : (tc.getD i (0, 0, 0)).1 = 16 := h16
        rw [if_neg (show ¬ (tc.getD i (0, 0, 0)).1 = 15 by rw [e16]; decide), if_pos e16] at this
        exact List.contains_iff_mem.1 this)
    subst f6
    dsimp only at f1
    rw [f1, Option.bind_some]
    dsimp only [Sum.elim_inr]
    rw [outs_is 30000 (by omega), Option.bind_some]
    dsimp only
    have hol := outsI_len s'.out s'.set
    obtain ⟨r, g1, g2⟩ := ck_b4 30000 N (l := tc) (m := (scanI tc).1) i1 i2 i3 i4 sf bl ts t1 t2 t3 t4 tb tq tc (by omega) (by omega) (outs := outsI s'.out s'.set) (by omega) (by omega) mem' false s' (outs_own f4)
    subst g2
    rw [g1, Option.bind_some]
    dsimp only [Sum.elim_inr]
    obtain ⟨r, k1, k2⟩ := ck_b6 30000 (by omega) N (l := tc) (m := (scanI tc).1) i1 i2 i3 i4 sf bl ts f5 false s'
    subst k2
    rw [k1, Option.bind_some]
    dsimp only [Sum.elim_inr]
    have eR : ∀ (ret : List Int) (on : Bool) (at_ : Int) (stk loc inp out : List Int) (set : Int) (rds : List Int) (held flt stp : Int), vm_Machine_Running.f 30000 tc (scanI tc).1 ret on at_ stk loc inp out set rds held flt stp = some (on, tc, (scanI tc).1, ret, on, at_, stk, loc, inp, out, set, rds, held, flt, stp) := fun _ _ _ _ _ _ _ _ _ _ _ _ => rfl
    have eS : ∀ (ret : List Int) (on : Bool) (at_ : Int) (stk loc inp out : List Int) (set : Int) (rds : List Int) (held flt stp : Int), vm_Machine_Steps.f 30000 tc (scanI tc).1 ret on at_ stk loc inp out set rds held flt stp = some (stp, tc, (scanI tc).1, ret, on, at_, stk, loc, inp, out, set, rds, held, flt, stp) := fun _ _ _ _ _ _ _ _ _ _ _ _ => rfl
    rw [eR, Option.bind_some]
    dsimp only
    rw [if_pos (by decide), eS, Option.bind_some]
    dsimp only
    rw [wrap_id (show -9223372036854775808 ≤ 2 * i1 by omega) (by omega), wrap_id (show -9223372036854775808 ≤ s'.stp + 2 * i1 by omega) (by omega), wrap_id (show -9223372036854775808 ≤ s'.stp + 2 * i1 + i2 by omega) (by omega), wrap_id (show -9223372036854775808 ≤ s'.stp + 2 * i1 + i2 + i3 by omega) (by omega), if_pos (decide_eq_true (by omega))]
    rfl
  · rw [if_pos (by simpa using hz)]
    rfl
end Go.Proofs.Dk
