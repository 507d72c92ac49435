/- A part of the proofs: Plain: how often each instruction can still come. -/
import Derived.Test.YtofeifhecboinaaGreatMB5
set_option linter.unusedVariables false
set_option linter.unusedSimpArgs false
noncomputable section
namespace Go.Proofs.Dk
open Go Go.IntKind
set_option maxRecDepth 100000
def iK (A : Nat → Int) : List Nat → Int
 | [] => 1
 | k :: js => A k * iK A js
theorem oO {A : Nat → Int} : ∀ {js : List Nat}, (∀ k ∈ js, 1 ≤ A k) → 1 ≤ iK A js
 | [], _ => bR _
 | k :: js, h => by
  have h1 := h k (aM ..)
  have h2 := oO (js := js) fun q hq => h q (aB _ hq)
  unfold iK
  have := Int.mul_le_mul h1 h2 (by omega) (by omega)
  omega
def jk (A : Nat → Int) : List Nat → List (Nat × Int) → Int → Int → Int
 | k :: js, (k', r) :: is, b, S => if k = k' then jk A js is b (S * A k + (r - 1)) else (b + S) * iK A (k :: js)
 | js, _, b, S => (b + S) * iK A js
theorem lV (A : Nat → Int) (js : List Nat) (b S : Int) : jk A js [] b S = (b + S) * iK A js := by
 cases js <;> rfl
theorem oh (A : Nat → Int) (is : List (Nat × Int)) (b S : Int) : jk A [] is b S = b + S := by
 cases is <;> simp [jk, iK]
theorem yF {A : Nat → Int} : ∀ {is : List (Nat × Int)} {js : List Nat} {b S : Int}, js = is.map (·.1) → ∃ T, ∀ b, jk A js is b S = b + T
 | [], js, b, S, h => by subst h; exact ⟨S, fun b => by rw [List.map_nil, lV]; simp [iK]⟩
 | (k, r) :: is, js, b, S, h => by
  subst h
  obtain ⟨T, hT⟩ := yF (A := A) (is := is) (b := b) (S := S * A k + (r - 1)) rfl
  refine ⟨T, fun b => ?_⟩
  rw [List.map_cons]
  unfold jk
  rw [if_pos rfl]
  exact hT b
theorem oi {A : Nat → Int} : ∀ {js : List Nat} {is : List (Nat × Int)} {b b' S : Int}, (∀ k ∈ js, 1 ≤ A k) → b' ≤ b → jk A js is b' S ≤ jk A js is b S
 | js, [], b, b', S, hA, hb => by
  rw [lV, lV]
  exact cD (by omega) (by have := oO hA; omega)
 | [], e :: is, b, b', S, hA, hb => by rw [oh, oh]; omega
 | k :: js, (k', r) :: is, b, b', S, hA, hb => by
  unfold jk
  split
  ·exact oi (fun q hq => hA q (aB _ hq)) hb
  ·exact cD (by omega) (by have := oO hA; omega)
theorem xU {A : Nat → Int} : ∀ (il : List (Nat × Int)) (k : Nat) (rest : List Nat) (S : Int), ∃ T, 0 ≤ T + 0 * S ∨ True → ∀ (r b : Int), jk A (il.map (·.1) ++ k :: rest) (il ++ [(k, r)]) b S = (b + (T * A k + (r - 1))) * iK A rest ∧ jk A (il.map (·.1) ++ k :: rest) il b S = (b + T) * (A k * iK A rest)
 | [], k, rest, S => ⟨S, fun _ r b => by
   simp only [List.map_nil, bb]
   refine ⟨?_, ?_⟩
   ·unfold jk
    rw [if_pos rfl, lV]
   ·rw [lV]; rfl⟩
 | (k0, r0) :: il, k, rest, S => by
  obtain ⟨T, hT⟩ := xU (A := A) il k rest (S * A k0 + (r0 - 1))
  refine ⟨T, fun _ r b => ?_⟩
  obtain ⟨h1, h2⟩ := hT (.inr trivial) r b
  simp only [List.map_cons, List.cons_append]
  refine ⟨?_, ?_⟩
  ·unfold jk
   rw [if_pos rfl]
   exact h1
  ·unfold jk
   rw [if_pos rfl]
   exact h2
theorem nN {A : Nat → Int} : ∀ (il : List (Nat × Int)) (js : List Nat) (k : Nat) (r b S : Int), k ∉ js → jk A js (il ++ [(k, r)]) b S = jk A js il b S
 | [], [], k, r, b, S, h => by rw [oh, lV]; simp [iK]
 | [], j :: js, k, r, b, S, h => by
  rw [lV, bb]
  unfold jk
  rw [if_neg (fun (e : j = k) => h (by rw [e]; exact aM ..))]
 | (k0, r0) :: il, [], k, r, b, S, h => by rw [oh, oh]
 | (k0, r0) :: il, j :: js, k, r, b, S, h => by
  rw [List.cons_append]
  unfold jk
  split
  ·exact nN il js k r b _ fun hk => h (aB _ hk)
  ·rfl
theorem zU {l : List cW} {m h : List Int} (hF : Fine l m h) {k j : Nat} (hk : k ∈ lps l m j) : ∃ rest, lps l m j = lps l m k ++ k :: rest := by
 obtain ⟨h1, h2⟩ := uy hk
 have hkj := (eY h1).1
 have hko := (eY h1).2
 obtain ⟨z, z1, z2, z3⟩ := hF.nest.open_ k (gM hko) hko
 have hkz := (gq hko z1).1 h1
 refine ⟨(List.range' (k + 1) (j - (k + 1))).filter fun q => enc l m q j && opAt l q == 21, ?_⟩
 unfold lps
 have e : List.range j = List.range k ++ k :: List.range' (k + 1) (j - (k + 1)) := by
  rw [List.range_eq_range', List.range_eq_range', ← List.range'_succ, show j - (k + 1) + 1 = j - k by omega]
  have := List.range'_append_1 (s := 0) (m := k) (n := j - k)
  rw [bq] at this
  rw [this]
  congr 1
  omega
 rw [e, List.filter_append, List.filter_cons, h1, h2]
 congr 1
 apply List.filter_congr
 intro x hx
 rw [bf] at hx
 congr 1
 apply qW
 by_cases hxo : de l x = true
 ·obtain ⟨y, y1, y2, y3⟩ := hF.nest.open_ x (gM hxo) hxo
  rw [gq hxo y1, gq hxo y1]
  refine ⟨fun ⟨a1, a2⟩ => ⟨hx, by omega⟩, fun ⟨a1, a2⟩ => ⟨by omega, ?_⟩⟩
  have hyk : y ≠ k := fun hc => by
   have := hF.nest.clos x y (gM hxo) hxo y1
   rw [hc, hko] at this; cases this
  obtain ⟨q, q1, q2⟩ := hF.nest.cross x k y hx (by omega) (gM hxo) hxo hko y1
  rw [z1] at q1
  omega
 ·exact ⟨fun h => absurd (eY h).2 hxo, fun h => absurd (eY h).2 hxo⟩
def tK (f : Nat → Int) : Nat → Int
 | 0 => 0
 | n + 1 => tK f n + f n
theorem DM {f g : Nat → Int} : ∀ {n : Nat}, (∀ j, j < n → f j ≤ g j) → tK f n ≤ tK g n
 | 0, _ => bR _
 | n + 1, h => by
  have h1 := DM (n := n) fun j hj => h j (by omega)
  have h2 := h n (by omega)
  unfold tK
  omega
theorem p8 {f g : Nat → Int} {i : Nat} : ∀ {n : Nat}, i < n → (∀ j, j < n → f j ≤ g j) → f i + 1 ≤ g i → tK f n + 1 ≤ tK g n
 | 0, h, _, _ => by omega
 | n + 1, hi, h, h1 => by
  unfold tK
  by_cases e : i = n
  ·subst e
   have h2 := DM (n := i) fun j hj => h j (by omega)
   omega
  ·have h2 := p8 (n := n) (by omega) (fun j hj => h j (by omega)) h1
   have h3 := h n (by omega)
   omega
def tL (l : List cW) (m : List Int) (i : Nat) (rs : List (Nat × Int)) (j : Nat) : Int := jk (da l) (lps l m j) rs (if i ≤ j then 1 else 0) 0
def rz (l : List cW) (m : List Int) (i : Nat) (rs : List (Nat × Int)) : Int := tK (tL l m i rs) l.length
theorem p9 {l : List cW} {m h : List Int} (hF : Fine l m h) (j : Nat) : ∀ k ∈ lps l m j, 1 ≤ da l k := fun k hk => by
 obtain ⟨h1, h2⟩ := uy hk
 exact (xT (hF.right (gM (eY h1).2)) h2).1
theorem Ce {l : List cW} {m h : List Int} (hF : Fine l m h) {i q : Nat} (hi : i < l.length) (hq : i < q) {rs : List (Nat × Int)} (he : rs.map (·.1) = lps l m i) : rz l m q rs + 1 ≤ rz l m i rs := by
 refine p8 hi (fun j hj => ?_) ?_
 ·exact oi (p9 hF j) (by split <;> split <;> omega)
 ·unfold tL
  obtain ⟨T, hT⟩ := yF (A := da l) (is := rs) (js := lps l m i) (b := 0) (S := 0) he.symm
  rw [hT, hT, if_pos (ak _), if_neg (by omega)]
  omega
theorem Cf {l : List cW} {m : List Int} {k j : Nat} (h : k ∈ lps l m j) : k + 1 ≤ j := (eY (uy h).1).1
theorem IR {l : List cW} {m h : List Int} (hF : Fine l m h) {i : Nat} (hi : i < l.length) {rs : List (Nat × Int)} (he : rs.map (·.1) = lps l m i) : rz l m (i + 1) (rs ++ [(i, da l i)]) + 1 ≤ rz l m i rs := by
 have hni : i ∉ lps l m i := fun h => by have := Cf h; omega
 refine p8 hi (fun j hj => ?_) ?_
 ·unfold tL
  by_cases hk : i ∈ lps l m j
  ·obtain ⟨rest, hr⟩ := zU hF hk
   have hj := Cf hk
   rw [hr, ← he]
   obtain ⟨T, hT⟩ := xU (A := da l) rs i rest 0
   obtain ⟨h1, h2⟩ := hT (.inr trivial) (da l i) 1
   rw [if_pos (by omega), if_pos (by omega), h1, h2, ← Int.mul_assoc]
   refine Int.le_of_eq (congrArg (· * _) ?_)
   rw [Int.add_mul]
   omega
  ·rw [nN rs _ i _ _ _ hk]
   exact oi (p9 hF j) (by split <;> split <;> omega)
 ·unfold tL
  rw [nN rs _ i _ _ _ hni]
  obtain ⟨T, hT⟩ := yF (A := da l) (is := rs) (js := lps l m i) (b := 0) (S := 0) he.symm
  rw [hT, hT, if_pos (ak _), if_neg (by omega)]
  omega
theorem IT {l : List cW} {m h : List Int} (hF : Fine l m h) {i k : Nat} (hi : i < l.length) (hki : k < i) (hk21 : opAt l k = 21) (hm : m.getD k 0 = (i : Int)) (e1 : lps l m i = lps l m k ++ [k]) {rs : List (Nat × Int)} (he : rs.map (·.1) = lps l m k) {r : Int} :
  rz l m (k + 1) (rs ++ [(k, r - 1)]) + 1 ≤ rz l m i (rs ++ [(k, r)]) ∧ (r = 1 → rz l m (i + 1) rs + 1 ≤ rz l m i (rs ++ [(k, r)])) := by
 have hko := tD (.inl hk21)
 have hin : ∀ j, k ∈ lps l m j ↔ k + 1 ≤ j ∧ j ≤ i := fun j => by
  constructor
  ·intro h
   have := (gq hko hm).1 (uy h).1
   omega
  ·intro hj
   unfold lps
   rw [cg, bf, (gq hko hm).2 ⟨by omega, by omega⟩, hk21]
   exact ⟨by omega, rfl⟩
 have hkey : ∀ j, k ∈ lps l m j → ∃ rest T, 1 ≤ iK (da l) rest ∧ ∀ r b : Int, jk (da l) (lps l m j) (rs ++ [(k, r)]) b 0 = (b + (T * da l k + (r - 1))) * iK (da l) rest ∧ jk (da l) (lps l m j) rs b 0 = (b + T) * (da l k * iK (da l) rest) := fun j hk => by
  obtain ⟨rest, hr⟩ := zU hF hk
  obtain ⟨T, hT⟩ := xU (A := da l) rs k rest 0
  refine ⟨rest, T, oO fun q hq => p9 hF j q (by rw [hr]; exact bD _ (aB _ hq)), fun r b => ?_⟩
  rw [hr, ← he]
  exact hT (.inr trivial) r b
 have hi2 : k ∈ lps l m i := (hin i).2 ⟨by omega, ak _⟩
 have hkey2 : ∃ T, ∀ r b : Int, jk (da l) (lps l m i) (rs ++ [(k, r)]) b 0 = b + (T * da l k + (r - 1)) ∧ jk (da l) (lps l m i) rs b 0 = (b + T) * da l k := by
  obtain ⟨T, hT⟩ := xU (A := da l) rs k [] 0
  refine ⟨T, fun r b => ?_⟩
  rw [e1, ← he]
  have := hT (.inr trivial) r b
  simp only [iK, Int.mul_one] at this
  exact this
 refine ⟨p8 hi (fun j hj => ?_) ?_, fun hr1 => p8 hi (fun j hj => ?_) ?_⟩
 ·unfold tL
  by_cases hk : k ∈ lps l m j
  ·obtain ⟨rest, T, hp, hT⟩ := hkey j hk
   have := (hin j).1 hk
   rw [(hT _ _).1, (hT _ _).1]
   refine cD ?_ (by omega)
   rw [if_pos (by omega)]
   split <;> omega
  ·rw [nN rs _ k _ _ _ hk, nN rs _ k _ _ _ hk]
   refine oi (p9 hF j) ?_
   have : ¬ (k + 1 ≤ j ∧ j ≤ i) := fun h => hk ((hin j).2 h)
   split <;> split <;> omega
 ·unfold tL
  obtain ⟨T, hT⟩ := hkey2
  rw [(hT _ _).1, (hT _ _).1, if_pos (by omega), if_pos (ak _)]
  omega
 ·subst hr1
  unfold tL
  by_cases hk : k ∈ lps l m j
  ·obtain ⟨rest, T, hp, hT⟩ := hkey j hk
   have := (hin j).1 hk
   rw [(hT 1 _).2, (hT 1 _).1, ← Int.mul_assoc]
   refine cD ?_ (by omega)
   rw [if_neg (by omega), Int.zero_add]
   split <;> omega
  ·rw [nN rs _ k _ _ _ hk]
   refine oi (p9 hF j) ?_
   split <;> split <;> omega
 ·subst hr1
  unfold tL
  obtain ⟨T, hT⟩ := hkey2
  rw [(hT 1 _).2, (hT 1 _).1, if_neg (by omega), if_pos (ak _), Int.zero_add]
  omega
theorem Pg (n : Nat) {v1 : List cW} {v2 : List Int} {v3 : List Int} {v5 : Int} {v6 : List Int} {v7 : List Int} {v8 : List Int} {v9 : List Int} {v10 : Int} {v11 : List Int} {v12 : Int} {v13 : Int} {v14 : Int} {v15 : List (List Int)} {A B : Int} (h0 : decide ((v1.length : Int) > 0) = true) (hi : (decide (0 ≤ v5) && decide (v5 < (v1.length : Int))) = true) (hx : v1.getD v5.toNat ((0 : Int), ((0 : Int), (0 : Int))) = (1, A, B)) : dC n v1 v2 v3 true v5 v6 v7 v8 v9 v10 v11 v12 v13 v14 v15 = ((if (decide ((v6.length + 1) * 8 ≤ 140737488355328) && decide (1 ≤ 8)) then (some ((0, 0), 0, v1, v2, v3, true, (wrap .i64 (v5 + 1)), (v6 ++ [A]), v7, v8, v9, v10, v11, v12, v13, (wrap .i64 (v14 + 1)), v15)) else none)) := by
 unfold dC
 rw [h0, if_neg (by decide), if_neg (by decide), if_pos hi, hx]
 kernel_rfl
theorem Ph (n : Nat) {v1 : List cW} {v2 : List Int} {v3 : List Int} {v5 : Int} {v6 : List Int} {v7 : List Int} {v8 : List Int} {v9 : List Int} {v10 : Int} {v11 : List Int} {v12 : Int} {v13 : Int} {v14 : Int} {v15 : List (List Int)} {A B : Int} (h0 : decide ((v1.length : Int) > 0) = true) (hi : (decide (0 ≤ v5) && decide (v5 < (v1.length : Int))) = true) (hx : v1.getD v5.toNat ((0 : Int), ((0 : Int), (0 : Int))) = (2, A, B)) : dC n v1 v2 v3 true v5 v6 v7 v8 v9 v10 v11 v12 v13 v14 v15 = (((dW n v1 v2 v3 true v5 v6 v7 v8 v9 v10 v11 v12 v13 v14).bind fun y35 => (some ((0, 0), 0, y35.2.1, y35.2.2.1, y35.2.2.2.1, y35.2.2.2.2.1, (wrap .i64 (v5 + 1)), y35.2.2.2.2.2.2.1, y35.2.2.2.2.2.2.2.1, y35.2.2.2.2.2.2.2.2.1, y35.2.2.2.2.2.2.2.2.2.1, y35.2.2.2.2.2.2.2.2.2.2.1, y35.2.2.2.2.2.2.2.2.2.2.2.1, y35.2.2.2.2.2.2.2.2.2.2.2.2.1, y35.2.2.2.2.2.2.2.2.2.2.2.2.2.1, (wrap .i64 (y35.2.2.2.2.2.2.2.2.2.2.2.2.2.2 + 1)), v15)))) := by
 unfold dC
 rw [h0, if_neg (by decide), if_neg (by decide), if_pos hi, hx]
 kernel_rfl
theorem Pi (n : Nat) {v1 : List cW} {v2 : List Int} {v3 : List Int} {v5 : Int} {v6 : List Int} {v7 : List Int} {v8 : List Int} {v9 : List Int} {v10 : Int} {v11 : List Int} {v12 : Int} {v13 : Int} {v14 : Int} {v15 : List (List Int)} {A B : Int} (h0 : decide ((v1.length : Int) > 0) = true) (hi : (decide (0 ≤ v5) && decide (v5 < (v1.length : Int))) = true) (hx : v1.getD v5.toNat ((0 : Int), ((0 : Int), (0 : Int))) = (3, A, B)) : dC n v1 v2 v3 true v5 v6 v7 v8 v9 v10 v11 v12 v13 v14 v15 = ((if (decide (0 ≤ (wrap .i64 ((v6.length : Int) - 1))) && decide ((wrap .i64 ((v6.length : Int) - 1)) < (v6.length : Int))) then (if (decide ((v6.length + 1) * 8 ≤ 140737488355328) && decide (1 ≤ 8)) then (some ((0, 0), 0, v1, v2, v3, true, (wrap .i64 (v5 + 1)), (v6 ++ [(v6.getD ((wrap .i64 ((v6.length : Int) - 1))).toNat (0 : Int))]), v7, v8, v9, v10, v11, v12, v13, (wrap .i64 (v14 + 1)), v15)) else none) else none)) := by
 unfold dC
 rw [h0, if_neg (by decide), if_neg (by decide), if_pos hi, hx]
 kernel_rfl
theorem Pj (n : Nat) {v1 : List cW} {v2 : List Int} {v3 : List Int} {v5 : Int} {v6 : List Int} {v7 : List Int} {v8 : List Int} {v9 : List Int} {v10 : Int} {v11 : List Int} {v12 : Int} {v13 : Int} {v14 : Int} {v15 : List (List Int)} {A B : Int} (h0 : decide ((v1.length : Int) > 0) = true) (hi : (decide (0 ≤ v5) && decide (v5 < (v1.length : Int))) = true) (hx : v1.getD v5.toNat ((0 : Int), ((0 : Int), (0 : Int))) = (4, A, B)) : dC n v1 v2 v3 true v5 v6 v7 v8 v9 v10 v11 v12 v13 v14 v15 = (((dW n v1 v2 v3 true v5 v6 v7 v8 v9 v10 v11 v12 v13 v14).bind fun y33 => ((dW n y33.2.1 y33.2.2.1 y33.2.2.2.1 y33.2.2.2.2.1 y33.2.2.2.2.2.1 y33.2.2.2.2.2.2.1 y33.2.2.2.2.2.2.2.1 y33.2.2.2.2.2.2.2.2.1 y33.2.2.2.2.2.2.2.2.2.1 y33.2.2.2.2.2.2.2.2.2.2.1 y33.2.2.2.2.2.2.2.2.2.2.2.1 y33.2.2.2.2.2.2.2.2.2.2.2.2.1 y33.2.2.2.2.2.2.2.2.2.2.2.2.2.1 y33.2.2.2.2.2.2.2.2.2.2.2.2.2.2).bind fun y34 => (if (decide ((y34.2.2.2.2.2.2.1.length + 1) * 8 ≤ 140737488355328) && decide (1 ≤ 8)) then (if (decide (((y34.2.2.2.2.2.2.1 ++ [y33.1]).length + 1) * 8 ≤ 140737488355328) && decide (1 ≤ 8)) then (some ((0, 0), 0, y34.2.1, y34.2.2.1, y34.2.2.2.1, y34.2.2.2.2.1, (wrap .i64 (v5 + 1)), ((y34.2.2.2.2.2.2.1 ++ [y33.1]) ++ [y34.1]), y34.2.2.2.2.2.2.2.1, y34.2.2.2.2.2.2.2.2.1, y34.2.2.2.2.2.2.2.2.2.1, y34.2.2.2.2.2.2.2.2.2.2.1, y34.2.2.2.2.2.2.2.2.2.2.2.1, y34.2.2.2.2.2.2.2.2.2.2.2.2.1, y34.2.2.2.2.2.2.2.2.2.2.2.2.2.1, (wrap .i64 (y34.2.2.2.2.2.2.2.2.2.2.2.2.2.2 + 1)), v15)) else none) else none)))) := by
 unfold dC
 rw [h0, if_neg (by decide), if_neg (by decide), if_pos hi, hx]
 kernel_rfl
theorem Pk (n : Nat) {v1 : List cW} {v2 : List Int} {v3 : List Int} {v5 : Int} {v6 : List Int} {v7 : List Int} {v8 : List Int} {v9 : List Int} {v10 : Int} {v11 : List Int} {v12 : Int} {v13 : Int} {v14 : Int} {v15 : List (List Int)} {A B : Int} (h0 : decide ((v1.length : Int) > 0) = true) (hi : (decide (0 ≤ v5) && decide (v5 < (v1.length : Int))) = true) (hx : v1.getD v5.toNat ((0 : Int), ((0 : Int), (0 : Int))) = (5, A, B)) : dC n v1 v2 v3 true v5 v6 v7 v8 v9 v10 v11 v12 v13 v14 v15 = (((dW n v1 v2 v3 true v5 v6 v7 v8 v9 v10 v11 v12 v13 v14).bind fun y29 => ((dW n y29.2.1 y29.2.2.1 y29.2.2.2.1 y29.2.2.2.2.1 y29.2.2.2.2.2.1 y29.2.2.2.2.2.2.1 y29.2.2.2.2.2.2.2.1 y29.2.2.2.2.2.2.2.2.1 y29.2.2.2.2.2.2.2.2.2.1 y29.2.2.2.2.2.2.2.2.2.2.1 y29.2.2.2.2.2.2.2.2.2.2.2.1 y29.2.2.2.2.2.2.2.2.2.2.2.2.1 y29.2.2.2.2.2.2.2.2.2.2.2.2.2.1 y29.2.2.2.2.2.2.2.2.2.2.2.2.2.2).bind fun y30 => ((dK n (A) y30.1 y29.1).bind fun y31 => ((gS n y31.2).bind fun y32 => (if (decide ((y30.2.2.2.2.2.2.1.length + 1) * 8 ≤ 140737488355328) && decide (1 ≤ 8)) then (some ((0, 0), 0, y30.2.1, y30.2.2.1, y30.2.2.2.1, y30.2.2.2.2.1, (wrap .i64 (v5 + 1)), (y30.2.2.2.2.2.2.1 ++ [y31.1]), y30.2.2.2.2.2.2.2.1, y30.2.2.2.2.2.2.2.2.1, y30.2.2.2.2.2.2.2.2.2.1, y30.2.2.2.2.2.2.2.2.2.2.1, y30.2.2.2.2.2.2.2.2.2.2.2.1, y30.2.2.2.2.2.2.2.2.2.2.2.2.1, (wrap .i64 (y30.2.2.2.2.2.2.2.2.2.2.2.2.2.1 + y32)), (wrap .i64 (y30.2.2.2.2.2.2.2.2.2.2.2.2.2.2 + 1)), v15)) else none)))))) := by
 unfold dC
 rw [h0, if_neg (by decide), if_neg (by decide), if_pos hi, hx]
 kernel_rfl
theorem Pm (n : Nat) {v1 : List cW} {v2 : List Int} {v3 : List Int} {v5 : Int} {v6 : List Int} {v7 : List Int} {v8 : List Int} {v9 : List Int} {v10 : Int} {v11 : List Int} {v12 : Int} {v13 : Int} {v14 : Int} {v15 : List (List Int)} {A B : Int} (h0 : decide ((v1.length : Int) > 0) = true) (hi : (decide (0 ≤ v5) && decide (v5 < (v1.length : Int))) = true) (hx : v1.getD v5.toNat ((0 : Int), ((0 : Int), (0 : Int))) = (6, A, B)) : dC n v1 v2 v3 true v5 v6 v7 v8 v9 v10 v11 v12 v13 v14 v15 = (((dW n v1 v2 v3 true v5 v6 v7 v8 v9 v10 v11 v12 v13 v14).bind fun y27 => ((oI n y27.1).bind fun y28 => (if (decide ((y27.2.2.2.2.2.2.1.length + 1) * 8 ≤ 140737488355328) && decide (1 ≤ 8)) then (some ((0, 0), 0, y27.2.1, y27.2.2.1, y27.2.2.2.1, y27.2.2.2.2.1, (wrap .i64 (v5 + 1)), (y27.2.2.2.2.2.2.1 ++ [y28]), y27.2.2.2.2.2.2.2.1, y27.2.2.2.2.2.2.2.2.1, y27.2.2.2.2.2.2.2.2.2.1, y27.2.2.2.2.2.2.2.2.2.2.1, y27.2.2.2.2.2.2.2.2.2.2.2.1, y27.2.2.2.2.2.2.2.2.2.2.2.2.1, y27.2.2.2.2.2.2.2.2.2.2.2.2.2.1, (wrap .i64 (y27.2.2.2.2.2.2.2.2.2.2.2.2.2.2 + 1)), v15)) else none)))) := by
 unfold dC
 rw [h0, if_neg (by decide), if_neg (by decide), if_pos hi, hx]
 kernel_rfl
theorem Pn (n : Nat) {v1 : List cW} {v2 : List Int} {v3 : List Int} {v5 : Int} {v6 : List Int} {v7 : List Int} {v8 : List Int} {v9 : List Int} {v10 : Int} {v11 : List Int} {v12 : Int} {v13 : Int} {v14 : Int} {v15 : List (List Int)} {A B : Int} (h0 : decide ((v1.length : Int) > 0) = true) (hi : (decide (0 ≤ v5) && decide (v5 < (v1.length : Int))) = true) (hx : v1.getD v5.toNat ((0 : Int), ((0 : Int), (0 : Int))) = (7, A, B)) : dC n v1 v2 v3 true v5 v6 v7 v8 v9 v10 v11 v12 v13 v14 v15 = (((dW n v1 v2 v3 true v5 v6 v7 v8 v9 v10 v11 v12 v13 v14).bind fun y25 => ((mD n y25.1).bind fun y26 => (if (decide ((y25.2.2.2.2.2.2.1.length + 1) * 8 ≤ 140737488355328) && decide (1 ≤ 8)) then (some ((0, 0), 0, y25.2.1, y25.2.2.1, y25.2.2.2.1, y25.2.2.2.2.1, (wrap .i64 (v5 + 1)), (y25.2.2.2.2.2.2.1 ++ [y26]), y25.2.2.2.2.2.2.2.1, y25.2.2.2.2.2.2.2.2.1, y25.2.2.2.2.2.2.2.2.2.1, y25.2.2.2.2.2.2.2.2.2.2.1, y25.2.2.2.2.2.2.2.2.2.2.2.1, y25.2.2.2.2.2.2.2.2.2.2.2.2.1, y25.2.2.2.2.2.2.2.2.2.2.2.2.2.1, (wrap .i64 (y25.2.2.2.2.2.2.2.2.2.2.2.2.2.2 + 1)), v15)) else none)))) := by
 unfold dC
 rw [h0, if_neg (by decide), if_neg (by decide), if_pos hi, hx]
 kernel_rfl
theorem Po (n : Nat) {v1 : List cW} {v2 : List Int} {v3 : List Int} {v5 : Int} {v6 : List Int} {v7 : List Int} {v8 : List Int} {v9 : List Int} {v10 : Int} {v11 : List Int} {v12 : Int} {v13 : Int} {v14 : Int} {v15 : List (List Int)} {A B : Int} (h0 : decide ((v1.length : Int) > 0) = true) (hi : (decide (0 ≤ v5) && decide (v5 < (v1.length : Int))) = true) (hx : v1.getD v5.toNat ((0 : Int), ((0 : Int), (0 : Int))) = (8, A, B)) : dC n v1 v2 v3 true v5 v6 v7 v8 v9 v10 v11 v12 v13 v14 v15 = (((dW n v1 v2 v3 true v5 v6 v7 v8 v9 v10 v11 v12 v13 v14).bind fun y23 => ((dW n y23.2.1 y23.2.2.1 y23.2.2.2.1 y23.2.2.2.2.1 y23.2.2.2.2.2.1 y23.2.2.2.2.2.2.1 y23.2.2.2.2.2.2.2.1 y23.2.2.2.2.2.2.2.2.1 y23.2.2.2.2.2.2.2.2.2.1 y23.2.2.2.2.2.2.2.2.2.2.1 y23.2.2.2.2.2.2.2.2.2.2.2.1 y23.2.2.2.2.2.2.2.2.2.2.2.2.1 y23.2.2.2.2.2.2.2.2.2.2.2.2.2.1 y23.2.2.2.2.2.2.2.2.2.2.2.2.2.2).bind fun y24 => (if (decide ((y24.2.2.2.2.2.2.1.length + 1) * 8 ≤ 140737488355328) && decide (1 ≤ 8)) then (some ((0, 0), 0, y24.2.1, y24.2.2.1, y24.2.2.2.1, y24.2.2.2.2.1, (wrap .i64 (v5 + 1)), (y24.2.2.2.2.2.2.1 ++ [(bits .and .i64 y23.1 y24.1)]), y24.2.2.2.2.2.2.2.1, y24.2.2.2.2.2.2.2.2.1, y24.2.2.2.2.2.2.2.2.2.1, y24.2.2.2.2.2.2.2.2.2.2.1, y24.2.2.2.2.2.2.2.2.2.2.2.1, y24.2.2.2.2.2.2.2.2.2.2.2.2.1, y24.2.2.2.2.2.2.2.2.2.2.2.2.2.1, (wrap .i64 (y24.2.2.2.2.2.2.2.2.2.2.2.2.2.2 + 1)), v15)) else none)))) := by
 unfold dC
 rw [h0, if_neg (by decide), if_neg (by decide), if_pos hi, hx]
 kernel_rfl
theorem Pp (n : Nat) {v1 : List cW} {v2 : List Int} {v3 : List Int} {v5 : Int} {v6 : List Int} {v7 : List Int} {v8 : List Int} {v9 : List Int} {v10 : Int} {v11 : List Int} {v12 : Int} {v13 : Int} {v14 : Int} {v15 : List (List Int)} {A B : Int} (h0 : decide ((v1.length : Int) > 0) = true) (hi : (decide (0 ≤ v5) && decide (v5 < (v1.length : Int))) = true) (hx : v1.getD v5.toNat ((0 : Int), ((0 : Int), (0 : Int))) = (9, A, B)) : dC n v1 v2 v3 true v5 v6 v7 v8 v9 v10 v11 v12 v13 v14 v15 = (((dW n v1 v2 v3 true v5 v6 v7 v8 v9 v10 v11 v12 v13 v14).bind fun y21 => ((dW n y21.2.1 y21.2.2.1 y21.2.2.2.1 y21.2.2.2.2.1 y21.2.2.2.2.2.1 y21.2.2.2.2.2.2.1 y21.2.2.2.2.2.2.2.1 y21.2.2.2.2.2.2.2.2.1 y21.2.2.2.2.2.2.2.2.2.1 y21.2.2.2.2.2.2.2.2.2.2.1 y21.2.2.2.2.2.2.2.2.2.2.2.1 y21.2.2.2.2.2.2.2.2.2.2.2.2.1 y21.2.2.2.2.2.2.2.2.2.2.2.2.2.1 y21.2.2.2.2.2.2.2.2.2.2.2.2.2.2).bind fun y22 => (if (decide ((y22.2.2.2.2.2.2.1.length + 1) * 8 ≤ 140737488355328) && decide (1 ≤ 8)) then (some ((0, 0), 0, y22.2.1, y22.2.2.1, y22.2.2.2.1, y22.2.2.2.2.1, (wrap .i64 (v5 + 1)), (y22.2.2.2.2.2.2.1 ++ [(bits .or .i64 y21.1 y22.1)]), y22.2.2.2.2.2.2.2.1, y22.2.2.2.2.2.2.2.2.1, y22.2.2.2.2.2.2.2.2.2.1, y22.2.2.2.2.2.2.2.2.2.2.1, y22.2.2.2.2.2.2.2.2.2.2.2.1, y22.2.2.2.2.2.2.2.2.2.2.2.2.1, y22.2.2.2.2.2.2.2.2.2.2.2.2.2.1, (wrap .i64 (y22.2.2.2.2.2.2.2.2.2.2.2.2.2.2 + 1)), v15)) else none)))) := by
 unfold dC
 rw [h0, if_neg (by decide), if_neg (by decide), if_pos hi, hx]
 kernel_rfl
theorem OR (n : Nat) {v1 : List cW} {v2 : List Int} {v3 : List Int} {v5 : Int} {v6 : List Int} {v7 : List Int} {v8 : List Int} {v9 : List Int} {v10 : Int} {v11 : List Int} {v12 : Int} {v13 : Int} {v14 : Int} {v15 : List (List Int)} {A B : Int} (h0 : decide ((v1.length : Int) > 0) = true) (hi : (decide (0 ≤ v5) && decide (v5 < (v1.length : Int))) = true) (hx : v1.getD v5.toNat ((0 : Int), ((0 : Int), (0 : Int))) = (10, A, B)) : dC n v1 v2 v3 true v5 v6 v7 v8 v9 v10 v11 v12 v13 v14 v15 = ((some ((0, 0), 0, v1, v2, v3, true, (wrap .i64 (v5 + 1)), v6, v7, v8, v9, v10, v11, v12, v13, (wrap .i64 (v14 + 1)), v15))) := by
 unfold dC
 rw [h0, if_neg (by decide), if_neg (by decide), if_pos hi, hx]
 kernel_rfl
theorem OS (n : Nat) {v1 : List cW} {v2 : List Int} {v3 : List Int} {v5 : Int} {v6 : List Int} {v7 : List Int} {v8 : List Int} {v9 : List Int} {v10 : Int} {v11 : List Int} {v12 : Int} {v13 : Int} {v14 : Int} {v15 : List (List Int)} {A B : Int} (h0 : decide ((v1.length : Int) > 0) = true) (hi : (decide (0 ≤ v5) && decide (v5 < (v1.length : Int))) = true) (hx : v1.getD v5.toNat ((0 : Int), ((0 : Int), (0 : Int))) = (11, A, B)) : dC n v1 v2 v3 true v5 v6 v7 v8 v9 v10 v11 v12 v13 v14 v15 = ((if (decide (0 ≤ A) && decide (A < 8)) then (if (decide ((v6.length + 1) * 8 ≤ 140737488355328) && decide (1 ≤ 8)) then (some ((0, 0), 0, v1, v2, v3, true, (wrap .i64 (v5 + 1)), (v6 ++ [(v7.getD (A).toNat (0 : Int))]), v7, v8, v9, v10, v11, v12, v13, (wrap .i64 (v14 + 1)), v15)) else none) else none)) := by
 unfold dC
 rw [h0, if_neg (by decide), if_neg (by decide), if_pos hi, hx]
 kernel_rfl
theorem OT (n : Nat) {v1 : List cW} {v2 : List Int} {v3 : List Int} {v5 : Int} {v6 : List Int} {v7 : List Int} {v8 : List Int} {v9 : List Int} {v10 : Int} {v11 : List Int} {v12 : Int} {v13 : Int} {v14 : Int} {v15 : List (List Int)} {A B : Int} (h0 : decide ((v1.length : Int) > 0) = true) (hi : (decide (0 ≤ v5) && decide (v5 < (v1.length : Int))) = true) (hx : v1.getD v5.toNat ((0 : Int), ((0 : Int), (0 : Int))) = (12, A, B)) : dC n v1 v2 v3 true v5 v6 v7 v8 v9 v10 v11 v12 v13 v14 v15 = (((dW n v1 v2 v3 true v5 v6 v7 v8 v9 v10 v11 v12 v13 v14).bind fun y20 => (if (decide (0 ≤ A) && decide (A < 8)) then (some ((0, 0), 0, y20.2.1, y20.2.2.1, y20.2.2.2.1, y20.2.2.2.2.1, (wrap .i64 (v5 + 1)), y20.2.2.2.2.2.2.1, (y20.2.2.2.2.2.2.2.1.set (A).toNat y20.1), y20.2.2.2.2.2.2.2.2.1, y20.2.2.2.2.2.2.2.2.2.1, y20.2.2.2.2.2.2.2.2.2.2.1, y20.2.2.2.2.2.2.2.2.2.2.2.1, y20.2.2.2.2.2.2.2.2.2.2.2.2.1, y20.2.2.2.2.2.2.2.2.2.2.2.2.2.1, (wrap .i64 (y20.2.2.2.2.2.2.2.2.2.2.2.2.2.2 + 1)), v15)) else none))) := by
 unfold dC
 rw [h0, if_neg (by decide), if_neg (by decide), if_pos hi, hx]
 kernel_rfl
theorem OU (n : Nat) {v1 : List cW} {v2 : List Int} {v3 : List Int} {v5 : Int} {v6 : List Int} {v7 : List Int} {v8 : List Int} {v9 : List Int} {v10 : Int} {v11 : List Int} {v12 : Int} {v13 : Int} {v14 : Int} {v15 : List (List Int)} {A B : Int} (h0 : decide ((v1.length : Int) > 0) = true) (hi : (decide (0 ≤ v5) && decide (v5 < (v1.length : Int))) = true) (hx : v1.getD v5.toNat ((0 : Int), ((0 : Int), (0 : Int))) = (13, A, B)) : dC n v1 v2 v3 true v5 v6 v7 v8 v9 v10 v11 v12 v13 v14 v15 = ((if (decide (0 ≤ A) && decide (A < 8)) then (if (decide ((v6.length + 1) * 8 ≤ 140737488355328) && decide (1 ≤ 8)) then (some ((0, 0), 0, v1, v2, v3, true, (wrap .i64 (v5 + 1)), (v6 ++ [(v3.getD (A).toNat (0 : Int))]), v7, v8, v9, v10, v11, v12, v13, (wrap .i64 (v14 + 1)), v15)) else none) else none)) := by
 unfold dC
 rw [h0, if_neg (by decide), if_neg (by decide), if_pos hi, hx]
 kernel_rfl
theorem OV (n : Nat) {v1 : List cW} {v2 : List Int} {v3 : List Int} {v5 : Int} {v6 : List Int} {v7 : List Int} {v8 : List Int} {v9 : List Int} {v10 : Int} {v11 : List Int} {v12 : Int} {v13 : Int} {v14 : Int} {v15 : List (List Int)} {A B : Int} (h0 : decide ((v1.length : Int) > 0) = true) (hi : (decide (0 ≤ v5) && decide (v5 < (v1.length : Int))) = true) (hx : v1.getD v5.toNat ((0 : Int), ((0 : Int), (0 : Int))) = (14, A, B)) : dC n v1 v2 v3 true v5 v6 v7 v8 v9 v10 v11 v12 v13 v14 v15 = (((dW n v1 v2 v3 true v5 v6 v7 v8 v9 v10 v11 v12 v13 v14).bind fun y19 => (if (decide (0 ≤ A) && decide (A < 8)) then (some ((0, 0), 0, y19.2.1, y19.2.2.1, (y19.2.2.2.1.set (A).toNat y19.1), y19.2.2.2.2.1, (wrap .i64 (v5 + 1)), y19.2.2.2.2.2.2.1, y19.2.2.2.2.2.2.2.1, y19.2.2.2.2.2.2.2.2.1, y19.2.2.2.2.2.2.2.2.2.1, y19.2.2.2.2.2.2.2.2.2.2.1, y19.2.2.2.2.2.2.2.2.2.2.2.1, y19.2.2.2.2.2.2.2.2.2.2.2.2.1, y19.2.2.2.2.2.2.2.2.2.2.2.2.2.1, (wrap .i64 (y19.2.2.2.2.2.2.2.2.2.2.2.2.2.2 + 1)), v15)) else none))) := by
 unfold dC
 rw [h0, if_neg (by decide), if_neg (by decide), if_pos hi, hx]
 kernel_rfl
theorem OW (n : Nat) {v1 : List cW} {v2 : List Int} {v3 : List Int} {v5 : Int} {v6 : List Int} {v7 : List Int} {v8 : List Int} {v9 : List Int} {v10 : Int} {v11 : List Int} {v12 : Int} {v13 : Int} {v14 : Int} {v15 : List (List Int)} {A B : Int} (h0 : decide ((v1.length : Int) > 0) = true) (hi : (decide (0 ≤ v5) && decide (v5 < (v1.length : Int))) = true) (hx : v1.getD v5.toNat ((0 : Int), ((0 : Int), (0 : Int))) = (15, A, B)) : dC n v1 v2 v3 true v5 v6 v7 v8 v9 v10 v11 v12 v13 v14 v15 = ((if (decide (0 ≤ A) && decide (A < 16)) then (if (decide ((v6.length + 1) * 8 ≤ 140737488355328) && decide (1 ≤ 8)) then (some ((0, 0), 0, v1, v2, v3, true, (wrap .i64 (v5 + 1)), (v6 ++ [(v8.getD (A).toNat (0 : Int))]), v7, v8, v9, v10, v11, v12, v13, (wrap .i64 (v14 + 1)), v15)) else none) else none)) := by
 unfold dC
 rw [h0, if_neg (by decide), if_neg (by decide), if_pos hi, hx]
 kernel_rfl
theorem OX (n : Nat) {v1 : List cW} {v2 : List Int} {v3 : List Int} {v5 : Int} {v6 : List Int} {v7 : List Int} {v8 : List Int} {v9 : List Int} {v10 : Int} {v11 : List Int} {v12 : Int} {v13 : Int} {v14 : Int} {v15 : List (List Int)} {A B : Int} (h0 : decide ((v1.length : Int) > 0) = true) (hi : (decide (0 ≤ v5) && decide (v5 < (v1.length : Int))) = true) (hx : v1.getD v5.toNat ((0 : Int), ((0 : Int), (0 : Int))) = (16, A, B)) : dC n v1 v2 v3 true v5 v6 v7 v8 v9 v10 v11 v12 v13 v14 v15 = (((dW n v1 v2 v3 true v5 v6 v7 v8 v9 v10 v11 v12 v13 v14).bind fun y18 => (if (decide (0 ≤ A) && decide (A < 16)) then (if decide (A < 0) then none else (some ((0, 0), 0, y18.2.1, y18.2.2.1, y18.2.2.2.1, y18.2.2.2.2.1, (wrap .i64 (v5 + 1)), y18.2.2.2.2.2.2.1, y18.2.2.2.2.2.2.2.1, y18.2.2.2.2.2.2.2.2.1, (y18.2.2.2.2.2.2.2.2.2.1.set (A).toNat y18.1), (bits .or .i64 y18.2.2.2.2.2.2.2.2.2.2.1 (wrap .i64 (1 * 2 ^ (min (A).toNat 64)))), y18.2.2.2.2.2.2.2.2.2.2.2.1, y18.2.2.2.2.2.2.2.2.2.2.2.2.1, y18.2.2.2.2.2.2.2.2.2.2.2.2.2.1, (wrap .i64 (y18.2.2.2.2.2.2.2.2.2.2.2.2.2.2 + 1)), v15))) else none))) := by
 unfold dC
 rw [h0, if_neg (by decide), if_neg (by decide), if_pos hi, hx]
 kernel_rfl
theorem OY (n : Nat) {v1 : List cW} {v2 : List Int} {v3 : List Int} {v5 : Int} {v6 : List Int} {v7 : List Int} {v8 : List Int} {v9 : List Int} {v10 : Int} {v11 : List Int} {v12 : Int} {v13 : Int} {v14 : Int} {v15 : List (List Int)} {A B : Int} (h0 : decide ((v1.length : Int) > 0) = true) (hi : (decide (0 ≤ v5) && decide (v5 < (v1.length : Int))) = true) (hx : v1.getD v5.toNat ((0 : Int), ((0 : Int), (0 : Int))) = (17, A, B)) : dC n v1 v2 v3 true v5 v6 v7 v8 v9 v10 v11 v12 v13 v14 v15 = ((if (decide (0 ≤ A) && decide (A < 8)) then (if (decide (0 ≤ B) && decide (B < 8)) then (if (decide ((v6.length + 1) * 8 ≤ 140737488355328) && decide (1 ≤ 8)) then (some ((0, 0), 0, v1, v2, v3, true, (wrap .i64 (v5 + 1)), (v6 ++ [((v15.getD (A).toNat [(0 : Int), (0 : Int), (0 : Int), (0 : Int), (0 : Int), (0 : Int), (0 : Int), (0 : Int)]).getD (B).toNat (0 : Int))]), v7, v8, v9, v10, v11, v12, v13, (wrap .i64 (v14 + 1)), v15)) else none) else none) else none)) := by
 unfold dC
 rw [h0, if_neg (by decide), if_neg (by decide), if_pos hi, hx]
 kernel_rfl
theorem OZ (n : Nat) {v1 : List cW} {v2 : List Int} {v3 : List Int} {v5 : Int} {v6 : List Int} {v7 : List Int} {v8 : List Int} {v9 : List Int} {v10 : Int} {v11 : List Int} {v12 : Int} {v13 : Int} {v14 : Int} {v15 : List (List Int)} {A B : Int} (h0 : decide ((v1.length : Int) > 0) = true) (hi : (decide (0 ≤ v5) && decide (v5 < (v1.length : Int))) = true) (hx : v1.getD v5.toNat ((0 : Int), ((0 : Int), (0 : Int))) = (18, A, B)) : dC n v1 v2 v3 true v5 v6 v7 v8 v9 v10 v11 v12 v13 v14 v15 = (((dW n v1 v2 v3 true v5 v6 v7 v8 v9 v10 v11 v12 v13 v14).bind fun y17 => (if (decide (0 ≤ A) && decide (A < 8)) then (if (decide (0 ≤ B) && decide (B < 8)) then (some ((0, 0), 0, y17.2.1, y17.2.2.1, y17.2.2.2.1, y17.2.2.2.2.1, (wrap .i64 (v5 + 1)), y17.2.2.2.2.2.2.1, y17.2.2.2.2.2.2.2.1, y17.2.2.2.2.2.2.2.2.1, y17.2.2.2.2.2.2.2.2.2.1, y17.2.2.2.2.2.2.2.2.2.2.1, y17.2.2.2.2.2.2.2.2.2.2.2.1, y17.2.2.2.2.2.2.2.2.2.2.2.2.1, y17.2.2.2.2.2.2.2.2.2.2.2.2.2.1, (wrap .i64 (y17.2.2.2.2.2.2.2.2.2.2.2.2.2.2 + 1)), (v15.set (A).toNat ((v15.getD (A).toNat [(0 : Int), (0 : Int), (0 : Int), (0 : Int), (0 : Int), (0 : Int), (0 : Int), (0 : Int)]).set (B).toNat y17.1)))) else none) else none))) := by
 unfold dC
 rw [h0, if_neg (by decide), if_neg (by decide), if_pos hi, hx]
 kernel_rfl
theorem O0 (n : Nat) {v1 : List cW} {v2 : List Int} {v3 : List Int} {v5 : Int} {v6 : List Int} {v7 : List Int} {v8 : List Int} {v9 : List Int} {v10 : Int} {v11 : List Int} {v12 : Int} {v13 : Int} {v14 : Int} {v15 : List (List Int)} {A B : Int} (h0 : decide ((v1.length : Int) > 0) = true) (hi : (decide (0 ≤ v5) && decide (v5 < (v1.length : Int))) = true) (hx : v1.getD v5.toNat ((0 : Int), ((0 : Int), (0 : Int))) = (19, A, B)) : dC n v1 v2 v3 true v5 v6 v7 v8 v9 v10 v11 v12 v13 v14 v15 = ((some ((0, 0), 0, v1, v2, v3, true, (wrap .i64 ((wrap .i64 (v5 + 1)) + A)), v6, v7, v8, v9, v10, v11, v12, v13, (wrap .i64 (v14 + 1)), v15))) := by
 unfold dC
 rw [h0, if_neg (by decide), if_neg (by decide), if_pos hi, hx]
 kernel_rfl
theorem O1 (n : Nat) {v1 : List cW} {v2 : List Int} {v3 : List Int} {v5 : Int} {v6 : List Int} {v7 : List Int} {v8 : List Int} {v9 : List Int} {v10 : Int} {v11 : List Int} {v12 : Int} {v13 : Int} {v14 : Int} {v15 : List (List Int)} {A B : Int} (h0 : decide ((v1.length : Int) > 0) = true) (hi : (decide (0 ≤ v5) && decide (v5 < (v1.length : Int))) = true) (hx : v1.getD v5.toNat ((0 : Int), ((0 : Int), (0 : Int))) = (20, A, B)) : dC n v1 v2 v3 true v5 v6 v7 v8 v9 v10 v11 v12 v13 v14 v15 = (((dW n v1 v2 v3 true v5 v6 v7 v8 v9 v10 v11 v12 v13 v14).bind fun y16 => (if (y16.1 == 0) then (some ((0, 0), 0, y16.2.1, y16.2.2.1, y16.2.2.2.1, y16.2.2.2.2.1, (wrap .i64 ((wrap .i64 (v5 + 1)) + A)), y16.2.2.2.2.2.2.1, y16.2.2.2.2.2.2.2.1, y16.2.2.2.2.2.2.2.2.1, y16.2.2.2.2.2.2.2.2.2.1, y16.2.2.2.2.2.2.2.2.2.2.1, y16.2.2.2.2.2.2.2.2.2.2.2.1, y16.2.2.2.2.2.2.2.2.2.2.2.2.1, y16.2.2.2.2.2.2.2.2.2.2.2.2.2.1, (wrap .i64 (y16.2.2.2.2.2.2.2.2.2.2.2.2.2.2 + 1)), v15)) else (some ((0, 0), 0, y16.2.1, y16.2.2.1, y16.2.2.2.1, y16.2.2.2.2.1, (wrap .i64 (v5 + 1)), y16.2.2.2.2.2.2.1, y16.2.2.2.2.2.2.2.1, y16.2.2.2.2.2.2.2.2.1, y16.2.2.2.2.2.2.2.2.2.1, y16.2.2.2.2.2.2.2.2.2.2.1, y16.2.2.2.2.2.2.2.2.2.2.2.1, y16.2.2.2.2.2.2.2.2.2.2.2.2.1, y16.2.2.2.2.2.2.2.2.2.2.2.2.2.1, (wrap .i64 (y16.2.2.2.2.2.2.2.2.2.2.2.2.2.2 + 1)), v15))))) := by
 unfold dC
 rw [h0, if_neg (by decide), if_neg (by decide), if_pos hi, hx]
 kernel_rfl
theorem O2 (n : Nat) {v1 : List cW} {v2 : List Int} {v3 : List Int} {v5 : Int} {v6 : List Int} {v7 : List Int} {v8 : List Int} {v9 : List Int} {v10 : Int} {v11 : List Int} {v12 : Int} {v13 : Int} {v14 : Int} {v15 : List (List Int)} {A B : Int} (h0 : decide ((v1.length : Int) > 0) = true) (hi : (decide (0 ≤ v5) && decide (v5 < (v1.length : Int))) = true) (hx : v1.getD v5.toNat ((0 : Int), ((0 : Int), (0 : Int))) = (21, A, B)) : dC n v1 v2 v3 true v5 v6 v7 v8 v9 v10 v11 v12 v13 v14 v15 = ((if (decide ((v11.length + 1) * 8 ≤ 140737488355328) && decide (1 ≤ 8)) then (some ((0, 0), 0, v1, v2, v3, true, (wrap .i64 (v5 + 1)), v6, v7, v8, v9, v10, (v11 ++ [A]), v12, v13, (wrap .i64 (v14 + 1)), v15)) else none)) := by
 unfold dC
 rw [h0, if_neg (by decide), if_neg (by decide), if_pos hi, hx]
 kernel_rfl
theorem O3 (n : Nat) {v1 : List cW} {v2 : List Int} {v3 : List Int} {v5 : Int} {v6 : List Int} {v7 : List Int} {v8 : List Int} {v9 : List Int} {v10 : Int} {v11 : List Int} {v12 : Int} {v13 : Int} {v14 : Int} {v15 : List (List Int)} {A B : Int} (h0 : decide ((v1.length : Int) > 0) = true) (hi : (decide (0 ≤ v5) && decide (v5 < (v1.length : Int))) = true) (hx : v1.getD v5.toNat ((0 : Int), ((0 : Int), (0 : Int))) = (22, A, B)) : dC n v1 v2 v3 true v5 v6 v7 v8 v9 v10 v11 v12 v13 v14 v15 = ((if (decide (0 ≤ (wrap .i64 ((v11.length : Int) - 1))) && decide ((wrap .i64 ((v11.length : Int) - 1)) < (v11.length : Int))) then (if (decide (0 ≤ (wrap .i64 ((v11.length : Int) - 1))) && decide ((wrap .i64 ((v11.length : Int) - 1)) < (v11.length : Int))) then (if (decide (0 ≤ (wrap .i64 ((v11.length : Int) - 1))) && decide ((wrap .i64 ((v11.length : Int) - 1)) < (((v11.set ((wrap .i64 ((v11.length : Int) - 1))).toNat (wrap .i64 ((v11.getD ((wrap .i64 ((v11.length : Int) - 1))).toNat (0 : Int)) - 1))).length : Nat) : Int))) then (if (decide (((v11.set ((wrap .i64 ((v11.length : Int) - 1))).toNat (wrap .i64 ((v11.getD ((wrap .i64 ((v11.length : Int) - 1))).toNat (0 : Int)) - 1))).getD ((wrap .i64 ((v11.length : Int) - 1))).toNat (0 : Int)) > 0)) then (if (decide (0 ≤ v5) && decide (v5 < (v2.length : Int))) then (some ((0, 0), 0, v1, v2, v3, true, (wrap .i64 ((v2.getD v5.toNat (0 : Int)) + 1)), v6, v7, v8, v9, v10, (v11.set ((wrap .i64 ((v11.length : Int) - 1))).toNat (wrap .i64 ((v11.getD ((wrap .i64 ((v11.length : Int) - 1))).toNat (0 : Int)) - 1))), v12, v13, (wrap .i64 (v14 + 1)), v15)) else none) else (if (decide (0 ≤ (wrap .i64 ((v11.length : Int) - 1))) && decide ((wrap .i64 ((v11.length : Int) - 1)) ≤ (((v11.set ((wrap .i64 ((v11.length : Int) - 1))).toNat (wrap .i64 ((v11.getD ((wrap .i64 ((v11.length : Int) - 1))).toNat (0 : Int)) - 1))).length : Nat) : Int))) then (some ((0, 0), 0, v1, v2, v3, true, (wrap .i64 (v5 + 1)), v6, v7, v8, v9, v10, ((v11.set ((wrap .i64 ((v11.length : Int) - 1))).toNat (wrap .i64 ((v11.getD ((wrap .i64 ((v11.length : Int) - 1))).toNat (0 : Int)) - 1))).take (((wrap .i64 ((v11.length : Int) - 1))).toNat - 0)), v12, v13, (wrap .i64 (v14 + 1)), v15)) else none)) else none) else none) else none)) := by
 unfold dC
 rw [h0, if_neg (by decide), if_neg (by decide), if_pos hi, hx]
 kernel_rfl
theorem O4 (n : Nat) {v1 : List cW} {v2 : List Int} {v3 : List Int} {v5 : Int} {v6 : List Int} {v7 : List Int} {v8 : List Int} {v9 : List Int} {v10 : Int} {v11 : List Int} {v12 : Int} {v13 : Int} {v14 : Int} {v15 : List (List Int)} {A B : Int} (h0 : decide ((v1.length : Int) > 0) = true) (hi : (decide (0 ≤ v5) && decide (v5 < (v1.length : Int))) = true) (hx : v1.getD v5.toNat ((0 : Int), ((0 : Int), (0 : Int))) = (23, A, B)) : dC n v1 v2 v3 true v5 v6 v7 v8 v9 v10 v11 v12 v13 v14 v15 = ((if decide (A < 0) then none else (some ((1, A), 0, v1, v2, v3, true, (wrap .i64 (v5 + 1)), v6, v7, v8, v9, v10, v11, (bits .or .i64 v12 (wrap .i64 (1 * 2 ^ (min (A).toNat 64)))), v13, (wrap .i64 (v14 + 1)), v15)))) := by
 unfold dC
 rw [h0, if_neg (by decide), if_neg (by decide), if_pos hi, hx]
 kernel_rfl
theorem O5 (n : Nat) {v1 : List cW} {v2 : List Int} {v3 : List Int} {v5 : Int} {v6 : List Int} {v7 : List Int} {v8 : List Int} {v9 : List Int} {v10 : Int} {v11 : List Int} {v12 : Int} {v13 : Int} {v14 : Int} {v15 : List (List Int)} {A B : Int} (h0 : decide ((v1.length : Int) > 0) = true) (hi : (decide (0 ≤ v5) && decide (v5 < (v1.length : Int))) = true) (hx : v1.getD v5.toNat ((0 : Int), ((0 : Int), (0 : Int))) = (24, A, B)) : dC n v1 v2 v3 true v5 v6 v7 v8 v9 v10 v11 v12 v13 v14 v15 = ((if decide (A < 0) then none else (some ((2, A), 0, v1, v2, v3, true, (wrap .i64 (v5 + 1)), v6, v7, v8, v9, v10, v11, (bits .andNot .i64 v12 (wrap .i64 (1 * 2 ^ (min (A).toNat 64)))), v13, (wrap .i64 (v14 + 1)), v15)))) := by
 unfold dC
 rw [h0, if_neg (by decide), if_neg (by decide), if_pos hi, hx]
 kernel_rfl
theorem O6 (n : Nat) {v1 : List cW} {v2 : List Int} {v3 : List Int} {v5 : Int} {v6 : List Int} {v7 : List Int} {v8 : List Int} {v9 : List Int} {v10 : Int} {v11 : List Int} {v12 : Int} {v13 : Int} {v14 : Int} {v15 : List (List Int)} {A B : Int} (h0 : decide ((v1.length : Int) > 0) = true) (hi : (decide (0 ≤ v5) && decide (v5 < (v1.length : Int))) = true) (hx : v1.getD v5.toNat ((0 : Int), ((0 : Int), (0 : Int))) = (25, A, B)) : dC n v1 v2 v3 true v5 v6 v7 v8 v9 v10 v11 v12 v13 v14 v15 = ((some ((3, 0), 0, v1, v2, v3, false, (wrap .i64 (v5 + 1)), v6, v7, v8, v9, v10, v11, v12, v13, (wrap .i64 (v14 + 1)), v15))) := by
 unfold dC
 rw [h0, if_neg (by decide), if_neg (by decide), if_pos hi, hx]
 kernel_rfl
def pv (v : List Int) : Int := v.getD (v.length - 1) 0
def pr (v : List Int) : List Int := v.take (v.length - 1)
theorem fI (r : List Int) (x : Int) : pv (r ++ [x]) = x := by
 unfold pv
 rw [aT, av, bg (by simp)]
 simp
theorem gZ (r : List Int) (x : Int) : pr (r ++ [x]) = r := by
 unfold pr
 rw [aT, List.length_singleton, cE, List.take_left']
 rfl
theorem qa (r : List Int) (x y : Int) : pv (r ++ [x, y]) = y := by
 rw [show r ++ [x, y] = (r ++ [x]) ++ [y] by simp, fI]
theorem qc (r : List Int) (x y : Int) : pr (r ++ [x, y]) = r ++ [x] := by
 rw [show r ++ [x, y] = (r ++ [x]) ++ [y] by simp, gZ]
theorem Cg {v : List Int} (h : 0 < v.length) (h2 : v.length < 1000) : wrap .i64 ((v.length : Int) - 1) = ((v.length - 1 : Nat) : Int) := by
 rw [dd (by omega) (by omega)]
 omega
theorem ge (n : Nat) (v1 : List cW) (v2 v3 : List Int) (v4 : Bool) (v5 : Int) {v6 : List Int} (v7 v8 v9 : List Int) (v10 : Int) (v11 : List Int) (v12 v13 v14 : Int) (h : 0 < v6.length) (h2 : v6.length < 1000) :
  dW n v1 v2 v3 v4 v5 v6 v7 v8 v9 v10 v11 v12 v13 v14 = some (pv v6, v1, v2, v3, v4, v5, pr v6, v7, v8, v9, v10, v11, v12, v13, v14) := by
 unfold dW pv pr
 rw [Cg h h2, if_pos (cY (by omega)), if_pos (by simp), af, aN]
def ku (A a b : Int) : Int × Bool := (dK 0 A a b).getD (0, false)
theorem NH (b : Int) : ¬ bits .and .i64 b 63 < 0 := by
 show ¬ IntKind.i64.wrap ((BitVec.ofInt 64 b &&& BitVec.ofInt 64 ((63 : Nat) : Int)).toNat : Int) < 0
 rw [BitVec.toNat_and, ofInt_u64 63 (by omega)]
 have : (BitVec.ofInt 64 b).toNat &&& 63 ≤ 63 := Nat.and_le_right
 rw [dd (by omega) (by omega)]
 omega
theorem Ch (n : Nat) {A : Int} (hA : 1 ≤ A ∧ A ≤ 12) (a b : Int) : dK n A a b = some (ku A a b) ∧ (11 ≤ A → (ku A a b).1 = 0 ∨ (ku A a b).1 = 1) := by
 have hc : A = 1 ∨ A = 2 ∨ A = 3 ∨ A = 4 ∨ A = 5 ∨ A = 6 ∨ A = 7 ∨ A = 8 ∨ A = 9 ∨ A = 10 ∨ A = 11 ∨ A = 12 := by omega
 have key : ∀ x, dK n A a b = some x → dK 0 A a b = some x → dK n A a b = some (ku A a b) ∧ ku A a b = x := fun x h1 h2 => by
  unfold ku
  rw [h1, h2]
  exact ⟨rfl, rfl⟩
 have hm := NH b
 rcases hc with rfl | rfl | rfl | rfl | rfl | rfl | rfl | rfl | rfl | rfl | rfl | rfl
 ·exact ⟨(key (wrap .i64 (a + b), false) rfl rfl).1, fun h => by omega⟩
 ·exact ⟨(key (wrap .i64 (a - b), false) rfl rfl).1, fun h => by omega⟩
 ·exact ⟨(key (wrap .i64 (a * b), false) rfl rfl).1, fun h => by omega⟩
 ·have hz : ∀ n, dK n 4 a b = some (if b = 0 then (0, true) else (wrap .i64 (a.tdiv b), false)) := fun n => by
   have : dK n 4 a b = (if (b == 0) then (some (0, true)) else (if (b == 0) then none else (some ((wrap .i64 (a.tdiv b)), false)))) := by kernel_rfl
   rw [this]
   by_cases hb : b = 0
   ·rw [if_pos (by simpa using hb), if_pos hb]
   ·rw [if_neg (by simpa using hb), if_neg (by simpa using hb), if_neg hb]
  exact ⟨(key _ (hz n) (hz 0)).1, fun h => by omega⟩
 ·have hz : ∀ n, dK n 5 a b = some (if b = 0 then (0, true) else (a.tmod b, false)) := fun n => by
   have : dK n 5 a b = (if (b == 0) then (some (0, true)) else (if (b == 0) then none else (some ((a.tmod b), false)))) := by kernel_rfl
   rw [this]
   by_cases hb : b = 0
   ·rw [if_pos (by simpa using hb), if_pos hb]
   ·rw [if_neg (by simpa using hb), if_neg (by simpa using hb), if_neg hb]
  exact ⟨(key _ (hz n) (hz 0)).1, fun h => by omega⟩
 ·exact ⟨(key (bits .and .i64 a b, false) rfl rfl).1, fun h => by omega⟩
 ·exact ⟨(key (bits .or .i64 a b, false) rfl rfl).1, fun h => by omega⟩
 ·exact ⟨(key (bits .xor .i64 a b, false) rfl rfl).1, fun h => by omega⟩
 ·have hz : ∀ n, dK n 9 a b = some (wrap .i64 (a * 2 ^ (min ((bits .and .i64 b 63)).toNat 64)), false) := fun n => by
   have : dK n 9 a b = ((if decide ((bits .and .i64 b 63) < 0) then none else (some (wrap .i64 (a * 2 ^ (min ((bits .and .i64 b 63)).toNat 64)))) : Option Int).bind fun y => some (y, false)) := by kernel_rfl
   rw [this, if_neg (by simpa using hm)]
   rfl
  exact ⟨(key _ (hz n) (hz 0)).1, fun h => by omega⟩
 ·have hz : ∀ n, dK n 10 a b = some ((a.fdiv (2 ^ (min ((bits .and .i64 b 63)).toNat 64))), false) := fun n => by
   have : dK n 10 a b = ((if decide ((bits .and .i64 b 63) < 0) then none else (some (a.fdiv (2 ^ (min ((bits .and .i64 b 63)).toNat 64)))) : Option Int).bind fun y => some (y, false)) := by kernel_rfl
   rw [this, if_neg (by simpa using hm)]
   rfl
  exact ⟨(key _ (hz n) (hz 0)).1, fun h => by omega⟩
 ·have hz : ∀ n, dK n 11 a b = some ((if decide (a < b) = true then 1 else 0), false) := fun n => by
   have : dK n 11 a b = (((if decide (a < b) then (some 1) else (some 0) : Option Int).bind fun y => some y).bind fun y => some (y, false)) := by kernel_rfl
   rw [this]
   split <;> rfl
  obtain ⟨k1, k2⟩ := key _ (hz n) (hz 0)
  refine ⟨k1, fun _ => ?_⟩
  rw [k2]
  simp only
  split
  ·exact .inr rfl
  ·exact .inl rfl
 ·have hz : ∀ n, dK n 12 a b = some ((if (a == b) = true then 1 else 0), false) := fun n => by
   have : dK n 12 a b = (((if (a == b) then (some 1) else (some 0) : Option Int).bind fun y => some y).bind fun y => some (y, false)) := by kernel_rfl
   rw [this]
   split <;> rfl
  obtain ⟨k1, k2⟩ := key _ (hz n) (hz 0)
  refine ⟨k1, fun _ => ?_⟩
  rw [k2]
  simp only
  split
  ·exact .inr rfl
  ·exact .inl rfl
structure MS where
 ret : List Int
 at_ : Int
 stk : List Int
 loc : List Int
 inp : List Int
 out : List Int
 set : Int
 rds : List Int
 held : Int
 flt : Int
 stp : Int
abbrev dq := List (List Int)
abbrev z8 : List Int := [(0 : Int), (0 : Int), (0 : Int), (0 : Int), (0 : Int), (0 : Int), (0 : Int), (0 : Int)]
abbrev iL (A : Int) : Int := wrap .i64 (1 * 2 ^ (min A.toNat 64))
def fT (x : cW) (s : MS) (mem : dq) : List Int :=
 if x.1 = 1 then s.stk ++ [x.2.1]
 else if x.1 = 2 ∨ x.1 = 12 ∨ x.1 = 14 ∨ x.1 = 16 ∨ x.1 = 18 ∨ x.1 = 20 then pr s.stk
 else if x.1 = 3 then s.stk ++ [pv s.stk]
 else if x.1 = 4 then (pr (pr s.stk) ++ [pv s.stk]) ++ [pv (pr s.stk)]
 else if x.1 = 5 then pr (pr s.stk) ++ [(ku x.2.1 (pv (pr s.stk)) (pv s.stk)).1]
 else if x.1 = 6 then pr s.stk ++ [wrap .i64 (0 - pv s.stk)]
 else if x.1 = 7 then pr s.stk ++ [if pv s.stk = 0 then 1 else 0]
 else if x.1 = 8 then pr (pr s.stk) ++ [bits .and .i64 (pv s.stk) (pv (pr s.stk))]
 else if x.1 = 9 then pr (pr s.stk) ++ [bits .or .i64 (pv s.stk) (pv (pr s.stk))]
 else if x.1 = 11 then s.stk ++ [s.loc.getD x.2.1.toNat 0]
 else if x.1 = 13 then s.stk ++ [s.ret.getD x.2.1.toNat 0]
 else if x.1 = 15 then s.stk ++ [s.inp.getD x.2.1.toNat 0]
 else if x.1 = 17 then s.stk ++ [(mem.getD x.2.1.toNat z8).getD x.2.2.toNat 0]
 else s.stk
def et (x : cW) (mt : Int) (s : MS) : Int :=
 if x.1 = 19 then s.at_ + 1 + x.2.1
 else if x.1 = 20 then (if pv s.stk = 0 then s.at_ + 1 + x.2.1 else s.at_ + 1)
 else if x.1 = 22 then (if pv s.rds - 1 > 0 then mt + 1 else s.at_ + 1)
 else s.at_ + 1
def gF (x : cW) (s : MS) : List Int :=
 if x.1 = 21 then s.rds ++ [x.2.1]
 else if x.1 = 22 then (if pv s.rds - 1 > 0 then pr s.rds ++ [pv s.rds - 1] else pr s.rds)
 else s.rds
def dN (x : cW) (mt : Int) (s : MS) (mem : dq) : MS where
 ret := if x.1 = 14 then s.ret.set x.2.1.toNat (pv s.stk) else s.ret
 at_ := et x mt s
 stk := fT x s mem
 loc := if x.1 = 12 then s.loc.set x.2.1.toNat (pv s.stk) else s.loc
 inp := s.inp
 out := if x.1 = 16 then s.out.set x.2.1.toNat (pv s.stk) else s.out
 set := if x.1 = 16 then bits .or .i64 s.set (iL x.2.1) else s.set
 rds := gF x s
 held := if x.1 = 23 then bits .or .i64 s.held (iL x.2.1) else if x.1 = 24 then bits .andNot .i64 s.held (iL x.2.1) else s.held
 flt := if x.1 = 5 then wrap .i64 (s.flt + (if (ku x.2.1 (pv (pr s.stk)) (pv s.stk)).2 = true then 1 else 0)) else s.flt
 stp := wrap .i64 (s.stp + 1)
def lW (x : cW) (s : MS) (mem : dq) : dq := if x.1 = 18 then mem.set x.2.1.toNat ((mem.getD x.2.1.toNat z8).set x.2.2.toNat (pv s.stk)) else mem
def NI (x : cW) : Int × Int := if x.1 = 25 then (3, 0) else if x.1 = 24 then (2, x.2.1) else if x.1 = 23 then (1, x.2.1) else (0, 0)
abbrev ET (l : List cW) (m : List Int) (on : Bool) (s : MS) (mem : dq) := (l, m, s.ret, on, s.at_, s.stk, s.loc, s.inp, s.out, s.set, s.rds, s.held, s.flt, s.stp, mem)
abbrev xV (n : Nat) (l : List cW) (m : List Int) (on : Bool) (s : MS) (mem : dq) := dC n l m s.ret on s.at_ s.stk s.loc s.inp s.out s.set s.rds s.held s.flt s.stp mem
theorem iW {o A B : Int} (ho : o = 11 ∨ o = 12 ∨ o = 13 ∨ o = 14 ∨ o = 23 ∨ o = 24) (h : cZ (o, A, B) = true) : 0 ≤ A ∧ A ≤ 7 := by
 have key : dc 0 (o, A, B) = (if decide (A ≥ 0) then (if decide (A ≤ 7) then some (B == 0) else some false) else some false) := by
  rcases ho with rfl | rfl | rfl | rfl | rfl | rfl
  ·exact EA 0 A B
  ·exact EB 0 A B
  ·exact EC 0 A B
  ·exact ED 0 A B
  ·exact AA 0 A B
  ·exact AB 0 A B
 have h1 := (eA 0 (o, A, B)).symm.trans key
 rw [h] at h1
 by_cases h2 : A ≥ 0
 ·rw [if_pos (ag h2)] at h1
  by_cases h3 : A ≤ 7
  ·exact ⟨h2, h3⟩
  ·rw [if_neg (by simpa using h3)] at h1; cases h1
 ·rw [if_neg (by simpa using h2)] at h1; cases h1
theorem nO {o A B : Int} (ho : o = 15 ∨ o = 16) (h : cZ (o, A, B) = true) : 0 ≤ A ∧ A ≤ 15 := by
 have key : dc 0 (o, A, B) = (if decide (A ≥ 0) then (if decide (A ≤ 15) then some (B == 0) else some false) else some false) := by
  rcases ho with rfl | rfl
  ·exact EE 0 A B
  ·exact EF 0 A B
 have h1 := (eA 0 (o, A, B)).symm.trans key
 rw [h] at h1
 by_cases h2 : A ≥ 0
 ·rw [if_pos (ag h2)] at h1
  by_cases h3 : A ≤ 15
  ·exact ⟨h2, h3⟩
  ·rw [if_neg (by simpa using h3)] at h1; cases h1
 ·rw [if_neg (by simpa using h2)] at h1; cases h1
theorem uz {o A B : Int} (ho : o = 17 ∨ o = 18) (h : cZ (o, A, B) = true) : (0 ≤ A ∧ A ≤ 7) ∧ (0 ≤ B ∧ B ≤ 7) := by
 have key : dc 0 (o, A, B) = (if decide (A ≥ 0) then (if decide (A ≤ 7) then (if decide (B ≥ 0) then some (decide (B ≤ 7)) else some false) else some false) else some false) := by
  rcases ho with rfl | rfl
  ·exact Ay 0 A B
  ·exact Az 0 A B
 have h1 := (eA 0 (o, A, B)).symm.trans key
 rw [h] at h1
 by_cases h2 : A ≥ 0
 ·rw [if_pos (ag h2)] at h1
  by_cases h3 : A ≤ 7
  ·rw [if_pos (ag h3)] at h1
   by_cases h4 : B ≥ 0
   ·rw [if_pos (ag h4)] at h1
    exact ⟨⟨h2, h3⟩, h4, aG (ao h1).symm⟩
   ·rw [if_neg (by simpa using h4)] at h1; cases h1
  ·rw [if_neg (by simpa using h3)] at h1; cases h1
 ·rw [if_neg (by simpa using h2)] at h1; cases h1
structure Row (l : List cW) (m h : List Int) (st : List ByteArray) : Prop where
 fine : Fine l m h
 stk : Stk l m st
 rise : IQ l m
theorem NJ {l : List cW} (h1 : iV l = 0) (h2 : kG l = 0) : Row l (scanI l).1 (scanI l).2.1 (p5 l) :=
 ⟨nA (tG h1), (EP h2).2, ES h1⟩
structure Ok (l : List cW) (m : List Int) (st : List ByteArray) (s : MS) (i : Nat) (rs : List (Nat × Int)) : Prop where
 place : s.at_ = (i : Int)
 lt : i < l.length
 vt : VT (rx st i) s.stk
 lps : rs.map (·.1) = lps l m i
 rds : s.rds = rs.map (·.2)
 rnd : ∀ e ∈ rs, 1 ≤ e.2 ∧ e.2 ≤ da l e.1
 held : ∃ v : Nat, s.held = (v : Int) ∧ HeldB l m i v
theorem dU {v : List Int} (h : v.length ≤ 1000) : (decide ((v.length + 1) * 8 ≤ 140737488355328) && decide (1 ≤ 8)) = true := by simp; omega
theorem fo {A k : Int} (h : 0 ≤ A ∧ A < k) : (decide (0 ≤ A) && decide (A < k)) = true := by simp; exact h
theorem dI (v : List Int) : (pr v).length = v.length - 1 := by
 unfold pr
 rw [cn]
 omega
theorem du {i : Nat} (h : i < 1000000) : wrap .i64 ((i : Int) + 1) = (i : Int) + 1 := dd (by omega) (by omega)
theorem IU {r : List Int} {x y : Int} : (r ++ [x]).set r.length y = r ++ [y] := by
 rw [List.set_append_right _ _ (ak _), bi]
 rfl
abbrev eq (n : Nat) (l : List cW) (m : List Int) (x : cW) (mt : Int) (s : MS) (mem : dq) : Prop :=
 xV n l m true s mem = some (NI x, 0, ET l m (decide (x.1 ≠ 25)) (dN x mt s mem) (lW x s mem))
theorem RM (n : Nat) {l : List cW} {m : List Int} {i : Nat} (hl : l.length ≤ 200) (hi : i < l.length) {A B : Int} (hx : l.getD i (0, 0, 0) = (1, A, B)) (hr : cZ (1, A, B) = true) {ret stk loc inp out rds : List Int} {set held flt stp : Int} {mem : dq} (hs : stk.length ≤ 16) {mt : Int} : eq n l m (1, A, B) mt ⟨ret, (i : Int), stk, loc, inp, out, set, rds, held, flt, stp⟩ mem := by
 have h0 : decide ((l.length : Int) > 0) = true := ag (by omega)
 have hi2 : (decide (0 ≤ (i : Int)) && decide ((i : Int) < (l.length : Int))) = true := cY hi
 have hx2 : l.getD ((i : Int)).toNat (0, 0, 0) = (1, A, B) := by rw [af]; exact hx
 have hn := du (show i < 1000000 by omega)
 refine (Pg n (v1 := l) (v2 := m) (v3 := ret) (v5 := (i : Int)) (v6 := stk) (v7 := loc) (v8 := inp) (v9 := out) (v10 := set) (v11 := rds) (v12 := held) (v13 := flt) (v14 := stp) (v15 := mem) h0 hi2 hx2).trans ?_
 rw [if_pos (dU (by omega)), hn]
 kernel_rfl
theorem RN (n : Nat) {l : List cW} {m : List Int} {i : Nat} (hl : l.length ≤ 200) (hi : i < l.length) {A B : Int} (hx : l.getD i (0, 0, 0) = (2, A, B)) (hr : cZ (2, A, B) = true) {ret stk loc inp out rds : List Int} {set held flt stp : Int} {mem : dq} (hs : stk.length ≤ 16) (hd : 1 ≤ stk.length) {mt : Int} : eq n l m (2, A, B) mt ⟨ret, (i : Int), stk, loc, inp, out, set, rds, held, flt, stp⟩ mem := by
 have h0 : decide ((l.length : Int) > 0) = true := ag (by omega)
 have hi2 : (decide (0 ≤ (i : Int)) && decide ((i : Int) < (l.length : Int))) = true := cY hi
 have hx2 : l.getD ((i : Int)).toNat (0, 0, 0) = (2, A, B) := by rw [af]; exact hx
 have hn := du (show i < 1000000 by omega)
 refine (Ph n (v1 := l) (v2 := m) (v3 := ret) (v5 := (i : Int)) (v6 := stk) (v7 := loc) (v8 := inp) (v9 := out) (v10 := set) (v11 := rds) (v12 := held) (v13 := flt) (v14 := stp) (v15 := mem) h0 hi2 hx2).trans ?_
 rw [ge n _ _ _ _ _ (v6 := stk) _ _ _ _ _ _ _ _ (by omega) (by omega), ab, hn]
 kernel_rfl
theorem RO (n : Nat) {l : List cW} {m : List Int} {i : Nat} (hl : l.length ≤ 200) (hi : i < l.length) {A B : Int} (hx : l.getD i (0, 0, 0) = (3, A, B)) (hr : cZ (3, A, B) = true) {ret stk loc inp out rds : List Int} {set held flt stp : Int} {mem : dq} (hs : stk.length ≤ 16) (hd : 1 ≤ stk.length) {mt : Int} : eq n l m (3, A, B) mt ⟨ret, (i : Int), stk, loc, inp, out, set, rds, held, flt, stp⟩ mem := by
 have h0 : decide ((l.length : Int) > 0) = true := ag (by omega)
 have hi2 : (decide (0 ≤ (i : Int)) && decide ((i : Int) < (l.length : Int))) = true := cY hi
 have hx2 : l.getD ((i : Int)).toNat (0, 0, 0) = (3, A, B) := by rw [af]; exact hx
 have hn := du (show i < 1000000 by omega)
 refine (Pi n (v1 := l) (v2 := m) (v3 := ret) (v5 := (i : Int)) (v6 := stk) (v7 := loc) (v8 := inp) (v9 := out) (v10 := set) (v11 := rds) (v12 := held) (v13 := flt) (v14 := stp) (v15 := mem) h0 hi2 hx2).trans ?_
 rw [Cg (by omega) (by omega), if_pos (cY (by omega)), if_pos (dU (by omega)), hn, af]
 kernel_rfl
theorem RP (n : Nat) {l : List cW} {m : List Int} {i : Nat} (hl : l.length ≤ 200) (hi : i < l.length) {A B : Int} (hx : l.getD i (0, 0, 0) = (4, A, B)) (hr : cZ (4, A, B) = true) {ret stk loc inp out rds : List Int} {set held flt stp : Int} {mem : dq} (hs : stk.length ≤ 16) (hd : 2 ≤ stk.length) {mt : Int} : eq n l m (4, A, B) mt ⟨ret, (i : Int), stk, loc, inp, out, set, rds, held, flt, stp⟩ mem := by
 have h0 : decide ((l.length : Int) > 0) = true := ag (by omega)
 have hi2 : (decide (0 ≤ (i : Int)) && decide ((i : Int) < (l.length : Int))) = true := cY hi
 have hx2 : l.getD ((i : Int)).toNat (0, 0, 0) = (4, A, B) := by rw [af]; exact hx
 have hn := du (show i < 1000000 by omega)
 refine (Pj n (v1 := l) (v2 := m) (v3 := ret) (v5 := (i : Int)) (v6 := stk) (v7 := loc) (v8 := inp) (v9 := out) (v10 := set) (v11 := rds) (v12 := held) (v13 := flt) (v14 := stp) (v15 := mem) h0 hi2 hx2).trans ?_
 rw [ge n _ _ _ _ _ (v6 := stk) _ _ _ _ _ _ _ _ (by omega) (by omega), ab, ge n _ _ _ _ _ (v6 := pr stk) _ _ _ _ _ _ _ _ (by rw [dI]; omega) (by rw [dI]; omega), ab]
 simp only []
 rw [if_pos (dU (by rw [dI, dI]; omega)), if_pos (dU (by rw [aT, dI, dI, List.length_singleton]; omega)), hn]
 kernel_rfl
theorem RQ (n : Nat) {l : List cW} {m : List Int} {i : Nat} (hl : l.length ≤ 200) (hi : i < l.length) {A B : Int} (hx : l.getD i (0, 0, 0) = (5, A, B)) (hr : cZ (5, A, B) = true) {ret stk loc inp out rds : List Int} {set held flt stp : Int} {mem : dq} (hs : stk.length ≤ 16) (hd : 2 ≤ stk.length) {mt : Int} : eq n l m (5, A, B) mt ⟨ret, (i : Int), stk, loc, inp, out, set, rds, held, flt, stp⟩ mem := by
 have h0 : decide ((l.length : Int) > 0) = true := ag (by omega)
 have hi2 : (decide (0 ≤ (i : Int)) && decide ((i : Int) < (l.length : Int))) = true := cY hi
 have hx2 : l.getD ((i : Int)).toNat (0, 0, 0) = (5, A, B) := by rw [af]; exact hx
 have hn := du (show i < 1000000 by omega)
 have hb : ∀ b : Bool, gS n b = some (if b = true then 1 else 0) := fun b => by cases b <;> rfl
 refine (Pk n (v1 := l) (v2 := m) (v3 := ret) (v5 := (i : Int)) (v6 := stk) (v7 := loc) (v8 := inp) (v9 := out) (v10 := set) (v11 := rds) (v12 := held) (v13 := flt) (v14 := stp) (v15 := mem) h0 hi2 hx2).trans ?_
 rw [ge n _ _ _ _ _ (v6 := stk) _ _ _ _ _ _ _ _ (by omega) (by omega), ab, ge n _ _ _ _ _ (v6 := pr stk) _ _ _ _ _ _ _ _ (by rw [dI]; omega) (by rw [dI]; omega), ab]
 simp only []
 rw [(Ch n (tz hr) _ _).1, ab]
 rw [hb, ab, if_pos (dU (by rw [dI, dI]; omega)), hn]
 kernel_rfl
theorem RR (n : Nat) {l : List cW} {m : List Int} {i : Nat} (hl : l.length ≤ 200) (hi : i < l.length) {A B : Int} (hx : l.getD i (0, 0, 0) = (6, A, B)) (hr : cZ (6, A, B) = true) {ret stk loc inp out rds : List Int} {set held flt stp : Int} {mem : dq} (hs : stk.length ≤ 16) (hd : 1 ≤ stk.length) {mt : Int} : eq n l m (6, A, B) mt ⟨ret, (i : Int), stk, loc, inp, out, set, rds, held, flt, stp⟩ mem := by
 have h0 : decide ((l.length : Int) > 0) = true := ag (by omega)
 have hi2 : (decide (0 ≤ (i : Int)) && decide ((i : Int) < (l.length : Int))) = true := cY hi
 have hx2 : l.getD ((i : Int)).toNat (0, 0, 0) = (6, A, B) := by rw [af]; exact hx
 have hn := du (show i < 1000000 by omega)
 refine (Pm n (v1 := l) (v2 := m) (v3 := ret) (v5 := (i : Int)) (v6 := stk) (v7 := loc) (v8 := inp) (v9 := out) (v10 := set) (v11 := rds) (v12 := held) (v13 := flt) (v14 := stp) (v15 := mem) h0 hi2 hx2).trans ?_
 rw [ge n _ _ _ _ _ (v6 := stk) _ _ _ _ _ _ _ _ (by omega) (by omega), ab]
 simp only []
 rw [show oI n (pv stk) = some (wrap .i64 (0 - pv stk)) from rfl, ab, if_pos (dU (by rw [dI]; omega)), hn]
 kernel_rfl
theorem RT (n : Nat) {l : List cW} {m : List Int} {i : Nat} (hl : l.length ≤ 200) (hi : i < l.length) {A B : Int} (hx : l.getD i (0, 0, 0) = (7, A, B)) (hr : cZ (7, A, B) = true) {ret stk loc inp out rds : List Int} {set held flt stp : Int} {mem : dq} (hs : stk.length ≤ 16) (hd : 1 ≤ stk.length) {mt : Int} : eq n l m (7, A, B) mt ⟨ret, (i : Int), stk, loc, inp, out, set, rds, held, flt, stp⟩ mem := by
 have h0 : decide ((l.length : Int) > 0) = true := ag (by omega)
 have hi2 : (decide (0 ≤ (i : Int)) && decide ((i : Int) < (l.length : Int))) = true := cY hi
 have hx2 : l.getD ((i : Int)).toNat (0, 0, 0) = (7, A, B) := by rw [af]; exact hx
 have hn := du (show i < 1000000 by omega)
 have hb : mD n (pv stk) = some (if pv stk = 0 then 1 else 0) := by
  unfold mD gS
  by_cases h : pv stk = 0
  ·rw [if_pos (by simpa using h), if_pos h]; rfl
  ·rw [if_neg (by simpa using h), if_neg h]; rfl
 refine (Pn n (v1 := l) (v2 := m) (v3 := ret) (v5 := (i : Int)) (v6 := stk) (v7 := loc) (v8 := inp) (v9 := out) (v10 := set) (v11 := rds) (v12 := held) (v13 := flt) (v14 := stp) (v15 := mem) h0 hi2 hx2).trans ?_
 rw [ge n _ _ _ _ _ (v6 := stk) _ _ _ _ _ _ _ _ (by omega) (by omega), ab]
 simp only []
 rw [hb, ab, if_pos (dU (by rw [dI]; omega)), hn]
 kernel_rfl
theorem RU (n : Nat) {l : List cW} {m : List Int} {i : Nat} (hl : l.length ≤ 200) (hi : i < l.length) {A B : Int} (hx : l.getD i (0, 0, 0) = (8, A, B)) (hr : cZ (8, A, B) = true) {ret stk loc inp out rds : List Int} {set held flt stp : Int} {mem : dq} (hs : stk.length ≤ 16) (hd : 2 ≤ stk.length) {mt : Int} : eq n l m (8, A, B) mt ⟨ret, (i : Int), stk, loc, inp, out, set, rds, held, flt, stp⟩ mem := by
 have h0 : decide ((l.length : Int) > 0) = true := ag (by omega)
 have hi2 : (decide (0 ≤ (i : Int)) && decide ((i : Int) < (l.length : Int))) = true := cY hi
 have hx2 : l.getD ((i : Int)).toNat (0, 0, 0) = (8, A, B) := by rw [af]; exact hx
 have hn := du (show i < 1000000 by omega)
 refine (Po n (v1 := l) (v2 := m) (v3 := ret) (v5 := (i : Int)) (v6 := stk) (v7 := loc) (v8 := inp) (v9 := out) (v10 := set) (v11 := rds) (v12 := held) (v13 := flt) (v14 := stp) (v15 := mem) h0 hi2 hx2).trans ?_
 rw [ge n _ _ _ _ _ (v6 := stk) _ _ _ _ _ _ _ _ (by omega) (by omega), ab, ge n _ _ _ _ _ (v6 := pr stk) _ _ _ _ _ _ _ _ (by rw [dI]; omega) (by rw [dI]; omega), ab]
 simp only []
 rw [if_pos (dU (by rw [dI, dI]; omega)), hn]
 kernel_rfl
theorem RW (n : Nat) {l : List cW} {m : List Int} {i : Nat} (hl : l.length ≤ 200) (hi : i < l.length) {A B : Int} (hx : l.getD i (0, 0, 0) = (9, A, B)) (hr : cZ (9, A, B) = true) {ret stk loc inp out rds : List Int} {set held flt stp : Int} {mem : dq} (hs : stk.length ≤ 16) (hd : 2 ≤ stk.length) {mt : Int} : eq n l m (9, A, B) mt ⟨ret, (i : Int), stk, loc, inp, out, set, rds, held, flt, stp⟩ mem := by
 have h0 : decide ((l.length : Int) > 0) = true := ag (by omega)
 have hi2 : (decide (0 ≤ (i : Int)) && decide ((i : Int) < (l.length : Int))) = true := cY hi
 have hx2 : l.getD ((i : Int)).toNat (0, 0, 0) = (9, A, B) := by rw [af]; exact hx
 have hn := du (show i < 1000000 by omega)
 refine (Pp n (v1 := l) (v2 := m) (v3 := ret) (v5 := (i : Int)) (v6 := stk) (v7 := loc) (v8 := inp) (v9 := out) (v10 := set) (v11 := rds) (v12 := held) (v13 := flt) (v14 := stp) (v15 := mem) h0 hi2 hx2).trans ?_
 rw [ge n _ _ _ _ _ (v6 := stk) _ _ _ _ _ _ _ _ (by omega) (by omega), ab, ge n _ _ _ _ _ (v6 := pr stk) _ _ _ _ _ _ _ _ (by rw [dI]; omega) (by rw [dI]; omega), ab]
 simp only []
 rw [if_pos (dU (by rw [dI, dI]; omega)), hn]
 kernel_rfl
theorem Pq (n : Nat) {l : List cW} {m : List Int} {i : Nat} (hl : l.length ≤ 200) (hi : i < l.length) {A B : Int} (hx : l.getD i (0, 0, 0) = (10, A, B)) (hr : cZ (10, A, B) = true) {ret stk loc inp out rds : List Int} {set held flt stp : Int} {mem : dq} (hs : stk.length ≤ 16) {mt : Int} : eq n l m (10, A, B) mt ⟨ret, (i : Int), stk, loc, inp, out, set, rds, held, flt, stp⟩ mem := by
 have h0 : decide ((l.length : Int) > 0) = true := ag (by omega)
 have hi2 : (decide (0 ≤ (i : Int)) && decide ((i : Int) < (l.length : Int))) = true := cY hi
 have hx2 : l.getD ((i : Int)).toNat (0, 0, 0) = (10, A, B) := by rw [af]; exact hx
 have hn := du (show i < 1000000 by omega)
 refine (OR n (v1 := l) (v2 := m) (v3 := ret) (v5 := (i : Int)) (v6 := stk) (v7 := loc) (v8 := inp) (v9 := out) (v10 := set) (v11 := rds) (v12 := held) (v13 := flt) (v14 := stp) (v15 := mem) h0 hi2 hx2).trans ?_
 rw [hn]
 kernel_rfl
theorem Pr (n : Nat) {l : List cW} {m : List Int} {i : Nat} (hl : l.length ≤ 200) (hi : i < l.length) {A B : Int} (hx : l.getD i (0, 0, 0) = (11, A, B)) (hr : cZ (11, A, B) = true) {ret stk loc inp out rds : List Int} {set held flt stp : Int} {mem : dq} (hs : stk.length ≤ 16) {mt : Int} : eq n l m (11, A, B) mt ⟨ret, (i : Int), stk, loc, inp, out, set, rds, held, flt, stp⟩ mem := by
 have h0 : decide ((l.length : Int) > 0) = true := ag (by omega)
 have hi2 : (decide (0 ≤ (i : Int)) && decide ((i : Int) < (l.length : Int))) = true := cY hi
 have hx2 : l.getD ((i : Int)).toNat (0, 0, 0) = (11, A, B) := by rw [af]; exact hx
 have hn := du (show i < 1000000 by omega)
 have ha := iW (by omega) hr
 refine (OS n (v1 := l) (v2 := m) (v3 := ret) (v5 := (i : Int)) (v6 := stk) (v7 := loc) (v8 := inp) (v9 := out) (v10 := set) (v11 := rds) (v12 := held) (v13 := flt) (v14 := stp) (v15 := mem) h0 hi2 hx2).trans ?_
 rw [if_pos (fo (by omega)), if_pos (dU (by omega)), hn]
 kernel_rfl
theorem Ps (n : Nat) {l : List cW} {m : List Int} {i : Nat} (hl : l.length ≤ 200) (hi : i < l.length) {A B : Int} (hx : l.getD i (0, 0, 0) = (13, A, B)) (hr : cZ (13, A, B) = true) {ret stk loc inp out rds : List Int} {set held flt stp : Int} {mem : dq} (hs : stk.length ≤ 16) {mt : Int} : eq n l m (13, A, B) mt ⟨ret, (i : Int), stk, loc, inp, out, set, rds, held, flt, stp⟩ mem := by
 have h0 : decide ((l.length : Int) > 0) = true := ag (by omega)
 have hi2 : (decide (0 ≤ (i : Int)) && decide ((i : Int) < (l.length : Int))) = true := cY hi
 have hx2 : l.getD ((i : Int)).toNat (0, 0, 0) = (13, A, B) := by rw [af]; exact hx
 have hn := du (show i < 1000000 by omega)
 have ha := iW (by omega) hr
 refine (OU n (v1 := l) (v2 := m) (v3 := ret) (v5 := (i : Int)) (v6 := stk) (v7 := loc) (v8 := inp) (v9 := out) (v10 := set) (v11 := rds) (v12 := held) (v13 := flt) (v14 := stp) (v15 := mem) h0 hi2 hx2).trans ?_
 rw [if_pos (fo (by omega)), if_pos (dU (by omega)), hn]
 kernel_rfl
theorem Pt (n : Nat) {l : List cW} {m : List Int} {i : Nat} (hl : l.length ≤ 200) (hi : i < l.length) {A B : Int} (hx : l.getD i (0, 0, 0) = (15, A, B)) (hr : cZ (15, A, B) = true) {ret stk loc inp out rds : List Int} {set held flt stp : Int} {mem : dq} (hs : stk.length ≤ 16) {mt : Int} : eq n l m (15, A, B) mt ⟨ret, (i : Int), stk, loc, inp, out, set, rds, held, flt, stp⟩ mem := by
 have h0 : decide ((l.length : Int) > 0) = true := ag (by omega)
 have hi2 : (decide (0 ≤ (i : Int)) && decide ((i : Int) < (l.length : Int))) = true := cY hi
 have hx2 : l.getD ((i : Int)).toNat (0, 0, 0) = (15, A, B) := by rw [af]; exact hx
 have hn := du (show i < 1000000 by omega)
 have ha := nO (by omega) hr
 refine (OW n (v1 := l) (v2 := m) (v3 := ret) (v5 := (i : Int)) (v6 := stk) (v7 := loc) (v8 := inp) (v9 := out) (v10 := set) (v11 := rds) (v12 := held) (v13 := flt) (v14 := stp) (v15 := mem) h0 hi2 hx2).trans ?_
 rw [if_pos (fo (by omega)), if_pos (dU (by omega)), hn]
 kernel_rfl
theorem Pu (n : Nat) {l : List cW} {m : List Int} {i : Nat} (hl : l.length ≤ 200) (hi : i < l.length) {A B : Int} (hx : l.getD i (0, 0, 0) = (17, A, B)) (hr : cZ (17, A, B) = true) {ret stk loc inp out rds : List Int} {set held flt stp : Int} {mem : dq} (hs : stk.length ≤ 16) {mt : Int} : eq n l m (17, A, B) mt ⟨ret, (i : Int), stk, loc, inp, out, set, rds, held, flt, stp⟩ mem := by
 have h0 : decide ((l.length : Int) > 0) = true := ag (by omega)
 have hi2 : (decide (0 ≤ (i : Int)) && decide ((i : Int) < (l.length : Int))) = true := cY hi
 have hx2 : l.getD ((i : Int)).toNat (0, 0, 0) = (17, A, B) := by rw [af]; exact hx
 have hn := du (show i < 1000000 by omega)
 have ha := uz (by omega) hr
 refine (OY n (v1 := l) (v2 := m) (v3 := ret) (v5 := (i : Int)) (v6 := stk) (v7 := loc) (v8 := inp) (v9 := out) (v10 := set) (v11 := rds) (v12 := held) (v13 := flt) (v14 := stp) (v15 := mem) h0 hi2 hx2).trans ?_
 rw [if_pos (fo (by omega)), if_pos (fo (by omega)), if_pos (dU (by omega)), hn]
 kernel_rfl
theorem Pv (n : Nat) {l : List cW} {m : List Int} {i : Nat} (hl : l.length ≤ 200) (hi : i < l.length) {A B : Int} (hx : l.getD i (0, 0, 0) = (12, A, B)) (hr : cZ (12, A, B) = true) {ret stk loc inp out rds : List Int} {set held flt stp : Int} {mem : dq} (hs : stk.length ≤ 16) (hd : 1 ≤ stk.length) {mt : Int} : eq n l m (12, A, B) mt ⟨ret, (i : Int), stk, loc, inp, out, set, rds, held, flt, stp⟩ mem := by
 have h0 : decide ((l.length : Int) > 0) = true := ag (by omega)
 have hi2 : (decide (0 ≤ (i : Int)) && decide ((i : Int) < (l.length : Int))) = true := cY hi
 have hx2 : l.getD ((i : Int)).toNat (0, 0, 0) = (12, A, B) := by rw [af]; exact hx
 have hn := du (show i < 1000000 by omega)
 have ha := iW (by omega) hr
 refine (OT n (v1 := l) (v2 := m) (v3 := ret) (v5 := (i : Int)) (v6 := stk) (v7 := loc) (v8 := inp) (v9 := out) (v10 := set) (v11 := rds) (v12 := held) (v13 := flt) (v14 := stp) (v15 := mem) h0 hi2 hx2).trans ?_
 rw [ge n _ _ _ _ _ (v6 := stk) _ _ _ _ _ _ _ _ (by omega) (by omega), ab, if_pos (fo (by omega)), hn]
 kernel_rfl
theorem Pw (n : Nat) {l : List cW} {m : List Int} {i : Nat} (hl : l.length ≤ 200) (hi : i < l.length) {A B : Int} (hx : l.getD i (0, 0, 0) = (14, A, B)) (hr : cZ (14, A, B) = true) {ret stk loc inp out rds : List Int} {set held flt stp : Int} {mem : dq} (hs : stk.length ≤ 16) (hd : 1 ≤ stk.length) {mt : Int} : eq n l m (14, A, B) mt ⟨ret, (i : Int), stk, loc, inp, out, set, rds, held, flt, stp⟩ mem := by
 have h0 : decide ((l.length : Int) > 0) = true := ag (by omega)
 have hi2 : (decide (0 ≤ (i : Int)) && decide ((i : Int) < (l.length : Int))) = true := cY hi
 have hx2 : l.getD ((i : Int)).toNat (0, 0, 0) = (14, A, B) := by rw [af]; exact hx
 have hn := du (show i < 1000000 by omega)
 have ha := iW (by omega) hr
 refine (OV n (v1 := l) (v2 := m) (v3 := ret) (v5 := (i : Int)) (v6 := stk) (v7 := loc) (v8 := inp) (v9 := out) (v10 := set) (v11 := rds) (v12 := held) (v13 := flt) (v14 := stp) (v15 := mem) h0 hi2 hx2).trans ?_
 rw [ge n _ _ _ _ _ (v6 := stk) _ _ _ _ _ _ _ _ (by omega) (by omega), ab, if_pos (fo (by omega)), hn]
 kernel_rfl
theorem Px (n : Nat) {l : List cW} {m : List Int} {i : Nat} (hl : l.length ≤ 200) (hi : i < l.length) {A B : Int} (hx : l.getD i (0, 0, 0) = (16, A, B)) (hr : cZ (16, A, B) = true) {ret stk loc inp out rds : List Int} {set held flt stp : Int} {mem : dq} (hs : stk.length ≤ 16) (hd : 1 ≤ stk.length) {mt : Int} : eq n l m (16, A, B) mt ⟨ret, (i : Int), stk, loc, inp, out, set, rds, held, flt, stp⟩ mem := by
 have h0 : decide ((l.length : Int) > 0) = true := ag (by omega)
 have hi2 : (decide (0 ≤ (i : Int)) && decide ((i : Int) < (l.length : Int))) = true := cY hi
 have hx2 : l.getD ((i : Int)).toNat (0, 0, 0) = (16, A, B) := by rw [af]; exact hx
 have hn := du (show i < 1000000 by omega)
 have ha := nO (by omega) hr
 refine (OX n (v1 := l) (v2 := m) (v3 := ret) (v5 := (i : Int)) (v6 := stk) (v7 := loc) (v8 := inp) (v9 := out) (v10 := set) (v11 := rds) (v12 := held) (v13 := flt) (v14 := stp) (v15 := mem) h0 hi2 hx2).trans ?_
 rw [ge n _ _ _ _ _ (v6 := stk) _ _ _ _ _ _ _ _ (by omega) (by omega), ab, if_pos (fo (by omega)), if_neg (by simp; omega), hn]
 kernel_rfl
theorem Py (n : Nat) {l : List cW} {m : List Int} {i : Nat} (hl : l.length ≤ 200) (hi : i < l.length) {A B : Int} (hx : l.getD i (0, 0, 0) = (18, A, B)) (hr : cZ (18, A, B) = true) {ret stk loc inp out rds : List Int} {set held flt stp : Int} {mem : dq} (hs : stk.length ≤ 16) (hd : 1 ≤ stk.length) {mt : Int} : eq n l m (18, A, B) mt ⟨ret, (i : Int), stk, loc, inp, out, set, rds, held, flt, stp⟩ mem := by
 have h0 : decide ((l.length : Int) > 0) = true := ag (by omega)
 have hi2 : (decide (0 ≤ (i : Int)) && decide ((i : Int) < (l.length : Int))) = true := cY hi
 have hx2 : l.getD ((i : Int)).toNat (0, 0, 0) = (18, A, B) := by rw [af]; exact hx
 have hn := du (show i < 1000000 by omega)
 have ha := uz (by omega) hr
 refine (OZ n (v1 := l) (v2 := m) (v3 := ret) (v5 := (i : Int)) (v6 := stk) (v7 := loc) (v8 := inp) (v9 := out) (v10 := set) (v11 := rds) (v12 := held) (v13 := flt) (v14 := stp) (v15 := mem) h0 hi2 hx2).trans ?_
 rw [ge n _ _ _ _ _ (v6 := stk) _ _ _ _ _ _ _ _ (by omega) (by omega), ab, if_pos (fo (by omega)), if_pos (fo (by omega)), hn]
 kernel_rfl
theorem Pz (n : Nat) {l : List cW} {m : List Int} {i : Nat} (hl : l.length ≤ 200) (hi : i < l.length) {A B : Int} (hx : l.getD i (0, 0, 0) = (19, A, B)) (hr : cZ (19, A, B) = true) {ret stk loc inp out rds : List Int} {set held flt stp : Int} {mem : dq} (hs : stk.length ≤ 16) {mt : Int} : eq n l m (19, A, B) mt ⟨ret, (i : Int), stk, loc, inp, out, set, rds, held, flt, stp⟩ mem := by
 have h0 : decide ((l.length : Int) > 0) = true := ag (by omega)
 have hi2 : (decide (0 ≤ (i : Int)) && decide ((i : Int) < (l.length : Int))) = true := cY hi
 have hx2 : l.getD ((i : Int)).toNat (0, 0, 0) = (19, A, B) := by rw [af]; exact hx
 have hn := du (show i < 1000000 by omega)
 have ha := oc (.inl rfl) hr
 refine (O0 n (v1 := l) (v2 := m) (v3 := ret) (v5 := (i : Int)) (v6 := stk) (v7 := loc) (v8 := inp) (v9 := out) (v10 := set) (v11 := rds) (v12 := held) (v13 := flt) (v14 := stp) (v15 := mem) h0 hi2 hx2).trans ?_
 rw [hn, dd (show -9223372036854775808 ≤ (i : Int) + 1 + A by omega) (by omega)]
 kernel_rfl
theorem PA (n : Nat) {l : List cW} {m : List Int} {i : Nat} (hl : l.length ≤ 200) (hi : i < l.length) {A B : Int} (hx : l.getD i (0, 0, 0) = (20, A, B)) (hr : cZ (20, A, B) = true) {ret stk loc inp out rds : List Int} {set held flt stp : Int} {mem : dq} (hs : stk.length ≤ 16) (hd : 1 ≤ stk.length) {mt : Int} : eq n l m (20, A, B) mt ⟨ret, (i : Int), stk, loc, inp, out, set, rds, held, flt, stp⟩ mem := by
 have h0 : decide ((l.length : Int) > 0) = true := ag (by omega)
 have hi2 : (decide (0 ≤ (i : Int)) && decide ((i : Int) < (l.length : Int))) = true := cY hi
 have hx2 : l.getD ((i : Int)).toNat (0, 0, 0) = (20, A, B) := by rw [af]; exact hx
 have hn := du (show i < 1000000 by omega)
 have ha := oc (.inr rfl) hr
 refine (O1 n (v1 := l) (v2 := m) (v3 := ret) (v5 := (i : Int)) (v6 := stk) (v7 := loc) (v8 := inp) (v9 := out) (v10 := set) (v11 := rds) (v12 := held) (v13 := flt) (v14 := stp) (v15 := mem) h0 hi2 hx2).trans ?_
 rw [ge n _ _ _ _ _ (v6 := stk) _ _ _ _ _ _ _ _ (by omega) (by omega), ab]
 simp only []
 rw [hn, dd (show -9223372036854775808 ≤ (i : Int) + 1 + A by omega) (by omega)]
 by_cases h : pv stk = 0
 ·rw [if_pos (by simpa using h)]
  unfold dN
  rw [show et (20, A, B) mt ⟨ret, (i : Int), stk, loc, inp, out, set, rds, held, flt, stp⟩ = (i : Int) + 1 + A by
   unfold et
   rw [if_neg (show ¬ (20 : Int) = 19 by decide), if_pos rfl, if_pos h]]
  kernel_rfl
 ·rw [if_neg (by simpa using h)]
  unfold dN
  rw [show et (20, A, B) mt ⟨ret, (i : Int), stk, loc, inp, out, set, rds, held, flt, stp⟩ = (i : Int) + 1 by
   unfold et
   rw [if_neg (show ¬ (20 : Int) = 19 by decide), if_pos rfl, if_neg h]]
  kernel_rfl
theorem PB (n : Nat) {l : List cW} {m : List Int} {i : Nat} (hl : l.length ≤ 200) (hi : i < l.length) {A B : Int} (hx : l.getD i (0, 0, 0) = (21, A, B)) (hr : cZ (21, A, B) = true) {ret stk loc inp out rds : List Int} {set held flt stp : Int} {mem : dq} (hs : stk.length ≤ 16) (hd : rds.length ≤ 200) {mt : Int} : eq n l m (21, A, B) mt ⟨ret, (i : Int), stk, loc, inp, out, set, rds, held, flt, stp⟩ mem := by
 have h0 : decide ((l.length : Int) > 0) = true := ag (by omega)
 have hi2 : (decide (0 ≤ (i : Int)) && decide ((i : Int) < (l.length : Int))) = true := cY hi
 have hx2 : l.getD ((i : Int)).toNat (0, 0, 0) = (21, A, B) := by rw [af]; exact hx
 have hn := du (show i < 1000000 by omega)
 refine (O2 n (v1 := l) (v2 := m) (v3 := ret) (v5 := (i : Int)) (v6 := stk) (v7 := loc) (v8 := inp) (v9 := out) (v10 := set) (v11 := rds) (v12 := held) (v13 := flt) (v14 := stp) (v15 := mem) h0 hi2 hx2).trans ?_
 rw [if_pos (dU (by omega)), hn]
 kernel_rfl
theorem PC (n : Nat) {l : List cW} {m : List Int} {i : Nat} (hl : l.length ≤ 200) (hi : i < l.length) {A B : Int} (hx : l.getD i (0, 0, 0) = (22, A, B)) (hr : cZ (22, A, B) = true) {ret stk loc inp out rds : List Int} {set held flt stp : Int} {mem : dq} (hs : stk.length ≤ 16) {r0 : List Int} {r : Int} (hrd : rds = r0 ++ [r]) (hr1 : 1 ≤ r ∧ r ≤ 1000) (hd : r0.length ≤ 200) (hm : m.length = l.length) {k : Nat} (hk : m.getD i 0 = (k : Int)) (hk2 : k < i) {mt : Int} (hmt : mt = m.getD i 0) : eq n l m (22, A, B) mt ⟨ret, (i : Int), stk, loc, inp, out, set, rds, held, flt, stp⟩ mem := by
 have h0 : decide ((l.length : Int) > 0) = true := ag (by omega)
 have hi2 : (decide (0 ≤ (i : Int)) && decide ((i : Int) < (l.length : Int))) = true := cY hi
 have hx2 : l.getD ((i : Int)).toNat (0, 0, 0) = (22, A, B) := by rw [af]; exact hx
 have hn := du (show i < 1000000 by omega)
 have hlen : (r0 ++ [r]).length = r0.length + 1 := by simp
 subst hrd
 have e1 : wrap .i64 (((r0 ++ [r]).length : Int) - 1) = (r0.length : Int) := by
  rw [dd (by omega) (by omega)]; omega
 have e2 : (r0 ++ [r]).getD r0.length 0 = r := by
  have := fI r0 r
  unfold pv at this
  rw [hlen, cE] at this
  exact this
 have e3 : wrap .i64 (r - 1) = r - 1 := dd (by omega) (by omega)
 have e4 : (r0 ++ [r - 1]).getD r0.length 0 = r - 1 := by
  have := fI r0 (r - 1)
  unfold pv at this
  rw [show (r0 ++ [r - 1]).length = r0.length + 1 by simp, cE] at this
  exact this
 have e5 : (r0 ++ [r - 1]).length = r0.length + 1 := by simp
 have e6 : (r0 ++ [r - 1]).take r0.length = r0 := by rw [List.take_left]
 have a1 : r - 1 > 0 → et (22, A, B) mt ⟨ret, (i : Int), stk, loc, inp, out, set, r0 ++ [r], held, flt, stp⟩ = (k : Int) + 1 ∧ gF (22, A, B) ⟨ret, (i : Int), stk, loc, inp, out, set, r0 ++ [r], held, flt, stp⟩ = r0 ++ [r - 1] := fun h => by
  unfold et gF
  simp only [fI, gZ]
  simp only [if_true, if_pos h, hmt, hk]
  exact ⟨rfl, rfl⟩
 have a2 : ¬ r - 1 > 0 → et (22, A, B) mt ⟨ret, (i : Int), stk, loc, inp, out, set, r0 ++ [r], held, flt, stp⟩ = (i : Int) + 1 ∧ gF (22, A, B) ⟨ret, (i : Int), stk, loc, inp, out, set, r0 ++ [r], held, flt, stp⟩ = r0 := fun h => by
  unfold et gF
  simp only [fI, gZ]
  simp only [if_true, if_neg h]
  exact ⟨rfl, rfl⟩
 refine (O3 n (v1 := l) (v2 := m) (v3 := ret) (v5 := (i : Int)) (v6 := stk) (v7 := loc) (v8 := inp) (v9 := out) (v10 := set) (v11 := r0 ++ [r]) (v12 := held) (v13 := flt) (v14 := stp) (v15 := mem) h0 hi2 hx2).trans ?_
 rw [e1]
 simp only [af, e2, e3, IU, e4, aN, e6, hk]
 rw [if_pos (cY (by omega)), if_pos (cY (by omega)), if_pos (cY (by omega)), hn, du (show k < 1000000 by omega)]
 by_cases h : r - 1 > 0
 ·rw [if_pos (ag h), if_pos (cY (by omega))]
  unfold dN
  rw [(a1 h).1, (a1 h).2]
  kernel_rfl
 ·rw [if_neg (by simpa using h), if_pos (by simp only [e5, ai, aj]; omega)]
  unfold dN
  rw [(a2 h).1, (a2 h).2]
  kernel_rfl
theorem PD (n : Nat) {l : List cW} {m : List Int} {i : Nat} (hl : l.length ≤ 200) (hi : i < l.length) {A B : Int} (hx : l.getD i (0, 0, 0) = (23, A, B)) (hr : cZ (23, A, B) = true) {ret stk loc inp out rds : List Int} {set held flt stp : Int} {mem : dq} (hs : stk.length ≤ 16) {mt : Int} : eq n l m (23, A, B) mt ⟨ret, (i : Int), stk, loc, inp, out, set, rds, held, flt, stp⟩ mem := by
 have h0 : decide ((l.length : Int) > 0) = true := ag (by omega)
 have hi2 : (decide (0 ≤ (i : Int)) && decide ((i : Int) < (l.length : Int))) = true := cY hi
 have hx2 : l.getD ((i : Int)).toNat (0, 0, 0) = (23, A, B) := by rw [af]; exact hx
 have hn := du (show i < 1000000 by omega)
 have ha := iW (by omega) hr
 refine (O4 n (v1 := l) (v2 := m) (v3 := ret) (v5 := (i : Int)) (v6 := stk) (v7 := loc) (v8 := inp) (v9 := out) (v10 := set) (v11 := rds) (v12 := held) (v13 := flt) (v14 := stp) (v15 := mem) h0 hi2 hx2).trans ?_
 rw [if_neg (by simp; omega), hn]
 kernel_rfl
theorem PE (n : Nat) {l : List cW} {m : List Int} {i : Nat} (hl : l.length ≤ 200) (hi : i < l.length) {A B : Int} (hx : l.getD i (0, 0, 0) = (24, A, B)) (hr : cZ (24, A, B) = true) {ret stk loc inp out rds : List Int} {set held flt stp : Int} {mem : dq} (hs : stk.length ≤ 16) {mt : Int} : eq n l m (24, A, B) mt ⟨ret, (i : Int), stk, loc, inp, out, set, rds, held, flt, stp⟩ mem := by
 have h0 : decide ((l.length : Int) > 0) = true := ag (by omega)
 have hi2 : (decide (0 ≤ (i : Int)) && decide ((i : Int) < (l.length : Int))) = true := cY hi
 have hx2 : l.getD ((i : Int)).toNat (0, 0, 0) = (24, A, B) := by rw [af]; exact hx
 have hn := du (show i < 1000000 by omega)
 have ha := iW (by omega) hr
 refine (O5 n (v1 := l) (v2 := m) (v3 := ret) (v5 := (i : Int)) (v6 := stk) (v7 := loc) (v8 := inp) (v9 := out) (v10 := set) (v11 := rds) (v12 := held) (v13 := flt) (v14 := stp) (v15 := mem) h0 hi2 hx2).trans ?_
 rw [if_neg (by simp; omega), hn]
 kernel_rfl
theorem PF (n : Nat) {l : List cW} {m : List Int} {i : Nat} (hl : l.length ≤ 200) (hi : i < l.length) {A B : Int} (hx : l.getD i (0, 0, 0) = (25, A, B)) (hr : cZ (25, A, B) = true) {ret stk loc inp out rds : List Int} {set held flt stp : Int} {mem : dq} (hs : stk.length ≤ 16) {mt : Int} : eq n l m (25, A, B) mt ⟨ret, (i : Int), stk, loc, inp, out, set, rds, held, flt, stp⟩ mem := by
 have h0 : decide ((l.length : Int) > 0) = true := ag (by omega)
 have hi2 : (decide (0 ≤ (i : Int)) && decide ((i : Int) < (l.length : Int))) = true := cY hi
 have hx2 : l.getD ((i : Int)).toNat (0, 0, 0) = (25, A, B) := by rw [af]; exact hx
 have hn := du (show i < 1000000 by omega)
 refine (O6 n (v1 := l) (v2 := m) (v3 := ret) (v5 := (i : Int)) (v6 := stk) (v7 := loc) (v8 := inp) (v9 := out) (v10 := set) (v11 := rds) (v12 := held) (v13 := flt) (v14 := stp) (v15 := mem) h0 hi2 hx2).trans ?_
 rw [hn]
 kernel_rfl
theorem GY {x y : Int} (hx : x = 0 ∨ x = 1) (hy : y = 0 ∨ y = 1) : (bits .and .i64 y x = 0 ∨ bits .and .i64 y x = 1) ∧ (bits .or .i64 y x = 0 ∨ bits .or .i64 y x = 1) := by
 rcases hx with rfl | rfl <;> rcases hy with rfl | rfl
 ·exact ⟨.inl (by kernel_rfl), .inl (by kernel_rfl)⟩
 ·exact ⟨.inl (by kernel_rfl), .inr (by kernel_rfl)⟩
 ·exact ⟨.inl (by kernel_rfl), .inr (by kernel_rfl)⟩
 ·exact ⟨.inr (by kernel_rfl), .inr (by kernel_rfl)⟩
theorem yG {o A B : Int} {t : ByteArray} {S : MS} {mem : dq} (hr : cZ (o, A, B) = true) (h : (dj (o, A, B) t).2 = 0) (hv : VT t S.stk) :
  VT (dj (o, A, B) t).1 (fT (o, A, B) S mem) ∧ (o = 2 ∨ o = 3 ∨ o = 6 ∨ o = 7 ∨ o = 12 ∨ o = 14 ∨ o = 16 ∨ o = 18 ∨ o = 20 → 1 ≤ S.stk.length) ∧ (o = 4 ∨ o = 5 ∨ o = 8 ∨ o = 9 → 2 ≤ S.stk.length) := by
 have hA := fun (h5 : o = 5) => tz (h5 ▸ hr)
 have in_ : ∀ y, (o = 1 ∨ o = 11 ∨ o = 13 ∨ o = 15 ∨ o = 17) → fT (o, A, B) S mem = S.stk ++ [y] → VT (dj (o, A, B) t).1 (fT (o, A, B) S mem) ∧ (o = 2 ∨ o = 3 ∨ o = 6 ∨ o = 7 ∨ o = 12 ∨ o = 14 ∨ o = 16 ∨ o = 18 ∨ o = 20 → 1 ≤ S.stk.length) ∧ (o = 4 ∨ o = 5 ∨ o = 8 ∨ o = 9 → 2 ≤ S.stk.length) := fun y ho e => by
  rw [e]
  exact ⟨OQ h hv ho y, fun h => by omega, fun h => by omega⟩
 have out : (o = 2 ∨ o = 12 ∨ o = 14 ∨ o = 16 ∨ o = 18 ∨ o = 20) → VT (dj (o, A, B) t).1 (fT (o, A, B) S mem) ∧ (o = 2 ∨ o = 3 ∨ o = 6 ∨ o = 7 ∨ o = 12 ∨ o = 14 ∨ o = 16 ∨ o = 18 ∨ o = 20 → 1 ≤ S.stk.length) ∧ (o = 4 ∨ o = 5 ∨ o = 8 ∨ o = 9 → 2 ≤ S.stk.length) := fun ho => by
  obtain ⟨r, x, e1, e2⟩ := ND h hv ho
  have e : fT (o, A, B) S mem = pr S.stk := by
   unfold fT
   rw [if_neg (by show ¬ o = 1; omega), if_pos (show o = 2 ∨ o = 12 ∨ o = 14 ∨ o = 16 ∨ o = 18 ∨ o = 20 from ho)]
  rw [e, e1, gZ]
  exact ⟨e2, fun _ => by simp, fun h => by omega⟩
 have no : (o = 19 ∨ o = 21 ∨ o = 22 ∨ o = 23 ∨ o = 24 ∨ o = 25) → fT (o, A, B) S mem = S.stk → VT (dj (o, A, B) t).1 (fT (o, A, B) S mem) ∧ (o = 2 ∨ o = 3 ∨ o = 6 ∨ o = 7 ∨ o = 12 ∨ o = 14 ∨ o = 16 ∨ o = 18 ∨ o = 20 → 1 ≤ S.stk.length) ∧ (o = 4 ∨ o = 5 ∨ o = 8 ∨ o = 9 → 2 ≤ S.stk.length) := fun ho e => by
  rw [e]
  exact ⟨Jy h hv ho, fun h => by omega, fun h => by omega⟩
 rcases ji (gx hr) with ho | ho | ho | ho | ho | ho | ho | ho | ho | ho | ho | ho | ho | ho | ho | ho | ho | ho | ho | ho | ho | ho | ho | ho | ho
 ·exact in_ A (by omega) (by subst ho; kernel_rfl)
 ·exact out (by omega)
 ·obtain ⟨r, x, e1, e2⟩ := NE h hv ho
  have e : fT (o, A, B) S mem = S.stk ++ [pv S.stk] := by subst ho; kernel_rfl
  rw [e, e1, fI, aL]
  exact ⟨e2, fun _ => by simp, fun h => by omega⟩
 ·obtain ⟨r, x, y, e1, e2⟩ := J0 h hv ho
  have e : fT (o, A, B) S mem = (pr (pr S.stk) ++ [pv S.stk]) ++ [pv (pr S.stk)] := by subst ho; kernel_rfl
  rw [e, e1, qa, qc, fI, gZ, aL]
  exact ⟨e2, fun h => by omega, fun _ => by simp⟩
 ·obtain ⟨r, x, y, e1, e2⟩ := NG h hv ho
  have e : fT (o, A, B) S mem = pr (pr S.stk) ++ [(ku A (pv (pr S.stk)) (pv S.stk)).1] := by subst ho; kernel_rfl
  rw [e, e1, qa, qc, fI, gZ]
  exact ⟨e2 _ (Ch 0 (hA ho) _ _).2, fun h => by omega, fun _ => by simp⟩
 ·obtain ⟨r, x, e1, e2⟩ := NF h hv ho
  have e : fT (o, A, B) S mem = pr S.stk ++ [wrap .i64 (0 - pv S.stk)] := by subst ho; kernel_rfl
  rw [e, e1, gZ]
  exact ⟨e2 _, fun _ => by simp, fun h => by omega⟩
 ·obtain ⟨r, x, e1, e2, e3⟩ := GW h hv ho
  have e : fT (o, A, B) S mem = pr S.stk ++ [if pv S.stk = 0 then 1 else 0] := by subst ho; kernel_rfl
  rw [e, e1, gZ]
  exact ⟨e3 _ (by split; exact .inr rfl; exact .inl rfl), fun _ => by simp, fun h => by omega⟩
 ·obtain ⟨r, x, y, e1, e2, e3, e4⟩ := Cc h hv (.inl ho)
  have e : fT (o, A, B) S mem = pr (pr S.stk) ++ [bits .and .i64 (pv S.stk) (pv (pr S.stk))] := by subst ho; kernel_rfl
  rw [e, e1, qa, qc, fI, gZ]
  exact ⟨e4 _ (GY e2 e3).1, fun h => by omega, fun _ => by simp⟩
 ·obtain ⟨r, x, y, e1, e2, e3, e4⟩ := Cc h hv (.inr ho)
  have e : fT (o, A, B) S mem = pr (pr S.stk) ++ [bits .or .i64 (pv S.stk) (pv (pr S.stk))] := by subst ho; kernel_rfl
  rw [e, e1, qa, qc, fI, gZ]
  exact ⟨e4 _ (GY e2 e3).2, fun h => by omega, fun _ => by simp⟩
 ·have e : fT (o, A, B) S mem = S.stk := by subst ho; kernel_rfl
  rw [e]
  exact ⟨JZ h hv ho, fun h => by omega, fun h => by omega⟩
 ·exact in_ (S.loc.getD A.toNat 0) (by omega) (by subst ho; kernel_rfl)
 ·exact out (by omega)
 ·exact in_ (S.ret.getD A.toNat 0) (by omega) (by subst ho; kernel_rfl)
 ·exact out (by omega)
 ·exact in_ (S.inp.getD A.toNat 0) (by omega) (by subst ho; kernel_rfl)
 ·exact out (by omega)
 ·exact in_ ((mem.getD A.toNat z8).getD B.toNat 0) (by omega) (by subst ho; kernel_rfl)
 ·exact out (by omega)
 ·exact no (by omega) (by subst ho; kernel_rfl)
 ·exact out (by omega)
 ·exact no (by omega) (by subst ho; kernel_rfl)
 ·exact no (by omega) (by subst ho; kernel_rfl)
 ·exact no (by omega) (by subst ho; kernel_rfl)
 ·exact no (by omega) (by subst ho; kernel_rfl)
 ·exact no (by omega) (by subst ho; kernel_rfl)
theorem Ok.len {l : List cW} {m h : List Int} {st : List ByteArray} (hR : Row l m h st) {s : MS} {i : Nat} {rs : List (Nat × Int)} (hO : Ok l m st s i rs) : s.stk.length ≤ 16 ∧ s.rds.length ≤ 200 ∧ l.length ≤ 200 := by
 have h1 := hO.vt.len
 have h2 := hR.stk.sz i
 have h3 := hR.fine.len
 have h4 : rs.length ≤ i := by
  have e : (rs.map (·.1)).length = rs.length := bK _
  rw [← e, hO.lps]
  unfold Go.Proofs.Dk.lps
  exact aX (List.length_filter_le _ _) (by rw [List.length_range]; exact ak _)
 have h5 := hO.lt
 rw [hO.rds, bK]
 omega
theorem DN {l : List cW} {m h : List Int} {st : List ByteArray} (hR : Row l m h st) {s : MS} {i : Nat} {rs : List (Nat × Int)} (hO : Ok l m st s i rs) (n : Nat) (mem : dq) : eq n l m (l.getD i (0, 0, 0)) (m.getD i 0) s mem := by
 obtain ⟨hstk, hrl, hl⟩ := hO.len hR
 have hi := hO.lt
 have hF := hR.fine
 have hr := hF.right hi
 have hok := hR.stk.ok i hi
 have hlast : opAt l i = 22 → ∃ (k : Nat) (r0 : List Int) (r : Int), m.getD i 0 = (k : Int) ∧ k < i ∧ s.rds = r0 ++ [r] ∧ 1 ≤ r ∧ r ≤ 1000 ∧ r0.length ≤ 200 := fun h22 => by
  obtain ⟨k, a1, a2, a3, a4, a5, a6, a7⟩ := qX hF hi h22
  have e := hO.lps
  rw [a5] at e
  obtain ⟨rs0, rs1, e1, e2, e3⟩ := List.map_eq_append_iff.1 e
  obtain ⟨q, e4, e5⟩ := List.map_eq_singleton_iff.1 e3
  have hb := hO.rnd q (by rw [e1, e4]; simp)
  have hA := xT (hF.right (show k < l.length by omega)) a3
  rw [e5] at hb
  refine ⟨k, rs0.map (·.2), q.2, a1, a2, by rw [hO.rds, e1, e4]; simp, hb.1, by omega, ?_⟩
  have := hrl
  rw [hO.rds, e1, e4] at this
  simp at this ⊢
  omega
 have hv := yG (o := (l.getD i (0, 0, 0)).1) (A := (l.getD i (0, 0, 0)).2.1) (B := (l.getD i (0, 0, 0)).2.2) (S := s) (mem := mem) hr hok hO.vt
 have d1 := hv.2.1
 have d2 := hv.2.2
 have hp := hO.place
 clear hv hok hO
 unfold opAt at hlast
 generalize hx : l.getD i (0, 0, 0) = x at hr d1 d2 hlast
 obtain ⟨o, A, B⟩ := x
 obtain ⟨ret, at_, stk, loc, inp, out, set, rds, held, flt, stp⟩ := s
 simp only at hstk hrl d1 d2 hp hlast
 subst hp
 rcases ji (gx hr) with rfl | rfl | rfl | rfl | rfl | rfl | rfl | rfl | rfl | rfl | rfl | rfl | rfl | rfl | rfl | rfl | rfl | rfl | rfl | rfl | rfl | rfl | rfl | rfl | rfl
 ·exact RM n hl hi hx hr hstk
 ·exact RN n hl hi hx hr hstk (d1 (by decide))
 ·exact RO n hl hi hx hr hstk (d1 (by decide))
 ·exact RP n hl hi hx hr hstk (d2 (by decide))
 ·exact RQ n hl hi hx hr hstk (d2 (by decide))
 ·exact RR n hl hi hx hr hstk (d1 (by decide))
 ·exact RT n hl hi hx hr hstk (d1 (by decide))
 ·exact RU n hl hi hx hr hstk (d2 (by decide))
 ·exact RW n hl hi hx hr hstk (d2 (by decide))
 ·exact Pq n hl hi hx hr hstk
 ·exact Pr n hl hi hx hr hstk
 ·exact Pv n hl hi hx hr hstk (d1 (by decide))
 ·exact Ps n hl hi hx hr hstk
 ·exact Pw n hl hi hx hr hstk (d1 (by decide))
 ·exact Pt n hl hi hx hr hstk
 ·exact Px n hl hi hx hr hstk (d1 (by decide))
 ·exact Pu n hl hi hx hr hstk
 ·exact Py n hl hi hx hr hstk (d1 (by decide))
 ·exact Pz n hl hi hx hr hstk
 ·exact PA n hl hi hx hr hstk (d1 (by decide))
 ·exact PB n hl hi hx hr hstk hrl
 ·obtain ⟨k, r0, r, e1, e2, e3, e4, e5, e6⟩ := hlast rfl
  exact PC n hl hi hx hr hstk e3 ⟨e4, e5⟩ e6 hF.nest.hm e1 e2 rfl
 ·exact PD n hl hi hx hr hstk
 ·exact PE n hl hi hx hr hstk
 ·exact PF n hl hi hx hr hstk
theorem uA {A : Int} {a : Nat} (h : A = (a : Int)) (ha : a ≤ 7) : iL A = ((2 ^ a : Nat) : Int) := by
 subst h
 exact zI ha
theorem zV (v a : Nat) (hv : v < 256) (ha : a ≤ 7) : ∃ w : Nat, bits .andNot .i64 (v : Int) ((2 ^ a : Nat) : Int) = (w : Int) ∧ w < 256 ∧ ∀ b, w.testBit b = (v.testBit b && decide (b ≠ a)) := by
 have h2 : 2 ^ a < 2 ^ 8 := Nat.pow_lt_pow_right (by omega) (by omega)
 have key : bits .andNot .i64 (v : Int) ((2 ^ a : Nat) : Int) = IntKind.i64.wrap (((BitVec.ofInt 64 (v : Int)) &&& ~~~ (BitVec.ofInt 64 ((2 ^ a : Nat) : Int))).toNat : Int) := rfl
 have hw : ∀ b, ((BitVec.ofInt 64 (v : Int)) &&& ~~~ (BitVec.ofInt 64 ((2 ^ a : Nat) : Int))).toNat.testBit b = (v.testBit b && decide (b ≠ a)) := fun b => by
  rw [BitVec.toNat_and, Nat.testBit_and, ofInt_u64 v (by omega)]
  by_cases hb : b < 64
  ·rw [BitVec.testBit_toNat, BitVec.getLsbD_not, ← BitVec.testBit_toNat, ofInt_u64 _ (by omega), Nat.testBit_two_pow, ag hb, aA]
   congr 1
   by_cases hab : a = b
   ·rw [ag hab, aJ (by omega)]; rfl
   ·rw [aJ hab, ag (by omega)]; rfl
  ·have : v.testBit b = false := Nat.testBit_lt_two_pow (bk hv (by
    have := Nat.pow_le_pow_right (n := 2) (by decide) (show 8 ≤ b by omega)
    omega))
   rw [this, aP, aP]
 generalize hW : ((BitVec.ofInt 64 (v : Int)) &&& ~~~ (BitVec.ofInt 64 ((2 ^ a : Nat) : Int))).toNat = W at key hw
 have hlt : W < 256 := by
  have hle : W ≤ v := by
   rw [← hW, BitVec.toNat_and, ofInt_u64 v (by omega)]
   exact Nat.and_le_left
  omega
 refine ⟨W, ?_, hlt, hw⟩
 rw [key, dd (by omega) (by omega)]
structure NextI (l : List cW) (m : List Int) (st : List ByteArray) (i : Nat) (rs : List (Nat × Int)) (s' : MS) : Prop where
 ex : ∃ q rs', Ok l m st s' q rs' ∧ rz l m q rs' + 1 ≤ rz l m i rs
theorem lX {l : List cW} {i : Nat} (h19 : opAt l i ≠ 19) (h25 : opAt l i ≠ 25) : i + 1 ∈ dS l i := by
 unfold dS
 rw [if_neg h19]
 split
 ·exact aM ..
 ·exact ax.2 rfl
theorem IV {l : List cW} {m h : List Int} {st : List ByteArray} (hR : Row l m h st) {s s' : MS} {i : Nat} {rs : List (Nat × Int)} (hO : Ok l m st s i rs) (h21 : opAt l i ≠ 21) (h22 : opAt l i ≠ 22) (h23 : opAt l i ≠ 23) (h24 : opAt l i ≠ 24) {q : Nat} (hq : q ∈ dS l i)
  (e1 : s'.at_ = (q : Int)) (e2 : VT (dj (l.getD i (0, 0, 0)) (rx st i)).1 s'.stk) (e3 : s'.rds = s.rds) (e4 : s'.held = s.held) : NextI l m st i rs s' := by
 have hF := hR.fine
 have hi := hO.lt
 have hql := hF.next hi q hq
 have hlps : lps l m q = lps l m i ∧ ∀ v, HeldB l m i v → HeldB l m q v := by
  unfold dS at hq
  split at hq
  ·rename_i h19
   rw [ax] at hq
   subst hq
   exact ⟨Ca hF hi (.inl h19), fun v hv => hv.jump hF hi (.inl h19)⟩
  ·split at hq
   ·rename_i h20
    rw [aC, ax] at hq
    rcases hq with rfl | rfl
    ·exact ⟨tF hF hi h21 h22 h24, fun v hv => hv.plain hF hi h23 h22 h24⟩
    ·exact ⟨Ca hF hi (.inr h20), fun v hv => hv.jump hF hi (.inr h20)⟩
   ·split at hq
    ·cases hq
    ·rw [ax] at hq
     subst hq
     exact ⟨tF hF hi h21 h22 h24, fun v hv => hv.plain hF hi h23 h22 h24⟩
 refine ⟨q, rs, ⟨e1, hql, ?_, by rw [hlps.1]; exact hO.lps, by rw [e3]; exact hO.rds, hO.rnd, ?_⟩, Ce hF hi (B8 hq) hO.lps⟩
 ·rw [hR.stk.nx i hi q hq]
  exact e2
 ·obtain ⟨v, v1, v2⟩ := hO.held
  exact ⟨v, e4.trans v1, hlps.2 v v2⟩
theorem tM {l : List cW} {m h : List Int} {st : List ByteArray} (hR : Row l m h st) {s : MS} {i : Nat} {rs : List (Nat × Int)} (hO : Ok l m st s i rs) (mem : dq) (h25 : opAt l i ≠ 25) : NextI l m st i rs (dN (l.getD i (0, 0, 0)) (m.getD i 0) s mem) := by
 have hi := hO.lt
 have hF := hR.fine
 have hr := hF.right hi
 have hok := hR.stk.ok i hi
 have hp := hO.place
 have hv := (yG (o := (l.getD i (0, 0, 0)).1) (A := (l.getD i (0, 0, 0)).2.1) (B := (l.getD i (0, 0, 0)).2.2) (S := s) (mem := mem) hr hok hO.vt).1
 have hx : l.getD i (0, 0, 0) = (opAt l i, da l i, (l.getD i (0, 0, 0)).2.2) := rfl
 have hstk : VT (dj (l.getD i (0, 0, 0)) (rx st i)).1 (dN (l.getD i (0, 0, 0)) (m.getD i 0) s mem).stk := hv
 have hrds : opAt l i ≠ 21 → opAt l i ≠ 22 → (dN (l.getD i (0, 0, 0)) (m.getD i 0) s mem).rds = s.rds := fun h1 h2 => by
  show gF _ _ = _
  unfold gF
  rw [if_neg h1, if_neg h2]
 have hheld : opAt l i ≠ 23 → opAt l i ≠ 24 → (dN (l.getD i (0, 0, 0)) (m.getD i 0) s mem).held = s.held := fun h1 h2 => by
  show (if _ then _ else if _ then _ else _) = _
  rw [if_neg h1, if_neg h2]
 have hon : opAt l i ≠ 19 → opAt l i ≠ 20 → opAt l i ≠ 22 → (dN (l.getD i (0, 0, 0)) (m.getD i 0) s mem).at_ = ((i + 1 : Nat) : Int) := fun h1 h2 h3 => by
  show et _ _ _ = _
  unfold et
  rw [if_neg h1, if_neg h2, if_neg h3, hp]
  rfl
 by_cases h22 : opAt l i = 22
 ·obtain ⟨k, a1, a2, a3, a4, a5, a6, a7⟩ := qX hF hi h22
  obtain ⟨k', b1, b2, b3⟩ : ∃ k' : Nat, m.getD i 0 = (k' : Int) ∧ (∀ v, HeldB l m i v → HeldB l m (k' + 1) v) ∧ (∀ v, HeldB l m i v → HeldB l m (i + 1) v) := by
   refine ⟨k, a1, fun v hv => ?_, fun v hv => ?_⟩
   ·obtain ⟨k2, c1, c2, c3⟩ := hv.next hF hi h22
    have : k = k2 := by rw [a1] at c1; omega
    rw [this]; exact c2
   ·obtain ⟨k2, c1, c2, c3⟩ := hv.next hF hi h22
    exact c3
  have hkk : k = k' := by rw [a1] at b1; omega
  subst hkk
  obtain ⟨v, v1, v2⟩ := hO.held
  have e := hO.lps
  rw [a5] at e
  obtain ⟨rs0, rs1, e1, e2, e3⟩ := List.map_eq_append_iff.1 e
  obtain ⟨q, e4, e5⟩ := List.map_eq_singleton_iff.1 e3
  obtain ⟨qk, qr⟩ := q
  simp only at e5
  subst e5
  subst e4
  subst e1
  have hsr : s.rds = rs0.map (·.2) ++ [qr] := by rw [hO.rds]; simp
  have hb := hO.rnd (qk, qr) (by simp)
  have hph := IT hF hi a2 a3 a4 a5 e2 (r := qr)
  have hst22 := hR.stk.nt i hi h22
  rw [a1, af] at hst22
  -- the types ahead of the loop's first instruction are those of its Next
  have hgo : rx st (qk + 1) = (dj (l.getD qk (0, 0, 0)) (rx st i)).1 := by
   rw [hR.stk.nx qk (by omega) (qk + 1) (lX (by rw [a3]; decide) (by rw [a3]; decide)), hst22]
  have hx22 : l.getD i (0, 0, 0) = (22, da l i, (l.getD i (0, 0, 0)).2.2) := by rw [← h22]
  have hst : (dN (l.getD i (0, 0, 0)) (m.getD i 0) s mem).stk = s.stk := by
   have e : ∀ A B, fT (22, A, B) s mem = s.stk := fun A B => by kernel_rfl
   show fT (l.getD i (0, 0, 0)) s mem = _
   rw [hx22, e]
  by_cases hq : qr - 1 > 0
  ·refine ⟨qk + 1, rs0 ++ [(qk, qr - 1)], ⟨?_, by omega, ?_, ?_, ?_, ?_, v, (hheld (by omega) (by omega)).trans v1, b2 v v2⟩, hph.1⟩
   ·show et _ _ _ = _
    unfold et
    rw [if_neg (show ¬ opAt l i = 19 by omega), if_neg (show ¬ opAt l i = 20 by omega), if_pos h22, hsr, fI, if_pos hq, a1]
    rfl
   ·rw [hst, hgo]
    have hr2 := hF.right (show qk < l.length by omega)
    have hok2 := hR.stk.ok qk (by omega)
    rw [hst22] at hok2
    exact Jy (o := (l.getD qk (0, 0, 0)).1) (A := (l.getD qk (0, 0, 0)).2.1) (B := (l.getD qk (0, 0, 0)).2.2) hok2 hO.vt (.inr (.inl a3))
   ·rw [a6]; simp [e2]
   ·show gF _ _ = _
    unfold gF
    rw [if_neg (show ¬ opAt l i = 21 by omega), if_pos h22, hsr, fI, gZ, if_pos hq]
    simp
   ·intro e he
    rw [az, ax] at he
    rcases he with he | he
    ·exact hO.rnd e (bh _ he)
    ·subst he
     exact ⟨by show 1 ≤ qr - 1; omega, by have := hb.2; show qr - 1 ≤ da l qk; simp only at this; omega⟩
  ·have hq1 : qr = 1 := by have := hb.1; simp only at this; omega
   have hnx := lX (l := l) (i := i) (by omega) h25
   refine ⟨i + 1, rs0, ⟨?_, hF.next hi _ hnx, ?_, ?_, ?_, fun e he => hO.rnd e (bh _ he), v, (hheld (by omega) (by omega)).trans v1, b3 v v2⟩, hph.2 hq1⟩
   ·show et _ _ _ = _
    unfold et
    rw [if_neg (show ¬ opAt l i = 19 by omega), if_neg (show ¬ opAt l i = 20 by omega), if_pos h22, hsr, fI, if_neg hq, hp]
    rfl
   ·rw [hR.stk.nx i hi _ hnx]
    exact hstk
   ·rw [a7]; exact e2
   ·show gF _ _ = _
    unfold gF
    rw [if_neg (show ¬ opAt l i = 21 by omega), if_pos h22, hsr, fI, gZ, if_neg hq]
 by_cases h21 : opAt l i = 21
 ·have hnx := lX (l := l) (i := i) (by omega) h25
  obtain ⟨v, v1, v2⟩ := hO.held
  refine ⟨i + 1, rs ++ [(i, da l i)], ⟨hon (by omega) (by omega) h22, hF.next hi _ hnx, ?_, ?_, ?_, ?_, v, (hheld (by omega) (by omega)).trans v1, v2.plain hF hi (by omega) h22 (by omega)⟩, IR hF hi hO.lps⟩
  ·rw [hR.stk.nx i hi _ hnx]; exact hstk
  ·rw [ww hF hi h21]; simp [hO.lps]
  ·show gF _ _ = _
   unfold gF
   rw [if_pos h21, hO.rds, List.map_append]
   rfl
  ·intro e he
   rw [az, ax] at he
   rcases he with he | he
   ·exact hO.rnd e he
   ·subst he
    exact ⟨(xT hr h21).1, bR _⟩
 by_cases h23 : opAt l i = 23
 ·have hnx := lX (l := l) (i := i) (by omega) h25
  obtain ⟨v, v1, v2⟩ := hO.held
  obtain ⟨a, ha, ha7⟩ := qT hr (.inl h23)
  refine ⟨i + 1, rs, ⟨hon (by omega) (by omega) h22, hF.next hi _ hnx, ?_, ?_, ?_, hO.rnd, v ||| 2 ^ a, ?_, v2.lockS hF hi h23 ha ha7⟩, Ce hF hi (by omega) hO.lps⟩
  ·rw [hR.stk.nx i hi _ hnx]; exact hstk
  ·rw [tF hF hi h21 h22 (by omega)]; exact hO.lps
  ·rw [hrds h21 h22]; exact hO.rds
  ·show (if _ then _ else if _ then _ else _) = _
   rw [if_pos h23, v1]
   show bits .or .i64 (v : Int) (iL (da l i)) = _
   rw [uA ha ha7]
   exact BX v (2 ^ a) v2.1 (by have := Nat.pow_lt_pow_right (a := 2) (by omega) (show a < 8 by omega); omega)
 by_cases h24 : opAt l i = 24
 ·have hnx := lX (l := l) (i := i) (by omega) h25
  obtain ⟨v, v1, v2⟩ := hO.held
  have h0 := iW (o := (l.getD i (0, 0, 0)).1) (A := (l.getD i (0, 0, 0)).2.1) (B := (l.getD i (0, 0, 0)).2.2) (by rw [show (l.getD i (0, 0, 0)).1 = 24 from h24]; omega) hr
  obtain ⟨a, ha, ha7⟩ : ∃ a : Nat, da l i = (a : Int) ∧ a ≤ 7 := ⟨(da l i).toNat, by unfold da; omega, by unfold da; omega⟩
  obtain ⟨w, w1, w2, w3⟩ := zV v a v2.1 ha7
  refine ⟨i + 1, rs, ⟨hon (by omega) (by omega) h22, hF.next hi _ hnx, ?_, ?_, ?_, hO.rnd, w, ?_, v2.unlock hF hR.rise hi h24 ha w2 w3⟩, Ce hF hi (by omega) hO.lps⟩
  ·rw [hR.stk.nx i hi _ hnx]; exact hstk
  ·rw [ER hF hi h24]; exact hO.lps
  ·rw [hrds h21 h22]; exact hO.rds
  ·show (if _ then _ else if _ then _ else _) = _
   rw [if_neg h23, if_pos h24, v1]
   show bits .andNot .i64 (v : Int) (iL (da l i)) = _
   rw [uA ha ha7]
   exact w1
 have key := fun {q : Nat} (hq : q ∈ dS l i) (e1 : (dN (l.getD i (0, 0, 0)) (m.getD i 0) s mem).at_ = (q : Int)) => IV hR hO h21 h22 h23 h24 hq e1 hstk (hrds h21 h22) (hheld h23 h24)
 by_cases h19 : opAt l i = 19
 ·have hj := oc (o := (l.getD i (0, 0, 0)).1) (A := (l.getD i (0, 0, 0)).2.1) (B := (l.getD i (0, 0, 0)).2.2) (.inl h19) hr
  refine key (q := dt l i) (by unfold dS; rw [if_pos h19]; exact ax.2 rfl) ?_
  show et _ _ _ = _
  unfold et dt
  rw [if_pos h19, hp]
  omega
 by_cases h20 : opAt l i = 20
 ·have hj := oc (o := (l.getD i (0, 0, 0)).1) (A := (l.getD i (0, 0, 0)).2.1) (B := (l.getD i (0, 0, 0)).2.2) (.inr h20) hr
  by_cases hz : pv s.stk = 0
  ·refine key (q := dt l i) (by unfold dS; rw [if_neg h19, if_pos h20]; simp) ?_
   show et _ _ _ = _
   unfold et dt
   rw [if_neg h19, if_pos h20, if_pos hz, hp]
   omega
  ·refine key (q := i + 1) (by unfold dS; rw [if_neg h19, if_pos h20]; simp) ?_
   show et _ _ _ = _
   unfold et
   rw [if_neg h19, if_pos h20, if_neg hz, hp]
   rfl
 ·exact key (q := i + 1) (lX h19 h25) (hon h19 h20 h22)
theorem ju {X R : Type} {S : (X → Option R) → X → Option R} (Q : Nat → X → Prop) (P : R → Prop) (h0 : ∀ x, ¬ Q 0 x) (h : ∀ f x F, (∀ y, Q f y → ∃ r, F y = some r ∧ P r) → Q (f + 1) x → ∃ r, S F x = some r ∧ P r) : ∀ f x, Q f x → ∃ r, it S f x = some r ∧ P r
 | 0, x, hq => absurd hq (h0 x)
 | f + 1, x, hq => h f x (it S f) (ju Q P h0 h f) hq
abbrev z16 : List Int := [0, 0, 0, 0, 0, 0, 0, 0, 0, 0, 0, 0, 0, 0, 0, 0]
abbrev iy (ret inp : List Int) : MS := ⟨ret, 0, [], z8, inp, z16, 0, [], 0, 0, 0⟩
theorem IW {l : List cW} {m h : List Int} {st : List ByteArray} (hR : Row l m h st) (ret inp : List Int) : Ok l m st (iy ret inp) 0 [] := by
 have hl := hR.fine.len
 refine ⟨rfl, by omega, ?_, rfl, rfl, (fun e he => by cases he), 0, rfl, by omega, fun b => ?_⟩
 ·rw [hR.stk.z]
  exact trivial
 ·rw [Nat.zero_testBit]
  exact ⟨(fun h => by cases h), fun ⟨k, k1, _⟩ => by have := (eY k1).1; omega⟩
theorem IX (n : Nat) {l : List cW} (hl : 0 < l.length) (m ret inp : List Int) (at_ : Int) (stk loc inp2 out : List Int) (set : Int) (rds : List Int) (held flt stp : Int) :
  gT n inp l m ret false at_ stk loc inp2 out set rds held flt stp = some (0, l, m, ret, true, 0, [], z8, inp, z16, 0, [], 0, 0, 0) := by
 unfold gT
 rw [ag (show (l.length : Int) > 0 by omega), if_neg (by decide), if_neg (by decide)]
theorem NK {l : List cW} (h : l.length ≤ 200) : (decide (0 = 0) && decide (0 = 0) && decide (l.length * 24 ≤ 140737488355328) && decide (1 ≤ 24)) = true := by simp; omega
theorem Jz (a : List Int) (k : Nat) : Sh.eqT (.arr k (.int .i64)) a a = true := by
 show (List.range k).all (fun i => (a.getD i (0 : Int) == a.getD i 0)) = true
 rw [aR]
 intro i _
 exact bJ _
theorem NL (a : List (List Int)) (k j : Nat) : Sh.eqT (.arr k (.arr j (.int .i64))) a a = true := by
 show (List.range k).all (fun i => Sh.eqT (.arr j (.int .i64)) (a.getD i _) (a.getD i _)) = true
 rw [aR]
 intro i _
 exact Jz _ _
def Ci (set : Int) (k : Nat) : Bool := bits .and .i64 (set.fdiv (2 ^ (min ((k : Int)).toNat 64))) 1 == 1
def mn (out : List Int) (set : Int) : Nat → Nat → List (Int × Int)
 | 0, _ => []
 | r + 1, k => (if Ci set k = true then [((k : Int), out.getD k 0)] else []) ++ mn out set r (k + 1)
def kc (out : List Int) (set : Int) : List (Int × Int) := mn out set 16 0
theorem J1 (n : Nat) (hn : 16 < n) (l : List cW) (m ret : List Int) (on : Bool) (at_ : Int) (stk loc inp out : List Int) (set : Int) (rds : List Int) (held flt stp : Int) :
  xz n l m ret on at_ stk loc inp out set rds held flt stp = some (kc out set, l, m, ret, on, at_, stk, loc, inp, out, set, rds, held, flt, stp) := by
 unfold xz
 have key : ∃ r, sP n ([], out, 0, l, m, ret, on, at_, stk, loc, inp, out, set, rds, held, flt, stp) = some r ∧ r = (kc out set, l, m, ret, on, at_, stk, loc, inp, out, set, rds, held, flt, stp) := by
  show ∃ r, it _ n _ = some r ∧ _
  refine ju (fun f x => ∃ (k : Nat) (o : List (Int × Int)), k ≤ 16 ∧ 16 < f + k ∧ o.length ≤ k ∧ o ++ mn out set (16 - k) k = kc out set ∧ x = (o, out, (k : Int), l, m, ret, on, at_, stk, loc, inp, out, set, rds, held, flt, stp)) _ (fun x ⟨k, o, h1, h2, _⟩ => by omega) ?_ n _ ⟨0, [], by omega, by omega, aq _, by unfold kc; rw [bb, aN], rfl⟩
  rintro f x F hF ⟨k, o, h1, h2, h3, h4, rfl⟩
  show ∃ r, ui n F o out (k : Int) l m ret on at_ stk loc inp out set rds held flt stp = some r ∧ _
  unfold ui
  rcases am k 16 with hk | hk
  ·rw [if_pos (ag (by omega)), if_pos (by simp; omega), if_neg (by simp), dH (by omega)]
   rw [show 16 - k = (16 - (k + 1)) + 1 by omega] at h4
   unfold mn Ci at h4
   rw [af] at h4
   rw [af]
   by_cases hb : (bits .and .i64 (set.fdiv (2 ^ (min k 64))) 1 == 1) = true
   ·rw [if_pos hb, if_pos (by simp; omega)]
    rw [if_pos hb] at h4
    exact hF _ ⟨k + 1, _, by omega, by omega, by simp; omega, by rw [aL]; exact h4, rfl⟩
   ·rw [if_neg hb]
    rw [if_neg hb, bb] at h4
    exact hF _ ⟨k + 1, o, by omega, by omega, by omega, h4, rfl⟩
  ·have : k = 16 := by omega
   subst this
   rw [if_neg (by decide)]
   rw [bi] at h4
   unfold mn at h4
   rw [aK] at h4
   subst h4
   exact ⟨_, rfl, rfl⟩
 obtain ⟨r, e1, e2⟩ := key
 subst e2
 rw [e1]
 rfl
structure CS where
 on : Bool
 s : MS
 mem : dq
def fa (l : List cW) (m : List Int) (c : CS) : CS :=
 if c.on = true then ⟨decide ((l.getD c.s.at_.toNat (0, 0, 0)).1 ≠ 25), dN (l.getD c.s.at_.toNat (0, 0, 0)) (m.getD c.s.at_.toNat 0) c.s c.mem, lW (l.getD c.s.at_.toNat (0, 0, 0)) c.s c.mem⟩ else c
def xW (l : List cW) (m : List Int) (st : List ByteArray) (c : CS) : Prop := c.on = true → ∃ i rs, Ok l m st c.s i rs
abbrev PG (l : List cW) (m : List Int) (c : CS) := ET l m c.on c.s c.mem
theorem O7 {l : List cW} {m h : List Int} {st : List ByteArray} (hR : Row l m h st) {c : CS} (hc : xW l m st c) (n : Nat) : (∃ ev e, xV n l m c.on c.s c.mem = some (ev, e, PG l m (fa l m c))) ∧ xW l m st (fa l m c) := by
 obtain ⟨on, s, mem⟩ := c
 cases on with
 | false =>
  refine ⟨⟨(0, 0), 16, ?_⟩, fun h => by cases h⟩
  have hl := hR.fine.len
  unfold xV dC
  dsimp only
  rw [ag (show (l.length : Int) > 0 by omega), if_neg (by decide), if_pos (by decide)]
  rfl
 | true =>
  obtain ⟨i, rs, hO⟩ := hc rfl
  have hp : s.at_ = (i : Int) := hO.place
  have e : s.at_.toNat = i := by rw [hp]; exact af i
  have e1 : fa l m ⟨true, s, mem⟩ = ⟨decide ((l.getD i (0, 0, 0)).1 ≠ 25), dN (l.getD i (0, 0, 0)) (m.getD i 0) s mem, lW (l.getD i (0, 0, 0)) s mem⟩ := by
   unfold fa
   rw [if_pos rfl]
   dsimp only
   rw [e]
  rw [e1]
  refine ⟨⟨_, 0, DN hR hO n mem⟩, fun h => ?_⟩
  have h25 : opAt l i ≠ 25 := aG h
  obtain ⟨q, rs', hq, _⟩ := (tM hR hO mem h25).ex
  exact ⟨q, rs', hq⟩
theorem zW (out : List Int) (set : Int) : ∀ r k, (mn out set r k).length ≤ r
 | 0, k => ak _
 | r + 1, k => by
  have := zW out set r (k + 1)
  unfold mn
  rw [aT]
  split <;> simp <;> omega
theorem GZ (out : List Int) (set : Int) : (kc out set).length ≤ 16 := zW out set 16 0
theorem IY (n : Nat) {x : List (Int × Int)} (h : x.length ≤ 16) (hn : 16 < n) : xA n x = some x := by
 unfold xA
 have key : ∃ r, sR n (x, [], 0) = some r ∧ r = x := by
  show ∃ r, it _ n _ = some r ∧ _
  refine ju (fun f y => ∃ k : Nat, k ≤ x.length ∧ x.length < f + k ∧ y = (x, x.take k, (k : Int))) _ (fun y ⟨k, h1, h2, _⟩ => by omega) ?_ n _ ⟨0, by omega, by omega, rfl⟩
  rintro f y F hF ⟨k, h1, h2, rfl⟩
  show ∃ r, uj n F x (x.take k) (k : Int) = some r ∧ _
  unfold uj
  rcases am k x.length with hk | hk
  ·have e : x.take k ++ [((x.getD k (0, 0)).1, (x.getD k (0, 0)).2)] = x.take (k + 1) := by
    rw [List.take_add_one, aF hk, av, aF hk]
    rfl
   rw [if_pos (ag (by omega)), if_pos (cY hk), if_pos (cY hk), if_pos (by simp; omega), dH (by omega), af, e]
   exact hF _ ⟨k + 1, by omega, by omega, rfl⟩
  ·rw [if_neg (by simp; omega)]
   exact ⟨_, rfl, aW hk⟩
 obtain ⟨r, e1, e2⟩ := key
 subst e2
 first
  | exact e1
  | (rw [e1]; rfl)
theorem IZ (n : Nat) {x : List (Int × Int)} (h : x.length ≤ 16) (hn : 16 < n) : xB n x x = some true := by
 unfold xB
 have key : ∃ r, sT n (x, x, 0) = some r ∧ r = .inr ((), ()) := by
  show ∃ r, it _ n _ = some r ∧ _
  refine ju (fun f y => ∃ k : Nat, k ≤ x.length ∧ x.length < f + k ∧ y = (x, x, (k : Int))) _ (fun y ⟨k, h1, h2, _⟩ => by omega) ?_ n _ ⟨0, by omega, by omega, rfl⟩
  rintro f y F hF ⟨k, h1, h2, rfl⟩
  show ∃ r, uk n F x x (k : Int) = some r ∧ _
  unfold uk
  rcases am k x.length with hk | hk
  ·rw [if_pos (ag (by omega)), if_pos (cY hk), if_pos (cY hk), bJ, bJ, if_neg (by decide), dH (by omega)]
   exact hF _ ⟨k + 1, by omega, by omega, rfl⟩
  ·rw [if_neg (by simp; omega)]
   exact ⟨_, rfl, rfl⟩
 obtain ⟨r, e1, e2⟩ := key
 subst e2
 rw [e1]
 simp
structure TM where
 sw : Int
 la : Int
 co : Int
structure TOk (t : TM) : Prop where
 s0 : 0 ≤ t.sw
 s1 : t.sw ≤ 100
 l0 : 1 ≤ t.la
 l1 : t.la ≤ 100
 c0 : 1 ≤ t.co
 c1 : t.co ≤ 100
structure IS where
 ph : Int
 left : Int
 used : Int
 inn : List Int
 c : CS
def dX (t : TM) (ph left : Int) : Int × Int :=
 if left ≠ 0 then (ph, left)
 else if ph = 0 then (1, t.la) else if ph = 1 then (2, 1) else if ph = 2 then (3, t.co) else if ph = 3 then (if t.sw = 0 then (5, 1) else (4, t.sw)) else if ph = 4 then (5, 1) else (ph, left)
abbrev tN (t : TM) : List Int := [t.sw, t.la, 1, t.co, t.sw, 1]
abbrev tO (j1 j2 j3 : Int) (t : TM) (ph left used : Int) (inn : List Int) (l : List cW) (m : List Int) (on : Bool) (s : MS) := (j1, j2, j3, t.sw, t.la, t.co, ph, left, used, inn, tN t, l, m, s.ret, on, s.at_, s.stk, s.loc, s.inp, s.out, s.set, s.rds, s.held, s.flt, s.stp)
theorem tP (n : Nat) (hn : 8 ≤ n) (j1 j2 j3 : Int) {t : TM} (ht : TOk t) {ph left : Int} (h0 : 0 ≤ ph ∧ ph ≤ 5) (used : Int) (inn : List Int) (l : List cW) (m : List Int) (on : Bool) (s : MS) :
  fL n (tO j1 j2 j3 t ph left used inn l m on s) = some (tO j1 j2 j3 t (dX t ph left).1 (dX t ph left).2 used inn l m on s) := by
 have key : ∃ r, fL n (tO j1 j2 j3 t ph left used inn l m on s) = some r ∧ r = tO j1 j2 j3 t (dX t ph left).1 (dX t ph left).2 used inn l m on s := by
  show ∃ r, it _ n _ = some r ∧ _
  refine ju (fun f x => ∃ p q : Int, 0 ≤ p ∧ p ≤ 5 ∧ 5 - p < f ∧ dX t p q = dX t ph left ∧ x = tO j1 j2 j3 t p q used inn l m on s) _ (fun x ⟨p, q, h1, h2, h3, _⟩ => by omega) ?_ n _ ⟨ph, left, h0.1, h0.2, by omega, rfl, rfl⟩
  rintro f x F hF ⟨p, q, h1, h2, h3, h4, rfl⟩
  show ∃ r, uh n F j1 j2 j3 t.sw t.la t.co p q used inn (tN t) l m s.ret on s.at_ s.stk s.loc s.inp s.out s.set s.rds s.held s.flt s.stp = some r ∧ _
  unfold uh
  by_cases hq : q = 0
  ·subst hq
   rw [if_pos (by decide)]
   by_cases hp : p < 5
   ·have hl0 := ht.l0
    have hc0 := ht.c0
    rw [if_pos (ag hp), dd (by omega) (by omega), if_pos (by simp; omega)]
    have hc : p = 0 ∨ p = 1 ∨ p = 2 ∨ p = 3 ∨ p = 4 := by omega
    rcases hc with rfl | rfl | rfl | rfl | rfl
    ·exact hF _ ⟨1, t.la, by omega, by omega, by omega, by rw [← h4]; unfold dX; rw [if_pos (by omega)]; rfl, rfl⟩
    ·exact hF _ ⟨2, 1, by omega, by omega, by omega, by rw [← h4]; rfl, rfl⟩
    ·exact hF _ ⟨3, t.co, by omega, by omega, by omega, by rw [← h4]; unfold dX; rw [if_pos (by omega)]; rfl, rfl⟩
    ·exact hF _ ⟨4, t.sw, by omega, by omega, by omega, by
      rw [← h4]
      by_cases hs : t.sw = 0
      ·rw [hs]; unfold dX; rw [if_neg (by decide), if_neg (by decide), if_neg (by decide), if_neg (by decide), if_neg (by decide), if_pos rfl, if_neg (by decide), if_neg (by decide), if_neg (by decide), if_neg (by decide), if_pos rfl, if_pos hs]
      ·unfold dX; rw [if_pos hs, if_neg (by decide), if_neg (by decide), if_neg (by decide), if_neg (by decide), if_pos rfl, if_neg hs], rfl⟩
    ·exact hF _ ⟨5, 1, by omega, by omega, by omega, by rw [← h4]; rfl, rfl⟩
   ·have : p = 5 := by omega
    subst this
    rw [if_neg (by decide)]
    refine ⟨_, rfl, ?_⟩
    rw [← h4]
    rfl
  ·rw [if_neg (by simpa using hq)]
   refine ⟨_, rfl, ?_⟩
   rw [← h4]
   unfold dX
   rw [if_pos hq]
 obtain ⟨r, e1, e2⟩ := key
 rw [e1, e2]
abbrev NM (j1 j2 j3 : Int) (t : TM) (l : List cW) (m : List Int) (x : IS) := (j1, j2, j3, t.sw, t.la, t.co, x.ph, x.left, x.used, x.inn, x.c.mem, l, m, x.c.s.ret, x.c.on, x.c.s.at_, x.c.s.stk, x.c.s.loc, x.c.s.inp, x.c.s.out, x.c.s.set, x.c.s.rds, x.c.s.held, x.c.s.flt, x.c.s.stp)
abbrev xX (n : Nat) (inp : List Int) (j1 j2 j3 : Int) (t : TM) (l : List cW) (m : List Int) (x : IS) := pJ n inp j1 j2 j3 t.sw t.la t.co x.ph x.left x.used x.inn x.c.mem l m x.c.s.ret x.c.on x.c.s.at_ x.c.s.stk x.c.s.loc x.c.s.inp x.c.s.out x.c.s.set x.c.s.rds x.c.s.held x.c.s.flt x.c.s.stp
abbrev gG (l : List cW) (x : IS) : cW := l.getD x.c.s.at_.toNat (0, 0, 0)
def iX (l : List cW) (x : IS) : Int × Int :=
 if x.ph = 2 then (if (gG l x).1 = 23 then (2, (gG l x).2.1) else if (gG l x).1 = 24 then (3, (gG l x).2.1) else (0, 0))
 else if 1 < x.left then (0, 0) else if x.ph = 1 then (1, 0) else if x.ph = 3 then (4, 0) else (0, 0)
def iM (l : List cW) (x : IS) : Int := if x.ph = 2 then (if (gG l x).1 = 25 then 0 else x.left) else x.left - 1
def fJ (x : IS) : Bool := decide (x.ph = 1) && decide (x.left = 1)
def dp (t : TM) (l : List cW) (m : List Int) (inp : List Int) (x : IS) : IS where
 ph := (dX t x.ph (iM l x)).1
 left := (dX t x.ph (iM l x)).2
 used := x.used + 1
 inn := if fJ x = true then inp else x.inn
 c := if x.ph = 2 then fa l m x.c else if fJ x = true then ⟨true, iy x.c.s.ret inp, x.c.mem⟩ else x.c
structure IOk (t : TM) (l : List cW) (m : List Int) (st : List ByteArray) (x : IS) : Prop where
 ph : 0 ≤ x.ph ∧ x.ph ≤ 5
 left : 1 ≤ x.left ∧ x.left ≤ 100
 used : 0 ≤ x.used
 on : x.c.on = decide (x.ph = 2)
 one : x.ph = 2 → x.left = 1
 run : x.ph = 2 → ∃ i rs, Ok l m st x.c.s i rs
 off : 3 ≤ x.ph → x.c.s.held = 0
theorem G0 (x : cW) : NI x = if x.1 = 25 then (3, 0) else if x.1 = 24 then (2, x.2.1) else if x.1 = 23 then (1, x.2.1) else (0, 0) := rfl
theorem Cj {l : List cW} {m h : List Int} {st : List ByteArray} (hR : Row l m h st) {t : TM} (ht : TOk t) {x : IS} (hx : IOk t l m st x) (h5 : x.ph ≠ 5) (hu : x.used < 1000000) (n : Nat) (hn : 8 ≤ n) (inp : List Int) (j1 j2 j3 : Int) :
  xX n inp j1 j2 j3 t l m x = some (((iX l x).1, ((iX l x).2, (dp t l m inp x).ph == 5)), 0, NM j1 j2 j3 t l m (dp t l m inp x)) := by
 have hl := hR.fine.len
 obtain ⟨x1, x2, x3, x4, x5, x6, x7⟩ := hx
 obtain ⟨ph, left, used, inn, ⟨on, s, mem⟩⟩ := x
 simp only at x1 x2 x3 x4 x5 x6 x7 h5 hu
 unfold xX pJ
 dsimp only
 rw [if_neg (show ¬ (ph == 5) = true by simpa using h5), show wrap .i64 (used + 1) = used + 1 from dd (by omega) (by omega)]
 by_cases h2 : ph = 2
 ·subst h2
  obtain ⟨i, rs, hO⟩ := x6 rfl
  have hp : s.at_ = (i : Int) := hO.place
  have hi : s.at_.toNat = i := by rw [hp]; exact af i
  have hS := DN hR hO n mem
  unfold eq xV ET at hS
  have x4' : on = true := x4
  subst x4'
  have h1 := x5 rfl
  subst h1
  rw [if_pos (by decide), hS, ab]
  dsimp only
  have eI : gG l ⟨2, 1, used, inn, ⟨true, s, mem⟩⟩ = l.getD i (0, 0, 0) := by show l.getD s.at_.toNat _ = _; rw [hi]
  have e1 : fa l m ⟨true, s, mem⟩ = ⟨decide ((l.getD i (0, 0, 0)).1 ≠ 25), dN (l.getD i (0, 0, 0)) (m.getD i 0) s mem, lW (l.getD i (0, 0, 0)) s mem⟩ := by
   unfold fa
   rw [if_pos rfl]
   dsimp only
   rw [hi]
  have eN : dp t l m inp ⟨2, 1, used, inn, ⟨true, s, mem⟩⟩ = ⟨(dX t 2 (if (l.getD i (0, 0, 0)).1 = 25 then 0 else 1)).1, (dX t 2 (if (l.getD i (0, 0, 0)).1 = 25 then 0 else 1)).2, used + 1, inn, ⟨decide ((l.getD i (0, 0, 0)).1 ≠ 25), dN (l.getD i (0, 0, 0)) (m.getD i 0) s mem, lW (l.getD i (0, 0, 0)) s mem⟩⟩ := by
   unfold dp
   rw [if_pos rfl, e1]
   unfold iM
   rw [if_pos rfl, eI]
   rfl
  have eE : iX l ⟨2, 1, used, inn, ⟨true, s, mem⟩⟩ = if (l.getD i (0, 0, 0)).1 = 23 then (2, (l.getD i (0, 0, 0)).2.1) else if (l.getD i (0, 0, 0)).1 = 24 then (3, (l.getD i (0, 0, 0)).2.1) else (0, 0) := by
   unfold iX
   rw [if_pos rfl, eI]
  rw [eN, eE, G0]
  have hs := fun left => tP n hn j1 j2 j3 ht (ph := 2) (left := left) (by omega) (used + 1) inn l m (decide ((l.getD i (0, 0, 0)).1 ≠ 25)) (dN (l.getD i (0, 0, 0)) (m.getD i 0) s mem)
  unfold tO tN at hs
  by_cases h25 : (l.getD i (0, 0, 0)).1 = 25
  ·simp only [if_pos h25]
   rw [if_neg (by decide), if_neg (by decide), if_pos (by decide), hs 0, ab, if_neg (by rw [h25]; decide), if_neg (by rw [h25]; decide)]
  ·simp only [if_neg h25]
   by_cases h24 : (l.getD i (0, 0, 0)).1 = 24
   ·simp only [if_pos h24]
    rw [if_neg (by decide), if_pos (by decide), hs 1, ab, if_neg (by rw [h24]; decide)]
   ·simp only [if_neg h24]
    by_cases h23 : (l.getD i (0, 0, 0)).1 = 23
    ·simp only [if_pos h23]
     rw [if_pos (by decide), hs 1, ab]
    ·simp only [if_neg h23]
     rw [if_neg (by decide), if_neg (by decide), if_neg (by decide), hs 1, ab]
 ·have x4' : on = false := x4.trans (aJ h2)
  subst x4'
  rw [if_neg (show ¬ (ph == 2) = true by simpa using h2), show wrap .i64 (left - 1) = left - 1 from dd (by omega) (by omega)]
  have hs := fun inn on s => tP n hn j1 j2 j3 ht (ph := ph) (left := left - 1) x1 (used + 1) inn l m on s
  unfold tO tN at hs
  have eL : iM l ⟨ph, left, used, inn, ⟨false, s, mem⟩⟩ = left - 1 := if_neg h2
  unfold iX dp
  rw [eL]
  dsimp only
  rw [if_neg h2, if_neg h2]
  by_cases hg : 1 < left
  ·have hla : fJ ⟨ph, left, used, inn, ⟨false, s, mem⟩⟩ = false := by
    unfold fJ
    rw [aJ (show ¬ left = 1 by omega), Bool.and_false]
   rw [if_pos (ag (show left - 1 > 0 by omega)), hs inn false s, ab, if_pos hg, hla]
   rfl
  ·have hl1 : left = 1 := by omega
   rw [if_neg (by simp; omega), if_neg hg]
   by_cases p1 : ph = 1
   ·have hla : fJ ⟨ph, left, used, inn, ⟨false, s, mem⟩⟩ = true := by
     unfold fJ
     rw [p1, hl1]
     rfl
    rw [if_pos (show (ph == 1) = true from ae.2 p1), IX n hl.1, ab, if_pos p1, hla]
    dsimp only
    have := hs inp true (iy s.ret inp)
    dsimp only at this
    rw [this, ab]
    rfl
   ·have hla : fJ ⟨ph, left, used, inn, ⟨false, s, mem⟩⟩ = false := by
     unfold fJ
     rw [aJ p1, aP]
    rw [if_neg (show ¬ (ph == 1) = true by simpa using p1), if_neg p1, hla]
    by_cases p3 : ph = 3
    ·rw [if_pos (show (ph == 3) = true from ae.2 p3), hs inn false s, ab, if_pos p3]
     rfl
    ·rw [if_neg (show ¬ (ph == 3) = true by simpa using p3), hs inn false s, ab, if_neg p3]
     rfl
theorem G1 {l : List cW} {m h : List Int} {st : List ByteArray} (hR : Row l m h st) {s : MS} {i : Nat} {rs : List (Nat × Int)} (hO : Ok l m st s i rs) (h25 : opAt l i = 25) : s.held = 0 := by
 obtain ⟨v, v1, v2⟩ := hO.held
 have hF := hR.fine
 have hi := hO.lt
 have hlast : i + 1 = l.length := by
  have h1 := hF.ends i hi
  unfold lU at h1
  rw [show ((l.getD i (0, 0, 0)).1 == 25) = true from ae.2 h25] at h1
  cases h4 : ((i : Int) == ((l.length - 1 : Nat) : Int))
  ·rw [h4] at h1; cases h1
  ·have := eq_of_beq h4; omega
 have : v = 0 := by
  apply Nat.eq_of_testBit_eq
  intro b
  rw [Nat.zero_testBit]
  cases hb : v.testBit b
  ·rfl
  ·exfalso
   obtain ⟨k, k1, k2, k3⟩ := (v2.2 b).1 hb
   have ho := (eY k1).2
   obtain ⟨j, j1, j2, j3, j4, j5⟩ := hF.closed.op_ k (gM ho) ho
   have := (gq ho j1).1 k1
   have hji : j = i := by omega
   subst hji
   have := pY (l.getD k (0, 0, 0))
   rw [← j4] at this
   unfold opAt at h25
   rw [h25] at this
   rcases this with h | h <;> cases h
 rw [v1, this]
 rfl
theorem G2 : ∀ (v : Fin 256) (a : Fin 8), v.val.testBit a.val = false → v.val ||| 2 ^ a.val = v.val + 2 ^ a.val := by decide +kernel
theorem G3 {l : List cW} {m h : List Int} {st : List ByteArray} (hR : Row l m h st) {s : MS} {i : Nat} {rs : List (Nat × Int)} (hO : Ok l m st s i rs) (h23 : opAt l i = 23) (mem : dq) :
  ∃ v a : Nat, a ≤ 7 ∧ da l i = (a : Int) ∧ s.held = (v : Int) ∧ v + 2 ^ a < 256 ∧ (dN (l.getD i (0, 0, 0)) (m.getD i 0) s mem).held = ((v + 2 ^ a : Nat) : Int) := by
 have hr := hR.fine.right hO.lt
 obtain ⟨v, v1, v2⟩ := hO.held
 obtain ⟨a, ha, ha7⟩ := qT hr (.inl h23)
 have hb : v.testBit a = false := by
  cases hb : v.testBit a
  ·rfl
  ·exfalso
   obtain ⟨k, k1, k2, k3⟩ := (v2.2 a).1 hb
   have := hR.rise i k hO.lt h23 k1 k2
   have k3' : da l k = (a : Int) := k3
   omega
 have ho := G2 ⟨v, v2.1⟩ ⟨a, by omega⟩ hb
 simp only at ho
 have h2 : 2 ^ a < 256 := by have := Nat.pow_lt_pow_right (a := 2) (by omega) (show a < 8 by omega); omega
 have h3 := Nat.or_lt_two_pow (n := 8) v2.1 h2
 refine ⟨v, a, ha7, ha, v1, by omega, ?_⟩
 show (if _ then _ else if _ then _ else _) = _
 rw [if_pos h23, v1]
 show bits .or .i64 (v : Int) (iL (da l i)) = _
 rw [uA ha ha7, ← ho]
 exact BX v (2 ^ a) v2.1 h2
theorem CG {l : List cW} {m h : List Int} {st : List ByteArray} (hR : Row l m h st) {s : MS} {i : Nat} {rs : List (Nat × Int)} (hO : Ok l m st s i rs) (h24 : opAt l i = 24) (mem : dq) :
  ∃ v a : Nat, a ≤ 7 ∧ da l i = (a : Int) ∧ s.held = ((v + 2 ^ a : Nat) : Int) ∧ v + 2 ^ a < 256 ∧ (dN (l.getD i (0, 0, 0)) (m.getD i 0) s mem).held = (v : Int) := by
 have hF := hR.fine
 have hi := hO.lt
 have hr := hR.fine.right hO.lt
 obtain ⟨v, v1, v2⟩ := hO.held
 have h0 := iW (o := (l.getD i (0, 0, 0)).1) (A := (l.getD i (0, 0, 0)).2.1) (B := (l.getD i (0, 0, 0)).2.2) (by rw [show (l.getD i (0, 0, 0)).1 = 24 from h24]; omega) hr
 obtain ⟨a, ha, ha7⟩ : ∃ a : Nat, da l i = (a : Int) ∧ a ≤ 7 := ⟨(da l i).toNat, by unfold da; omega, by unfold da; omega⟩
 obtain ⟨w, w1, w2, w3⟩ := zV v a v2.1 ha7
 obtain ⟨k0, a1, a2, a3, a4, a5, a6, a7⟩ := mM hF hi (.inr h24)
 have h23 : opAt l k0 = 23 ∧ da l k0 = da l i := by
  rcases isOpen_iff.1 a3 with h | h
  ·have : opAt l i = (ends (l.getD k0 (0, 0, 0))).1 := congrArg (·.1) a5
   unfold ends at this
   rw [if_pos (show (l.getD k0 (0, 0, 0)).1 = 21 from h), h24] at this
   cases this
  ·refine ⟨h, ?_⟩
   have : da l i = (ends (l.getD k0 (0, 0, 0))).2.1 := congrArg (·.2.1) a5
   unfold ends at this
   rw [if_neg (show ¬ (l.getD k0 (0, 0, 0)).1 = 21 from fun h2 => by unfold opAt at h; rw [h2] at h; cases h)] at this
   exact this.symm
 have hb : v.testBit a = true := (v2.2 a).2 ⟨k0, by rw [a6, ag rfl, ch], h23.1, by show da l k0 = _; rw [h23.2, ha]⟩
 have hw : w.testBit a = false := by rw [w3]; simp
 have hv : v = w ||| 2 ^ a := Nat.eq_of_testBit_eq fun b => by
  rw [Nat.testBit_or, Nat.testBit_two_pow, w3]
  by_cases hab : a = b
  ·subst hab; rw [hb, ag rfl, Bool.or_true]
  ·rw [aJ hab, aZ, show decide (b ≠ a) = true from ag (fun h => hab h.symm), Bool.and_true]
 have ho := G2 ⟨w, w2⟩ ⟨a, by omega⟩ hw
 simp only at ho
 refine ⟨w, a, ha7, ha, by rw [v1, hv, ho], by rw [← ho, ← hv]; exact v2.1, ?_⟩
 show (if _ then _ else if _ then _ else _) = _
 rw [if_neg (show ¬ opAt l i = 23 by omega), if_pos (show opAt l i = 24 from h24), v1]
 show bits .andNot .i64 (v : Int) (iL (da l i)) = _
 rw [uA ha ha7]
 exact w1
theorem I5 {l : List cW} {m h : List Int} {st : List ByteArray} (hR : Row l m h st) {t : TM} (ht : TOk t) {x : IS} (hx : IOk t l m st x) (h5 : x.ph ≠ 5) (inp : List Int) : IOk t l m st (dp t l m inp x) := by
 obtain ⟨x1, x2, x3, x4, x5, x6, x7⟩ := hx
 obtain ⟨ph, left, used, inn, ⟨on, s, mem⟩⟩ := x
 simp only at x1 x2 x3 x4 x5 x6 x7 h5
 have hl0 := ht.l0
 have hl1 := ht.l1
 have hc0 := ht.c0
 have hc1 := ht.c1
 have hs0 := ht.s0
 have hs1 := ht.s1
 have hc : ph = 0 ∨ ph = 1 ∨ ph = 2 ∨ ph = 3 ∨ ph = 4 := by omega
 by_cases h2 : ph = 2
 ·subst h2
  obtain ⟨i, rs, hO⟩ := x6 rfl
  have hp : s.at_ = (i : Int) := hO.place
  have hi : s.at_.toNat = i := by rw [hp]; exact af i
  have x4' : on = true := x4
  subst x4'
  have h1 := x5 rfl
  subst h1
  have e1 : fa l m ⟨true, s, mem⟩ = ⟨decide ((l.getD i (0, 0, 0)).1 ≠ 25), dN (l.getD i (0, 0, 0)) (m.getD i 0) s mem, lW (l.getD i (0, 0, 0)) s mem⟩ := by
   unfold fa
   rw [if_pos rfl]
   dsimp only
   rw [hi]
  have eN : dp t l m inp ⟨2, 1, used, inn, ⟨true, s, mem⟩⟩ = ⟨(dX t 2 (if (l.getD i (0, 0, 0)).1 = 25 then 0 else 1)).1, (dX t 2 (if (l.getD i (0, 0, 0)).1 = 25 then 0 else 1)).2, used + 1, inn, ⟨decide ((l.getD i (0, 0, 0)).1 ≠ 25), dN (l.getD i (0, 0, 0)) (m.getD i 0) s mem, lW (l.getD i (0, 0, 0)) s mem⟩⟩ := by
   unfold dp
   rw [if_pos rfl, e1]
   unfold iM
   rw [if_pos rfl]
   show _ = _
   unfold gG
   dsimp only
   rw [hi]
   rfl
  rw [eN]
  by_cases h25 : opAt l i = 25
  ·have hh := G1 hR hO h25
   rw [if_pos h25]
   refine ⟨by show 0 ≤ (3 : Int) ∧ (3 : Int) ≤ 5; omega, by show 1 ≤ t.co ∧ t.co ≤ 100; omega, by show 0 ≤ used + 1; omega, ?_, (fun h => by cases h), (fun h => by cases h), fun _ => ?_⟩
   ·show decide (opAt l i ≠ 25) = decide ((3 : Int) = 2)
    rw [h25]
    rfl
   ·show (if _ then _ else if _ then _ else _) = _
    rw [if_neg (show ¬ opAt l i = 23 by omega), if_neg (show ¬ opAt l i = 24 by omega)]
    exact hh
  ·rw [if_neg h25]
   obtain ⟨q, rs', hq, _⟩ := (tM hR hO mem h25).ex
   refine ⟨by show 0 ≤ (2 : Int) ∧ (2 : Int) ≤ 5; omega, by show 1 ≤ (1 : Int) ∧ (1 : Int) ≤ 100; omega, by show 0 ≤ used + 1; omega, ?_, fun _ => rfl, fun _ => ⟨q, rs', hq⟩, fun h => ?_⟩
   ·show decide (opAt l i ≠ 25) = decide ((2 : Int) = 2)
    rw [ag h25]
    rfl
   ·have h' : (3 : Int) ≤ 2 := h
    omega
 ·have x4' : on = false := x4.trans (aJ h2)
  subst x4'
  have eL : iM l ⟨ph, left, used, inn, ⟨false, s, mem⟩⟩ = left - 1 := if_neg h2
  unfold dp
  rw [eL]
  dsimp only
  rw [if_neg h2]
  by_cases hg : 1 < left
  ·have hla : fJ ⟨ph, left, used, inn, ⟨false, s, mem⟩⟩ = false := by
    unfold fJ
    rw [aJ (show ¬ left = 1 by omega), Bool.and_false]
   have hs : dX t ph (left - 1) = (ph, left - 1) := if_pos (by omega)
   rw [hla, hs]
   exact ⟨x1, by show 1 ≤ left - 1 ∧ left - 1 ≤ 100; omega, by show 0 ≤ used + 1; omega, by show false = decide (ph = 2); rw [aJ h2], fun h => absurd h h2, fun h => absurd h h2, x7⟩
  ·have hl1 : left = 1 := by omega
   subst hl1
   rcases hc with rfl | rfl | rfl | rfl | rfl
   ·exact ⟨by show 0 ≤ (1 : Int) ∧ (1 : Int) ≤ 5; omega, by show 1 ≤ t.la ∧ t.la ≤ 100; omega, by show 0 ≤ used + 1; omega, rfl, (fun h => by cases h), (fun h => by cases h), fun h => by have h' : (3 : Int) ≤ 1 := h; omega⟩
   ·exact ⟨by show 0 ≤ (2 : Int) ∧ (2 : Int) ≤ 5; omega, by show 1 ≤ (1 : Int) ∧ (1 : Int) ≤ 100; omega, by show 0 ≤ used + 1; omega, rfl, fun _ => rfl, fun _ => ⟨0, [], IW hR s.ret inp⟩, fun h => by have h' : (3 : Int) ≤ 2 := h; omega⟩
   ·exact absurd rfl h2
   ·have hh := x7 (by omega)
    by_cases hs : t.sw = 0
    ·have e : dX t 3 (1 - 1) = (5, 1) := by
      unfold dX
      rw [if_neg (by decide), if_neg (by decide), if_neg (by decide), if_neg (by decide), if_pos rfl, if_pos hs]
     rw [e]
     exact ⟨by show 0 ≤ (5 : Int) ∧ (5 : Int) ≤ 5; omega, by show 1 ≤ (1 : Int) ∧ (1 : Int) ≤ 100; omega, by show 0 ≤ used + 1; omega, rfl, (fun h => by cases h), (fun h => by cases h), fun _ => hh⟩
    ·have e : dX t 3 (1 - 1) = (4, t.sw) := by
      unfold dX
      rw [if_neg (by decide), if_neg (by decide), if_neg (by decide), if_neg (by decide), if_pos rfl, if_neg hs]
     rw [e]
     exact ⟨by show 0 ≤ (4 : Int) ∧ (4 : Int) ≤ 5; omega, by show 1 ≤ t.sw ∧ t.sw ≤ 100; omega, by show 0 ≤ used + 1; omega, rfl, (fun h => by cases h), (fun h => by cases h), fun _ => hh⟩
   ·have hh := x7 (by omega)
    exact ⟨by show 0 ≤ (5 : Int) ∧ (5 : Int) ≤ 5; omega, by show 1 ≤ (1 : Int) ∧ (1 : Int) ≤ 100; omega, by show 0 ≤ used + 1; omega, rfl, (fun h => by cases h), (fun h => by cases h), fun _ => hh⟩
def uB (x : IS) : Int := if x.ph < 2 then 0 else x.c.s.held
abbrev wx (v : Int) (k : Nat) : Bool := bits .and .i64 (v.fdiv (2 ^ (min ((k : Int)).toNat 64))) 1 == 1
theorem J2 : ∀ (v : Fin 256) (k : Fin 8), (bits .and .u64 ((IntKind.wrap .u64 ((v.val : Nat) : Int)).fdiv (2 ^ (min ((k.val : Nat) : Int).toNat 64))) 1 == 1) = wx ((v.val : Nat) : Int) k.val := by decide +kernel
def tQ (v : Int) (hs : List Int) : Nat → Nat → Int → Int
 | 0, _, p => p
 | r + 1, k, p => tQ v hs r (k + 1) (if wx v k = true then (if hs.getD k 0 > p then hs.getD k 0 else p) else p)
theorem Ck (v : Int) (hs : List Int) (r k : Nat) (p : Int) : tQ v hs (r + 1) k p = tQ v hs r (k + 1) (if wx v k = true then (if hs.getD k 0 > p then hs.getD k 0 else p) else p) := rfl
theorem G4 (n : Nat) (hn : 8 < n) (p : Int) {v : Nat} (hv : v < 256) {hs : List Int} (hh : hs.length ≤ 8) : j8 n p (v : Int) hs = some (tQ (v : Int) hs hs.length 0 p) := by
 have key : ∃ r, ko n ((v : Int), p, hs, (hs.length : Int), 0) = some r ∧ r = tQ (v : Int) hs hs.length 0 p := by
  show ∃ r, it _ n _ = some r ∧ _
  refine ju (fun f x => ∃ (k : Nat) (q : Int), k ≤ hs.length ∧ hs.length < f + k ∧ tQ (v : Int) hs (hs.length - k) k q = tQ (v : Int) hs hs.length 0 p ∧ x = ((v : Int), q, hs, (hs.length : Int), (k : Int))) _ (fun x ⟨k, q, h1, h2, _⟩ => by omega) ?_ n _ ⟨0, p, by omega, by omega, rfl, rfl⟩
  rintro f x F hF ⟨k, q, h1, h2, h3, rfl⟩
  show ∃ r, jt n F (v : Int) q hs (hs.length : Int) (k : Int) = some r ∧ _
  unfold jt
  rcases am k hs.length with hk | hk
  ·rw [if_pos (ag (by omega)), if_pos (cY hk), if_neg (by simp), dH (by omega), J2 ⟨v, hv⟩ ⟨k, by omega⟩]
   rw [show hs.length - k = (hs.length - (k + 1)) + 1 by omega] at h3
   rw [Ck] at h3
   rw [af]
   by_cases hb : wx (v : Int) k = true
   ·rw [if_pos hb]
    rw [if_pos hb] at h3
    exact hF _ ⟨k + 1, _, by omega, by omega, h3, rfl⟩
   ·rw [if_neg hb]
    rw [if_neg hb] at h3
    exact hF _ ⟨k + 1, _, by omega, by omega, h3, rfl⟩
  ·have : k = hs.length := by omega
   subst this
   rw [if_neg (by simp)]
   rw [bi] at h3
   exact ⟨_, rfl, h3⟩
 obtain ⟨r, e1, e2⟩ := key
 unfold j8
 rw [e1, e2]
 rfl
theorem wy (x lo : Int) (h : lo ≤ 100) : (x == (if (if (100 : Int) < x then 100 else x) > lo then (if (100 : Int) < x then 100 else x) else lo)) = (decide (lo ≤ x) && decide (x ≤ 100)) := by
 rw [bo, ae, ai, aj, aj]
 split <;> split <;> omega
def qd (t : TM) : Bool := (decide ((0 : Int) ≤ t.sw) && decide (t.sw ≤ 100)) && ((decide ((1 : Int) ≤ t.la) && decide (t.la ≤ 100)) && (decide ((1 : Int) ≤ t.co) && decide (t.co ≤ 100)))
theorem I6 (n : Nat) (a b c : Int) : gR n (a, (b, c)) = some (qd ⟨a, b, c⟩) := by
 unfold gR qd
 dsimp only
 rw [wy a 0 (by omega), wy b 1 (by omega), wy c 1 (by omega)]
theorem times_ok {t : TM} : qd t = true ↔ TOk t := by
 unfold qd
 simp only [ai, aj]
 exact ⟨fun ⟨⟨a, b⟩, ⟨c, d⟩, e, f⟩ => ⟨a, b, c, d, e, f⟩, fun ⟨a, b, c, d, e, f⟩ => ⟨⟨a, b⟩, ⟨c, d⟩, e, f⟩⟩
abbrev RX : MS := ⟨z8, 0, [], z8, z16, z16, 0, [], 0, 0, 0⟩
abbrev jR (t : TM) (s : MS) (mem : dq) : IS := ⟨(dX t 0 t.sw).1, (dX t 0 t.sw).2, 0, z16, ⟨false, s, mem⟩⟩
theorem I7 {t : TM} (ht : TOk t) (l : List cW) (m : List Int) (st : List ByteArray) (s : MS) (mem : dq) : IOk t l m st (jR t s mem) := by
 obtain ⟨s0, s1, l0, l1, c0, c1⟩ := ht
 by_cases h : t.sw = 0
 ·have e : dX t 0 t.sw = (1, t.la) := by unfold dX; rw [if_neg (fun h2 => h2 h), if_pos rfl]
  unfold jR
  rw [e]
  exact ⟨by show 0 ≤ (1 : Int) ∧ (1 : Int) ≤ 5; omega, ⟨l0, l1⟩, by show (0 : Int) ≤ 0; omega, rfl, (fun h => by cases h), (fun h => by cases h), fun h => by have h' : (3 : Int) ≤ 1 := h; omega⟩
 ·have e : dX t 0 t.sw = (0, t.sw) := by unfold dX; rw [if_pos h]
  unfold jR
  rw [e]
  exact ⟨by show 0 ≤ (0 : Int) ∧ (0 : Int) ≤ 5; omega, ⟨by show 1 ≤ t.sw; omega, s1⟩, by show (0 : Int) ≤ 0; omega, rfl, (fun h => by cases h), (fun h => by cases h), fun h => by have h' : (3 : Int) ≤ 0 := h; omega⟩
theorem J3 : fq 30000 = some true := by kernel_rfl
theorem J4 {t : TM} {ph q : Int} (h : 2 ≤ ph) : 2 ≤ (dX t ph q).1 := by
 unfold dX
 split
 ·exact h
 ·rw [if_neg (by omega), if_neg (by omega)]
  split
  ·show (2 : Int) ≤ 3; omega
  ·split
   ·split
    ·show (2 : Int) ≤ 5; omega
    ·show (2 : Int) ≤ 4; omega
   ·split
    ·show (2 : Int) ≤ 5; omega
    ·exact h
structure WOk (t : TM) (x : IS) : Prop where
 w0 : x.ph = 0 → x.used + x.left = t.sw
 w1 : x.ph = 1 → x.used + x.left = t.sw + t.la
theorem G5 {t : TM} {l : List cW} {m : List Int} (inp : List Int) {x : IS} (h0 : 0 ≤ x.ph) (hl : 1 ≤ x.left) (hw : WOk t x) : WOk t (dp t l m inp x) := by
 obtain ⟨w0, w1⟩ := hw
 obtain ⟨ph, left, used, inn, c⟩ := x
 simp only at h0 hl w0 w1
 by_cases h2 : 2 ≤ ph
 ·have := J4 (t := t) (q := iM l ⟨ph, left, used, inn, c⟩) h2
  exact ⟨fun h => by have h' : (dX t ph (iM l ⟨ph, left, used, inn, c⟩)).1 = 0 := h; omega, fun h => by have h' : (dX t ph (iM l ⟨ph, left, used, inn, c⟩)).1 = 1 := h; omega⟩
 ·have eL : iM l ⟨ph, left, used, inn, c⟩ = left - 1 := if_neg (show ¬ ph = 2 by omega)
  have e : (dp t l m inp ⟨ph, left, used, inn, c⟩).ph = (dX t ph (left - 1)).1 ∧ (dp t l m inp ⟨ph, left, used, inn, c⟩).left = (dX t ph (left - 1)).2 ∧ (dp t l m inp ⟨ph, left, used, inn, c⟩).used = used + 1 := by
   unfold dp
   rw [eL]
   exact ⟨rfl, rfl, rfl⟩
  constructor <;> rw [e.1, e.2.1, e.2.2] <;> (
   have hc : ph = 0 ∨ ph = 1 := by omega
   by_cases h1 : left - 1 = 0
   ·rw [h1]
    rcases hc with rfl | rfl
    ·have := w0 rfl
     have e : dX t 0 0 = (1, t.la) := rfl
     rw [e]
     dsimp only
     omega
    ·have e : dX t 1 0 = (2, 1) := rfl
     rw [e]
     dsimp only
     omega
   ·have e : dX t ph (left - 1) = (ph, left - 1) := if_pos h1
    rw [e]
    dsimp only
    intro h
    rcases hc with rfl | rfl
    ·have := w0 rfl; omega
    ·have := w1 rfl; omega)
theorem Cl {t : TM} {x : IS} (hw : WOk t x) (h : fJ x = true) : x.used + 1 = t.sw + t.la := by
 unfold fJ at h
 rw [ai, aj, aj] at h
 have := hw.w1 h.1
 omega
theorem EU {t : TM} (s : MS) (mem : dq) : WOk t (jR t s mem) := by
 by_cases h : t.sw = 0
 ·have e : dX t 0 t.sw = (1, t.la) := by unfold dX; rw [if_neg (fun h2 => h2 h), if_pos rfl]
  unfold jR
  rw [e]
  exact ⟨(fun h => by cases h), fun _ => show (0 : Int) + t.la = t.sw + t.la by omega⟩
 ·have e : dX t 0 t.sw = (0, t.sw) := by unfold dX; rw [if_pos h]
  unfold jR
  rw [e]
  exact ⟨fun _ => show (0 : Int) + t.sw = t.sw by omega, fun h => by cases h⟩
structure Meas (b : Int → Int → Int) (P : Int → Int → Prop) (Q : Int → Int → Int → Prop) : Prop where
 bet : B9 b
 zero : P 0 0
 one : ∀ t v, 0 ≤ t → 0 ≤ v ∧ v ≤ 1048577 → P t v → P (t + 1) (mV v 1)
 none_ : ∀ w, Q 0 0 w
 round : ∀ c n w t, 0 ≤ c → 0 ≤ n → 0 ≤ t → 0 ≤ w ∧ w ≤ 1048577 → Q c n w → P t w → Q (c + t + 1) (n + 1) w
 loop : ∀ t v c w A, 0 ≤ t → 0 ≤ v ∧ v ≤ 1048577 → 0 ≤ c → 0 ≤ w ∧ w ≤ 1048577 → 1 ≤ A → P t v → Q c A w → P (t + 1 + c) (mV v (uv w A))
 put : ∀ (D : Nat → Int) (k : Nat) (v t : Int), 0 ≤ v ∧ v ≤ 1048577 → (∀ j, StepsI (D j)) → P t v → P t (gy b D k v k)
 keep : ∀ (D : Nat → Int) (q k : Nat) (v t : Int), 0 ≤ v ∧ v ≤ 1048577 → (∀ j, StepsI (D j)) → D k ≠ -1 → P t (D k) → P t (gy b D q v k)
def RY (t v : Int) : Prop := Pf t ≤ v
def RZ (c n w : Int) : Prop := w + 1 < 1048577 → c ≤ n * (w + 1)
def R0 (t v : Int) : Prop := v ≤ t
def R3 (c n w : Int) : Prop := n * (w + 1) ≤ c
abbrev Dw (b : Int → Int → Int) (l : List cW) (m : List Int) (f a z : Nat) : Nat → Int := gz b (f4 b l m f) l m (z - a) a (jP a)
theorem tR {b : Int → Int → Int} {P : Int → Int → Prop} {Q : Int → Int → Int → Prop} (hM : Meas b P Q) {v t : Int} (hv : 0 ≤ v ∧ v ≤ 1048577) : ∀ (ks : List Nat) {D : Nat → Int} {k : Nat}, (∀ j, StepsI (D j)) → D k ≠ -1 → P t (D k) → P t (ks.foldl (fun g k => gy b g k v) D k)
 | [], D, k, _, _, h => h
 | q :: ks, D, k, hD, hk, h => by
  refine tR hM hv ks (D := gy b D q v) (uw hM.bet hD q hv) ?_ (hM.keep D q k v t hv hD hk h)
  exact mL hM.bet (by omega) [q] (.inl hk)
theorem DO {b : Int → Int → Int} {P : Int → Int → Prop} {Q : Int → Int → Int → Prop} (hM : Meas b P Q) {v t : Int} (hv : 0 ≤ v ∧ v ≤ 1048577) (h : P t v) : ∀ (ks : List Nat) {D : Nat → Int} {k : Nat}, (∀ j, StepsI (D j)) → k ∈ ks → P t (ks.foldl (fun g k => gy b g k v) D k)
 | q :: ks, D, k, hD, hk => by
  by_cases e : k = q
  ·subst e
   refine tR hM hv ks (D := gy b D k v) (uw hM.bet hD k hv) ?_ (hM.put D k v t hv hD h)
   exact mL hM.bet (by omega) [k] (.inr (aM ..))
  ·exact DO hM hv h ks (D := gy b D q v) (uw hM.bet hD q hv) ((aC.1 hk).resolve_left e)
theorem G6 {b : Int → Int → Int} {P : Int → Int → Prop} {Q : Int → Int → Int → Prop} (hM : Meas b P Q) {W : Nat → Nat → Int} {l : List cW} {m : List Int} {i : Nat} {D : Nat → Int} (hD : ∀ k, StepsI (D k)) (hr : cZ (l.getD i (0, 0, 0)) = true) (hW : opAt l i = 21 → StepsI (W (i + 1) (mN m i))) {k : Nat} {t : Int} (hk : D k ≠ -1) (h : P t (D k)) : ic b W l m i D k ≠ -1 ∧ P t (ic b W l m i D k) := by
 unfold ic
 split
 ·exact ⟨hk, h⟩
 ·rename_i hi
  have hDi := (hD i).nn hi
  have hv := p6 hDi.1 (wu hr hW).1
  exact ⟨mL hM.bet (by omega) _ (.inl hk), tR hM hv _ hD hk h⟩
theorem Cm {b : Int → Int → Int} {P : Int → Int → Prop} {Q : Int → Int → Int → Prop} (hM : Meas b P Q) {W : Nat → Nat → Int} {l : List cW} {m : List Int} (hr : ∀ i, i < l.length → cZ (l.getD i (0, 0, 0)) = true) : ∀ (r i : Nat) {D : Nat → Int} {k : Nat} {t : Int}, (∀ k, StepsI (D k)) → r + i ≤ l.length → (∀ k, i ≤ k → k < r + i → opAt l k = 21 → StepsI (W (k + 1) (mN m k))) → D k ≠ -1 → P t (D k) → gz b W l m r i D k ≠ -1 ∧ P t (gz b W l m r i D k)
 | 0, i, D, k, t, hD, hl, hW, hk, h => ⟨hk, h⟩
 | r + 1, i, D, k, t, hD, hl, hW, hk, h => by
  have h1 := G6 hM hD (hr i (by omega)) (hW i (ak _) (by omega)) hk h
  exact Cm hM hr r (i + 1) (wv hM.bet hD (hr i (by omega)) (hW i (ak _) (by omega))) (by omega) (fun k h1 h2 => hW k (by omega) (by omega)) h1.1 h1.2
theorem qY {b : Int → Int → Int} {v : Int} {k : Nat} : ∀ (ks : List Nat) {D : Nat → Int}, (∀ q ∈ ks, q ≠ k) → ks.foldl (fun g k => gy b g k v) D k = D k
 | [], D, h => rfl
 | q :: ks, D, h => by
  refine (qY ks (D := gy b D q v) fun p hp => h p (aB _ hp)).trans ?_
  unfold gy
  rw [if_neg (fun e => h q (aM ..) e.symm)]
theorem yH {b : Int → Int → Int} {W : Nat → Nat → Int} {l : List cW} {m : List Int} {a z : Nat} (hR : Reg l m a z) : ∀ (r i : Nat) {D : Nat → Int} {k : Nat}, a ≤ i → i + r ≤ z → k ≤ i → gz b W l m r i D k = D k
 | 0, i, D, k, _, _, _ => rfl
 | r + 1, i, D, k, ha, hz, hk => by
  show gz b W l m r (i + 1) (ic b W l m i D) k = D k
  rw [yH hR r (i + 1) (by omega) (by omega) (by omega)]
  unfold ic
  split
  ·rfl
  ·exact qY _ fun q hq e => by have := (hR.hop ha (by omega)).2 q hq; omega
theorem Cn {b : Int → Int → Int} {P : Int → Int → Prop} {Q : Int → Int → Int → Prop} (hM : Meas b P Q) {l : List cW} {m h : List Int} (hF : Fine l m h) (f : Nat) {a z : Nat} (hR : Reg l m a z) {i q : Nat} (ha : a ≤ i) (hz : i < z) (hq : q ∈ ml l m i) (hDi : Dw b l m f a z i ≠ -1) {t : Int} (ht : P t (mV (Dw b l m f a z i) (j9 (f4 b l m f) l m i))) :
  Dw b l m f a z q ≠ -1 ∧ P t (Dw b l m f a z q) := by
 have hlt := hR.lt
 have hrr : ∀ i, i < l.length → cZ (l.getD i (0, 0, 0)) = true := fun i hi => hF.right hi
 have hWk : ∀ k, a ≤ k → k < z → opAt l k = 21 → StepsI (f4 b l m f (k + 1) (mN m k)) := fun k k1 k2 k3 => nM hM.bet hF f (hF.reg (by omega) (isOpen_iff.2 (.inl k3)))
 have e : ∀ k, Dw b l m f a z k = gz b (f4 b l m f) l m (z - i - 1) (i + 1) (ic b (f4 b l m f) l m i (gz b (f4 b l m f) l m (i - a) a (jP a))) k := fun k => by
  unfold Dw
  rw [show z - a = (i - a) + ((z - i - 1) + 1) by omega, Cd, show a + (i - a) = i by omega]
  rfl
 have hD0 := p7 hM.bet hrr (W := f4 b l m f) (m := m) (i - a) a (oN a) (by omega) (fun k k1 k2 k3 => hWk k k1 (by omega) k3)
 have ei : Dw b l m f a z i = gz b (f4 b l m f) l m (i - a) a (jP a) i := by
  rw [e i, yH hR (z - i - 1) (i + 1) (by omega) (by omega) (by omega)]
  unfold ic
  split
  ·rfl
  ·exact qY _ fun q hq e => by have := (hR.hop ha hz).2 q hq; omega
 rw [ei] at hDi ht
 have hDn := (hD0 i).nn hDi
 have hc := wu (W := f4 b l m f) (m := m) (hrr i (by omega)) (fun h21 => hWk i ha hz h21)
 have hv := p6 hDn.1 hc.1
 have hst : ic b (f4 b l m f) l m i (gz b (f4 b l m f) l m (i - a) a (jP a)) q ≠ -1 ∧ P t (ic b (f4 b l m f) l m i (gz b (f4 b l m f) l m (i - a) a (jP a)) q) := by
  unfold ic
  rw [if_neg hDi]
  exact ⟨mL hM.bet (by omega) _ (.inr hq), DO hM hv ht _ hD0 hq⟩
 rw [e q]
 exact Cm hM hrr (z - i - 1) (i + 1) (wv hM.bet hD0 (hrr i (by omega)) (fun h21 => hWk i ha hz h21)) (by omega) (fun k k1 k2 k3 => hWk k (by omega) (by omega) k3) hst.1 hst.2
theorem lY {b : Int → Int → Int} {l : List cW} {m : List Int} (f : Nat) {a z : Nat} (hR : Reg l m a z) : Dw b l m f a z a = 0 := by
 unfold Dw
 rw [yH hR (z - a) a (ak _) (by have := hR.le; omega) (ak _)]
 unfold jP
 rw [if_pos rfl]
def InvP (b : Int → Int → Int) (P : Int → Int → Prop) (Q : Int → Int → Int → Prop) (l : List cW) (m : List Int) (f : Nat) : Nat → Nat → Nat → List (Nat × Int) → Int → Prop
 | a, z, i, [], t => 0 ≤ t ∧ Jx l m a z i ∧ Dw b l m f a z i ≠ -1 ∧ P t (Dw b l m f a z i)
 | a, z, i, (k, r) :: rs, t => ∃ t0 c t1, t = t0 + 1 + c + t1 ∧ 0 ≤ t0 ∧ 0 ≤ c ∧ Jx l m a z k ∧ k < z ∧ opAt l k = 21 ∧ Dw b l m f a z k ≠ -1 ∧ P t0 (Dw b l m f a z k) ∧ r ≤ da l k ∧ Q c (da l k - r) (f4 b l m f (k + 1) (mN m k)) ∧ InvP b P Q l m f (k + 1) (mN m k) i rs t1
theorem InvP.nn {b : Int → Int → Int} {P : Int → Int → Prop} {Q : Int → Int → Int → Prop} {l : List cW} {m : List Int} {f : Nat} : ∀ {rs : List (Nat × Int)} {a z i : Nat} {t : Int}, InvP b P Q l m f a z i rs t → 0 ≤ t
 | [], a, z, i, t, h => h.1
 | (k, r) :: rs, a, z, i, t, ⟨t0, c, t1, e, h1, h2, _, _, _, _, _, _, _, h⟩ => by
  have := InvP.nn h
  omega
theorem InvP.in_ {b : Int → Int → Int} {P : Int → Int → Prop} {Q : Int → Int → Int → Prop} {l : List cW} {m h : List Int} (hF : Fine l m h) {f : Nat} : ∀ {rs : List (Nat × Int)} {a z i : Nat} {t : Int}, Reg l m a z → InvP b P Q l m f a z i rs t → a ≤ i ∧ i ≤ z
 | [], a, z, i, t, hR, hI => ⟨hI.2.1.1, hI.2.1.2.1⟩
 | (k, r) :: rs, a, z, i, t, hR, ⟨t0, c, t1, e, h1, h2, h3, h4, h5, _, _, _, _, hI⟩ => by
  have := hR.lt
  have hRk := hF.reg (show k < l.length by omega) (isOpen_iff.2 (.inl h5))
  obtain ⟨j, j1, j2, j3⟩ := hR.loop k h3.1 h4 (isOpen_iff.2 (.inl h5))
  have e2 : mN m k = j := by unfold mN; rw [j1]; rfl
  have := InvP.in_ hF hRk hI
  have := h3.1
  omega
theorem Co {l : List cW} {m h : List Int} (hF : Fine l m h) {k : Nat} (hk : k < l.length) (ho : de l k = true) : ∃ j : Nat, m.getD k 0 = (j : Int) ∧ mN m k = j ∧ k < j ∧ j < l.length ∧ m.getD j 0 = (k : Int) ∧ l.getD j (0, 0, 0) = ends (l.getD k (0, 0, 0)) := by
 obtain ⟨j, j1, j2, j3, j4, j5⟩ := hF.closed.op_ k hk ho
 exact ⟨j, j1, by unfold mN; rw [j1]; rfl, j2, j3, j5, j4⟩
theorem I8 {l : List cW} {m h : List Int} (hF : Fine l m h) {a z : Nat} (hR : Reg l m a z) {i q : Nat} (hI : Jx l m a z i) (hz : i < z) (h21 : opAt l i ≠ 21) (hq : q ∈ dS l i) : Jx l m a z q ∧ q ∈ ml l m i := by
 have hlt := hR.lt
 have hq2 : q ∈ ml l m i := by
  unfold dS at hq
  unfold ml
  rw [if_neg h21]
  split at hq
  ·rename_i h; rw [if_pos h]; exact hq
  ·rename_i h
   rw [if_neg h]
   split at hq
   ·rename_i h2
    rw [if_pos h2]
    rw [aC, ax] at hq
    rw [aC, ax]
    exact hq.symm
   ·rename_i h2
    rw [if_neg h2]
    split at hq
    ·cases hq
    ·exact hq
 have hb := (hR.hop hI.1 hz).2 q hq2
 refine ⟨⟨by have := hI.1; omega, hb.2, fun p h1 h2 h3 => ?_⟩, hq2⟩
 rcases am p i with hp | hp
 ·have := hI.2.2 p h1 hp h3; omega
 ·by_cases e : p = i
  ·subst e; exact absurd h3 h21
  ·-- a jump over the beginning of a loop does not end in it
   have ho := isOpen_iff.2 (.inl h3)
   obtain ⟨j, j1, j2, j3, j4, j5, j6⟩ := Co hF (show p < l.length by omega) ho
   rw [j2]
   rcases am j q with hj | hj
   ·exact hj
   ·exfalso
    have hjmp : (opAt l i = 19 ∨ opAt l i = 20) ∧ q = dt l i := by
     unfold dS at hq
     split at hq
     ·rename_i h; exact ⟨.inl h, ax.1 hq⟩
     ·split at hq
      ·rename_i h2
       rw [aC, ax] at hq
       rcases hq with h | h
       ·omega
       ·exact ⟨.inr h2, h⟩
      ·split at hq
       ·cases hq
       ·have := ax.1 hq; omega
    have e1 := hF.jump_enc (show i < l.length by omega) hjmp.1 p
    rw [← hjmp.2] at e1
    have e2 := (gq ho j1).2 (show p < q ∧ q ≤ j from ⟨h2, hj⟩)
    rw [e1] at e2
    have := (eY e2).1
    omega
def NN (m : List Int) (z : Nat) : List (Nat × Int) → Nat
 | [] => z
 | (k, _) :: rs => NN m (mN m k) rs
theorem InvP.on {b : Int → Int → Int} {P : Int → Int → Prop} {Q : Int → Int → Int → Prop} (hM : Meas b P Q) {l : List cW} {m h : List Int} (hF : Fine l m h) {f : Nat} : ∀ {rs : List (Nat × Int)} {a z i q : Nat} {t : Int}, Reg l m a z → InvP b P Q l m f a z i rs t → i < NN m z rs → opAt l i ≠ 21 → q ∈ dS l i → InvP b P Q l m f a z q rs (t + 1)
 | [], a, z, i, q, t, hR, ⟨h1, h2, h3, h4⟩, hz, h21, hq => by
  have hlt := hR.lt
  have hz2 : i < z := hz
  obtain ⟨r1, r2⟩ := I8 hF hR h2 hz2 h21 hq
  have hS := p7 hM.bet (fun i hi => hF.right hi) (W := f4 b l m f) (m := m) (z - a) a (oN a) (by have := hR.le; omega) (fun k k1 k2 k3 => nM hM.bet hF f (hF.reg (by omega) (isOpen_iff.2 (.inl k3))))
  have hv := (hS i).nn h3
  have hc : j9 (f4 b l m f) l m i = 1 := by unfold j9; rw [if_neg h21]
  obtain ⟨g1, g2⟩ := Cn hM hF f hR h2.1 hz2 r2 h3 (t := t + 1) (by rw [hc]; exact hM.one t _ h1 hv h4)
  exact ⟨by omega, r1, g1, g2⟩
 | (k, r) :: rs, a, z, i, q, t, hR, ⟨t0, c, t1, e, h1, h2, h3, h4, h5, h6, h7, h8, h9, hI⟩, hz, h21, hq => by
  have := hR.lt
  have hRk := hF.reg (show k < l.length by omega) (isOpen_iff.2 (.inl h5))
  exact ⟨t0, c, t1 + 1, by omega, h1, h2, h3, h4, h5, h6, h7, h8, h9, InvP.on hM hF hRk hI hz h21 hq⟩
theorem InvP.into {b : Int → Int → Int} {P : Int → Int → Prop} {Q : Int → Int → Int → Prop} (hM : Meas b P Q) {l : List cW} {m h : List Int} (hF : Fine l m h) {f : Nat} : ∀ {rs : List (Nat × Int)} {a z i : Nat} {t : Int}, Reg l m a z → InvP b P Q l m f a z i rs t → i < NN m z rs → opAt l i = 21 → InvP b P Q l m f a z (i + 1) (rs ++ [(i, da l i)]) (t + 1)
 | [], a, z, i, t, hR, ⟨h1, h2, h3, h4⟩, hz, h21 => by
  have hlt := hR.lt
  have hz2 : i < z := hz
  have hRk := hF.reg (show i < l.length by omega) (isOpen_iff.2 (.inl h21))
  refine ⟨t, 0, 0, by omega, h1, by omega, h2, hz2, h21, h3, h4, bR _, by rw [Int.sub_self]; exact hM.none_ _, by omega, ⟨ak _, hRk.le, fun q h1 h2 _ => by omega⟩, ?_, ?_⟩
  ·rw [lY f hRk]; decide
  ·rw [lY f hRk]; exact hM.zero
 | (k, r) :: rs, a, z, i, t, hR, ⟨t0, c, t1, e, h1, h2, h3, h4, h5, h6, h7, h8, h9, hI⟩, hz, h21 => by
  have := hR.lt
  have hRk := hF.reg (show k < l.length by omega) (isOpen_iff.2 (.inl h5))
  exact ⟨t0, c, t1 + 1, by omega, h1, h2, h3, h4, h5, h6, h7, h8, h9, InvP.into hM hF hRk hI hz h21⟩
theorem G7 {b : Int → Int → Int} {l : List cW} {m h : List Int} (hF : Fine l m h) {f : Nat} (hf : l.length < f) {a z : Nat} (hR : Reg l m a z) : Dw b l m f a z z = f4 b l m f a z := by
 have h1 := hR.lt
 have := zT (b := b) hF (f + 1) f hR (by omega) (by omega)
 exact this
theorem EV {b : Int → Int → Int} {P : Int → Int → Prop} {Q : Int → Int → Int → Prop} (hM : Meas b P Q) {l : List cW} {m h : List Int} (hF : Fine l m h) {f : Nat} (hf : l.length < f) : ∀ {rs : List (Nat × Int)} {a z i k : Nat} {r t : Int}, Reg l m a z → InvP b P Q l m f a z i (rs ++ [(k, r)]) t → i = mN m k → InvP b P Q l m f a z (k + 1) (rs ++ [(k, r - 1)]) (t + 1)
 | [], a, z, i, k, r, t, hR, ⟨t0, c, t1, e, h1, h2, h3, h4, h5, h6, h7, h8, h9, g1, g2, g3, g4⟩, hi => by
  have hlt := hR.lt
  have hRk := hF.reg (show k < l.length by omega) (isOpen_iff.2 (.inl h5))
  subst hi
  rw [G7 hF hf hRk] at g3 g4
  have hw := (nM hM.bet hF f hRk).nn g3
  refine ⟨t0, c + t1 + 1, 0, by omega, h1, by omega, h3, h4, h5, h6, h7, by omega, ?_, by omega, ⟨ak _, hRk.le, fun q h1 h2 _ => by omega⟩, ?_, ?_⟩
  ·have := hM.round c (da l k - r) _ t1 h2 (by omega) g1 hw h9 g4
   rw [show da l k - r + 1 = da l k - (r - 1) by omega] at this
   exact this
  ·rw [lY f hRk]; decide
  ·rw [lY f hRk]; exact hM.zero
 | (k0, r0) :: rs, a, z, i, k, r, t, hR, ⟨t0, c, t1, e, h1, h2, h3, h4, h5, h6, h7, h8, h9, hI⟩, hi => by
  have := hR.lt
  have hRk := hF.reg (show k0 < l.length by omega) (isOpen_iff.2 (.inl h5))
  exact ⟨t0, c, t1 + 1, by omega, h1, h2, h3, h4, h5, h6, h7, h8, h9, EV hM hF hf hRk hI hi⟩
theorem InvP.out {b : Int → Int → Int} {P : Int → Int → Prop} {Q : Int → Int → Int → Prop} (hM : Meas b P Q) {l : List cW} {m h : List Int} (hF : Fine l m h) {f : Nat} (hf : l.length < f) : ∀ {rs : List (Nat × Int)} {a z i k : Nat} {t : Int}, Reg l m a z → InvP b P Q l m f a z i (rs ++ [(k, 1)]) t → i = mN m k → InvP b P Q l m f a z (i + 1) rs (t + 1)
 | [], a, z, i, k, t, hR, ⟨t0, c, t1, e, h1, h2, h3, h4, h5, h6, h7, h8, h9, g1, g2, g3, g4⟩, hi => by
  have hlt := hR.lt
  have hRk := hF.reg (show k < l.length by omega) (isOpen_iff.2 (.inl h5))
  subst hi
  rw [G7 hF hf hRk] at g3 g4
  have hw := (nM hM.bet hF f hRk).nn g3
  have hA := xT (hF.right (show k < l.length by omega)) h5
  have hq := hM.round c (da l k - 1) _ t1 h2 (by omega) g1 hw h9 g4
  rw [show da l k - 1 + 1 = da l k by omega] at hq
  have hS := p7 hM.bet (fun i hi => hF.right hi) (W := f4 b l m f) (m := m) (z - a) a (oN a) (by have := hR.le; omega) (fun k k1 k2 k3 => nM hM.bet hF f (hF.reg (by omega) (isOpen_iff.2 (.inl k3))))
  have hv := (hS k).nn h6
  have hl := hM.loop t0 _ (c + t1 + 1) _ (da l k) h1 hv (by omega) hw hA.1 h7 hq
  have hc : j9 (f4 b l m f) l m k = uv (f4 b l m f (k + 1) (mN m k)) (da l k) := by unfold j9; rw [if_pos h5]
  have hhop : mN m k + 1 ∈ ml l m k := by unfold ml; rw [if_pos h5]; exact ax.2 rfl
  obtain ⟨b1, b2⟩ := Cn hM hF f hR h3.1 h4 hhop h6 (t := t0 + 1 + (c + t1 + 1)) (by rw [hc]; exact hl)
  have hbz := (hR.hop h3.1 h4).2 _ hhop
  obtain ⟨j, j1, j2, j3, j4, j5, j6⟩ := Co hF (show k < l.length by omega) (isOpen_iff.2 (.inl h5))
  refine ⟨by omega, ⟨by have := h3.1; omega, hbz.2, fun p p1 p2 p3 => ?_⟩, b1, ?_⟩
  ·have hpo := isOpen_iff.2 (.inl p3)
   obtain ⟨jp, w1, w2, w3, w4, w5, w6⟩ := Co hF (show p < l.length by omega) hpo
   rcases Nat.lt_trichotomy p k with hp | hp | hp
   ·have := h3.2.2 p p1 hp p3; omega
   ·subst hp; omega
   ·have hpj : p ≠ j := fun e => by
     have := pY (l.getD k (0, 0, 0))
     rw [← j6, ← e] at this
     unfold opAt at p3
     rw [p3] at this
     rcases this with h | h <;> cases h
    obtain ⟨x, x1, x2⟩ := hF.nest.cross k p j hp (by omega) (by omega) (isOpen_iff.2 (.inl h5)) hpo j1
    rw [w1] at x1
    omega
  ·rw [e]
   rw [show t0 + 1 + c + t1 + 1 = t0 + 1 + (c + t1 + 1) by omega]
   exact b2
 | (k0, r0) :: rs, a, z, i, k, t, hR, ⟨t0, c, t1, e, h1, h2, h3, h4, h5, h6, h7, h8, h9, hI⟩, hi => by
  have := hR.lt
  have hRk := hF.reg (show k0 < l.length by omega) (isOpen_iff.2 (.inl h5))
  exact ⟨t0, c, t1 + 1, by omega, h1, h2, h3, h4, h5, h6, h7, h8, h9, InvP.out hM hF hf hRk hI hi⟩
theorem InvP.start {b : Int → Int → Int} {P : Int → Int → Prop} {Q : Int → Int → Int → Prop} (hM : Meas b P Q) {l : List cW} {m : List Int} {f a z : Nat} (hR : Reg l m a z) : InvP b P Q l m f a z a [] 0 :=
 ⟨bR _, ⟨ak _, hR.le, fun q h1 h2 _ => by omega⟩, by rw [lY f hR]; decide, by rw [lY f hR]; exact hM.zero⟩
def R4 (l : List cW) (m : List Int) (i : Nat) (rs : List (Nat × Int)) (q : Nat) (rs' : List (Nat × Int)) : Prop :=
 ∀ (b : Int → Int → Int) (P : Int → Int → Prop) (Q : Int → Int → Int → Prop) (f a z : Nat) (t : Int), Meas b P Q → l.length < f → Reg l m a z → InvP b P Q l m f a z i rs t → i ≠ z → InvP b P Q l m f a z q rs' (t + 1)
def PH (l : List cW) (m : List Int) (i q : Nat) : Prop := ∀ p, opAt l p = 23 → enc l m p q = true → (p = i ∧ opAt l i = 23) ∨ (enc l m p i = true ∧ i ≠ mN m p)
structure NextG (l : List cW) (m : List Int) (st : List ByteArray) (i : Nat) (rs : List (Nat × Int)) (s' : MS) : Prop where
 ex : ∃ q rs', Ok l m st s' q rs' ∧ rz l m q rs' + 1 ≤ rz l m i rs ∧ R4 l m i rs q rs' ∧ PH l m i q
structure Within (l l' : List cW) (m m' : List Int) (p a z : Nat) : Prop where
 ins : ∀ i, a ≤ i → i < z → l'.getD (i + p) (0, 0, 0) = l.getD i (0, 0, 0)
 mat : ∀ i, a ≤ i → i < z → opAt l i = 21 → mN m' (i + p) = mN m i + p
theorem Fine.mat {l : List cW} {m h : List Int} (hF : Fine l m h) {i : Nat} (hi : i < l.length) (e : opAt l i = 21) : m.getD i 0 = ((mN m i : Nat) : Int) ∧ m.getD i 0 ≠ -1 := by
 obtain ⟨j, j1, j2, j3⟩ := hF.nest.open_ i hi (isOpen_iff.2 (.inl e))
 unfold mN
 rw [j1]
 exact ⟨rfl, by omega⟩
structure Both (a b c : List cW) (p : Nat) (ma mb mc : List Int) : Prop where
 len : c.length = p + b.length
 pa : a.length = p + 1
 ia : ∀ i, i < p → c.getD i (0, 0, 0) = a.getD i (0, 0, 0)
 ib : ∀ i, i < b.length → c.getD (i + p) (0, 0, 0) = b.getD i (0, 0, 0)
 mma : ∀ i, i < p → ma.getD i 0 ≠ -1 → mc.getD i 0 = ma.getD i 0
 mmb : ∀ i, i < b.length → mb.getD i 0 ≠ -1 → mc.getD (i + p) 0 = mb.getD i 0 + p
theorem Both.opb {a b c : List cW} {p : Nat} {ma mb mc : List Int} (hB : Both a b c p ma mb mc) {i : Nat} (hi : i < b.length) : opAt c (i + p) = opAt b i ∧ da c (i + p) = da b i ∧ dt c (i + p) = dt b i + p ∧ de c (i + p) = de b i := by
 have e := hB.ib i hi
 unfold opAt da dt de
 rw [e]
 exact ⟨rfl, rfl, by omega, rfl⟩
abbrev zX : dq := [[0, 0, 0, 0, 0, 0, 0, 0], [0, 0, 0, 0, 0, 0, 0, 0], [0, 0, 0, 0, 0, 0, 0, 0], [0, 0, 0, 0, 0, 0, 0, 0], [0, 0, 0, 0, 0, 0, 0, 0], [0, 0, 0, 0, 0, 0, 0, 0], [0, 0, 0, 0, 0, 0, 0, 0], [0, 0, 0, 0, 0, 0, 0, 0]]
def jw (l : List cW) (m : List Int) (c : CS) : CS := ⟨(fa l m ⟨c.on, c.s, zX⟩).on, (fa l m ⟨c.on, c.s, zX⟩).s, zX⟩
theorem NO {l : List cW} {m h : List Int} {st : List ByteArray} (hR : Row l m h st) {c : CS} (hc : xW l m st c) (n : Nat) : (∃ ev e mem, xV n l m c.on c.s zX = some (ev, e, ET l m (jw l m c).on (jw l m c).s mem)) ∧ xW l m st (jw l m c) := by
 obtain ⟨⟨ev, e, a1⟩, a2⟩ := O7 hR (c := ⟨c.on, c.s, zX⟩) hc n
 exact ⟨⟨ev, e, _, a1⟩, a2⟩
def Cp (l : List cW) (m : List Int) : Nat → CS → CS
 | 0, c => c
 | k + 1, c => jw l m (Cp l m k c)
theorem tS {l : List cW} {m : List Int} {c : CS} (h : c.on = false) : (jw l m c).on = false ∧ (jw l m c).s = c.s := by
 unfold jw fa
 rw [if_neg (show ¬ c.on = true by rw [h]; decide)]
 exact ⟨h, rfl⟩
theorem zY {l : List cW} {m h : List Int} {st : List ByteArray} (hR : Row l m h st) {c : CS} (hc : xW l m st c) : ∀ k, xW l m st (Cp l m k c)
 | 0 => hc
 | k + 1 => (NO hR (zY hR hc k) 0).2
theorem wz {l : List cW} {m : List Int} {c : CS} {i : Nat} (h : c.on = true) (hp : c.s.at_ = (i : Int)) : (jw l m c).on = decide (opAt l i ≠ 25) ∧ (jw l m c).s = dN (l.getD i (0, 0, 0)) (m.getD i 0) c.s zX := by
 unfold jw fa
 rw [if_pos (show c.on = true from h)]
 dsimp only
 rw [show c.s.at_.toNat = i by rw [hp]; exact af i]
 exact ⟨rfl, rfl⟩
theorem Cq (a b : Nat) (ha : a < 65536) (hb : b < 65536) : bits .or .i64 (a : Int) (b : Int) = ((a ||| b : Nat) : Int) := by
 have hx : a ||| b < 2 ^ 16 := Nat.or_lt_two_pow (by omega) (by omega)
 show IntKind.i64.wrap ((BitVec.ofInt 64 (a : Int) ||| BitVec.ofInt 64 (b : Int)).toNat : Int) = _
 rw [BitVec.toNat_or, ofInt_u64 a (by omega), ofInt_u64 b (by omega), dd (by omega) (by omega)]
theorem DP {A : Int} {a : Nat} (h : A = (a : Int)) (ha : a ≤ 15) : iL A = ((2 ^ a : Nat) : Int) ∧ 2 ^ a < 65536 := by
 subst h
 have h1 : min ((a : Int)).toNat 64 = a := by rw [af]; omega
 have h2 : 2 ^ a ≤ 2 ^ 15 := Nat.pow_le_pow_right (by omega) ha
 have h3 : ((2 ^ a : Nat) : Int) = (2 : Int) ^ a := by rw [Int.natCast_pow]; rfl
 refine ⟨?_, by omega⟩
 unfold iL
 rw [h1, Int.one_mul, ← h3]
 generalize 2 ^ a = w at h2 ⊢
 rw [dd (by omega) (by omega)]
structure RunI (inp : List Int) (t : Nat) (s : MS) : Prop where
 inp : s.inp = inp
 stp : 0 ≤ s.stp ∧ s.stp ≤ (t : Int)
 set : ∃ x : Nat, s.set = (x : Int) ∧ x < 65536
theorem Cr {x : cW} {mt : Int} {s : MS} {mem : dq} (hr : cZ x = true) {v : Nat} (hv : s.set = (v : Int)) (hv2 : v < 65536) : ∃ b : Nat, b < 65536 ∧ (∀ s' : MS, ∀ w : Nat, s'.set = (w : Int) → w < 65536 → ∀ mt' mem', (dN x mt' s' mem').set = ((w ||| b : Nat) : Int)) := by
 by_cases h16 : x.1 = 16
 ·have ha := nO (o := x.1) (A := x.2.1) (B := x.2.2) (.inr h16) hr
  obtain ⟨b1, b2⟩ := DP (A := x.2.1) (a := x.2.1.toNat) (by omega) (by omega)
  refine ⟨2 ^ x.2.1.toNat, b2, fun s' w hw hw2 mt' mem' => ?_⟩
  show (if x.1 = 16 then bits .or .i64 s'.set (iL x.2.1) else s'.set) = _
  rw [if_pos h16, hw, b1, Cq w _ hw2 b2]
 ·refine ⟨0, by omega, fun s' w hw hw2 mt' mem' => ?_⟩
  show (if x.1 = 16 then bits .or .i64 s'.set (iL x.2.1) else s'.set) = _
  rw [if_neg h16, hw, Nat.or_zero]
theorem RunI.step {l : List cW} {m h : List Int} {st : List ByteArray} (hR : Row l m h st) {inp : List Int} {t : Nat} {c : CS} (hc : xW l m st c) (hI : RunI inp t c.s) (ht : t < 1000000) : RunI inp (t + 1) (jw l m c).s := by
 cases hon : c.on with
 | false =>
  rw [(tS (l := l) (m := m) hon).2]
  exact ⟨hI.inp, ⟨hI.stp.1, by have := hI.stp.2; omega⟩, hI.set⟩
 | true =>
  obtain ⟨i, rs, hO⟩ := hc hon
  rw [(wz (l := l) (m := m) hon hO.place).2]
  have hs := hI.stp
  obtain ⟨x, x1, x2⟩ := hI.set
  obtain ⟨b, b1, b2⟩ := Cr (mt := 0) (mem := zX) (hR.fine.right hO.lt) x1 x2
  refine ⟨hI.inp, ?_, x ||| b, b2 c.s x x1 x2 _ _, Nat.or_lt_two_pow (n := 16) x2 b1⟩
  show 0 ≤ wrap .i64 (c.s.stp + 1) ∧ wrap .i64 (c.s.stp + 1) ≤ _
  rw [dd (by omega) (by omega)]
  omega
theorem RunI.run {l : List cW} {m h : List Int} {st : List ByteArray} (hR : Row l m h st) {inp : List Int} {c : CS} (hc : xW l m st c) (hI : RunI inp 0 c.s) : ∀ t, t < 1000000 → RunI inp t (Cp l m t c).s
 | 0, _ => hI
 | t + 1, ht => (RunI.run hR hc hI t (by omega)).step hR (zY hR hc t) (by omega)
structure RelB (p : Nat) (S : MS) (T U : CS) : Prop where
 on : U.on = T.on
 at_ : U.s.at_ = T.s.at_ + p
 stk : U.s.stk = T.s.stk
 rds : U.s.rds = T.s.rds
 held : U.s.held = T.s.held
 inp : U.s.inp = T.s.inp
 stp : U.s.stp = S.stp + T.s.stp
 set : ∃ x y : Nat, S.set = (x : Int) ∧ T.s.set = (y : Int) ∧ U.s.set = ((x ||| y : Nat) : Int) ∧ x < 65536 ∧ y < 65536
theorem RelB.step {a b c : List cW} {p : Nat} {ma mb mc hb : List Int} {sb : List ByteArray} (hB : Both a b c p ma mb mc) (hR : Row b mb hb sb) (h11 : ∀ k, k < b.length → opAt b k ≠ 11 ∧ opAt b k ≠ 13) {S : MS} {T U : CS} (hT : xW b mb sb T) (h : RelB p S T U) (hs : 0 ≤ S.stp ∧ S.stp ≤ 1000000) (ht : 0 ≤ T.s.stp ∧ T.s.stp ≤ 1000000) : RelB p S (jw b mb T) (jw c mc U) := by
 cases hon : T.on with
 | false =>
  have e1 := tS (l := b) (m := mb) hon
  have e2 := tS (l := c) (m := mc) (h.on.trans hon)
  refine ⟨e2.1.trans e1.1.symm, ?_, ?_, ?_, ?_, ?_, ?_, ?_⟩ <;> rw [e1.2, e2.2]
  ·exact h.at_
  ·exact h.stk
  ·exact h.rds
  ·exact h.held
  ·exact h.inp
  ·exact h.stp
  ·exact h.set
 | true =>
  obtain ⟨i, rs, hO⟩ := hT hon
  have hi := hO.lt
  have hp := hO.place
  have hpU : U.s.at_ = ((i + p : Nat) : Int) := by rw [h.at_, hp]; omega
  have e1 := wz (l := b) (m := mb) hon hp
  have e2 := wz (l := c) (m := mc) (h.on.trans hon) hpU
  have hr := hR.fine.right hi
  have hm : opAt b i = 22 → mc.getD (i + p) 0 = mb.getD i 0 + p := fun h22 => by
   obtain ⟨k, k1, _⟩ := hR.fine.closed.cl i hi (.inl h22)
   exact hB.mmb i hi (by rw [k1]; omega)
  rw [hB.ib i hi] at e2
  obtain ⟨x, y, s1, s2, s3, s4, s5⟩ := h.set
  obtain ⟨w, w1, w2⟩ := Cr (mt := 0) (mem := zX) hr s2 s5
  obtain ⟨n11, n13⟩ := h11 i hi
  unfold opAt at hm n11 n13
  have eop := (hB.opb hi).1
  unfold opAt at eop
  refine ⟨?_, ?_, ?_, ?_, ?_, ?_, ?_, x, y ||| w, s1, ?_, ?_, s4, Nat.or_lt_two_pow (n := 16) s5 w1⟩
  ·rw [e1.1, e2.1]
   unfold opAt
   rw [eop]
  all_goals try rw [e1.2]
  all_goals try rw [e2.2]
  ·show et _ _ _ = et _ _ _ + _
   unfold et
   rw [h.at_, h.stk, h.rds]
   split
   ·omega
   ·split
    ·split <;> omega
    ·split
     ·rename_i h22
      rw [hm h22]
      split <;> omega
     ·omega
  ·show fT _ _ _ = fT _ _ _
   unfold fT
   rw [h.stk, h.inp, if_neg n11, if_neg n13, if_neg n11, if_neg n13]
  ·show gF _ _ = gF _ _
   unfold gF
   rw [h.rds]
  ·show (if _ then _ else if _ then _ else _) = (if _ then _ else if _ then _ else _)
   rw [h.held]
  ·exact h.inp
  ·show wrap .i64 (U.s.stp + 1) = S.stp + wrap .i64 (T.s.stp + 1)
   have := h.stp
   rw [dd (by omega) (by omega), dd (by omega) (by omega)]
   omega
  ·exact w2 _ _ s2 s5 _ _
  ·rw [w2 _ _ s3 (Nat.or_lt_two_pow (n := 16) s4 s5) _ _, Nat.or_assoc]
theorem xY {t : TM} {l : List cW} {m : List Int} {st : List ByteArray} {x : IS} (hx : IOk t l m st x) (h5 : x.ph ≠ 5) (inp : List Int) :
  (x.ph = 0 ∧ iX l x = (0, 0) ∧ ((1 < x.left ∧ (dp t l m inp x).ph = 0 ∧ (dp t l m inp x).left = x.left - 1) ∨ (x.left = 1 ∧ (dp t l m inp x).ph = 1 ∧ (dp t l m inp x).left = t.la))) ∨
  (x.ph = 1 ∧ ((1 < x.left ∧ iX l x = (0, 0) ∧ (dp t l m inp x).ph = 1 ∧ (dp t l m inp x).left = x.left - 1) ∨ (x.left = 1 ∧ iX l x = (1, 0) ∧ (dp t l m inp x).ph = 2 ∧ (dp t l m inp x).left = 1))) ∨
  (x.ph = 2 ∧ ((iX l x).1 = 0 ∨ (iX l x).1 = 2 ∨ (iX l x).1 = 3) ∧ (((gG l x).1 = 25 ∧ (dp t l m inp x).ph = 3 ∧ (dp t l m inp x).left = t.co) ∨ ((gG l x).1 ≠ 25 ∧ (dp t l m inp x).ph = 2 ∧ (dp t l m inp x).left = 1))) ∨
  (x.ph = 3 ∧ ((1 < x.left ∧ iX l x = (0, 0) ∧ (dp t l m inp x).ph = 3 ∧ (dp t l m inp x).left = x.left - 1) ∨ (x.left = 1 ∧ iX l x = (4, 0) ∧ ((t.sw = 0 ∧ (dp t l m inp x).ph = 5 ∧ (dp t l m inp x).left = 1) ∨ (t.sw ≠ 0 ∧ (dp t l m inp x).ph = 4 ∧ (dp t l m inp x).left = t.sw))))) ∨
  (x.ph = 4 ∧ iX l x = (0, 0) ∧ ((1 < x.left ∧ (dp t l m inp x).ph = 4 ∧ (dp t l m inp x).left = x.left - 1) ∨ (x.left = 1 ∧ (dp t l m inp x).ph = 5 ∧ (dp t l m inp x).left = 1))) := by
 obtain ⟨x1, x2, x3, x4, x5, x6, x7⟩ := hx
 obtain ⟨ph, left, used, inn, c⟩ := x
 simp only at x1 x2 x3 x4 x5 x6 x7 h5
 have hc : ph = 0 ∨ ph = 1 ∨ ph = 2 ∨ ph = 3 ∨ ph = 4 := by omega
 have eP : (dp t l m inp ⟨ph, left, used, inn, c⟩).ph = (dX t ph (iM l ⟨ph, left, used, inn, c⟩)).1 := rfl
 have eQ : (dp t l m inp ⟨ph, left, used, inn, c⟩).left = (dX t ph (iM l ⟨ph, left, used, inn, c⟩)).2 := rfl
 by_cases h2 : ph = 2
 ·subst h2
  have h1 := x5 rfl
  subst h1
  right; right; left
  refine ⟨rfl, ?_, ?_⟩
  ·unfold iX
   rw [if_pos rfl]
   split
   ·exact .inr (.inl rfl)
   ·split
    ·exact .inr (.inr rfl)
    ·exact .inl rfl
  ·rw [eP, eQ]
   unfold iM
   rw [if_pos rfl]
   by_cases h25 : (gG l ⟨2, 1, used, inn, c⟩).1 = 25
   ·rw [if_pos h25]
    exact .inl ⟨h25, rfl, rfl⟩
   ·rw [if_neg h25]
    exact .inr ⟨h25, rfl, rfl⟩
 ·have eL : iM l ⟨ph, left, used, inn, c⟩ = left - 1 := if_neg h2
  rw [eP, eQ, eL]
  by_cases hg : 1 < left
  ·have hs : dX t ph (left - 1) = (ph, left - 1) := if_pos (by omega)
   have hE : iX l ⟨ph, left, used, inn, c⟩ = (0, 0) := by
    unfold iX
    rw [if_neg h2, if_pos hg]
   rw [hs, hE]
   rcases hc with rfl | rfl | rfl | rfl | rfl
   ·exact .inl ⟨rfl, rfl, .inl ⟨hg, rfl, rfl⟩⟩
   ·exact .inr (.inl ⟨rfl, .inl ⟨hg, rfl, rfl, rfl⟩⟩)
   ·exact absurd rfl h2
   ·exact .inr (.inr (.inr (.inl ⟨rfl, .inl ⟨hg, rfl, rfl, rfl⟩⟩)))
   ·exact .inr (.inr (.inr (.inr ⟨rfl, rfl, .inl ⟨hg, rfl, rfl⟩⟩)))
  ·have hl1 : left = 1 := by omega
   subst hl1
   rcases hc with rfl | rfl | rfl | rfl | rfl
   ·exact .inl ⟨rfl, rfl, .inr ⟨rfl, rfl, rfl⟩⟩
   ·exact .inr (.inl ⟨rfl, .inr ⟨rfl, rfl, rfl, rfl⟩⟩)
   ·exact absurd rfl h2
   ·refine .inr (.inr (.inr (.inl ⟨rfl, .inr ⟨rfl, rfl, ?_⟩⟩)))
    by_cases hs : t.sw = 0
    ·have e : dX t 3 (1 - 1) = (5, 1) := by
      unfold dX
      rw [if_neg (by decide), if_neg (by decide), if_neg (by decide), if_neg (by decide), if_pos rfl, if_pos hs]
     rw [e]
     exact .inl ⟨hs, rfl, rfl⟩
    ·have e : dX t 3 (1 - 1) = (4, t.sw) := by
      unfold dX
      rw [if_neg (by decide), if_neg (by decide), if_neg (by decide), if_neg (by decide), if_pos rfl, if_neg hs]
     rw [e]
     exact .inr ⟨hs, rfl, rfl⟩
   ·exact .inr (.inr (.inr (.inr ⟨rfl, rfl, .inr ⟨rfl, rfl, rfl⟩⟩)))
structure UOk (t : TM) (l : List cW) (m : List Int) (st : List ByteArray) (f : Nat) (w : Int) (inp : List Int) (x : IS) : Prop where
 ok : IOk t l m st x
 wh : WOk t x
 u2 : x.ph = 2 → x.used = t.sw + t.la + x.c.s.stp
 run : x.ph = 2 → ∃ i rs, Ok l m st x.c.s i rs ∧ InvP bM RY RZ l m f 0 (l.length - 1) i rs x.c.s.stp
 stp : 2 ≤ x.ph → 0 ≤ x.c.s.stp ∧ x.c.s.stp ≤ w
 u3 : x.ph = 3 → x.used + x.left = t.sw + t.la + t.co + x.c.s.stp
 u4 : x.ph = 4 → x.used + x.left = t.sw + t.la + t.co + t.sw + x.c.s.stp
 u5 : x.ph = 5 → x.used = t.sw + t.la + t.co + t.sw + x.c.s.stp
 inn : 2 ≤ x.ph → x.inn = inp
structure VOk (t : TM) (l : List cW) (m : List Int) (st : List ByteArray) (f : Nat) (w : Int) (inp : List Int) (x : IS) : Prop where
 u : UOk t l m st f w inp x
 lo : x.ph = 2 → ∃ i rs, Ok l m st x.c.s i rs ∧ InvP bL R0 R3 l m f 0 (l.length - 1) i rs x.c.s.stp
 fin : 3 ≤ x.ph → w ≤ x.c.s.stp ∧ x.c.s.stk.length ≤ 16 ∧ x.c.s.rds.length ≤ 200
def fA (x : Int) : Prop := -9223372036854775808 ≤ x ∧ x ≤ 9223372036854775807
theorem f5 (x : Int) : fA (wrap .i64 x) := by
 unfold fA
 rw [IntKind.wrap_i64]
 omega
theorem I9 (x : Int) : wrap .i64 (wrap .i64 x + wrap .i64 x) = wrap .i64 (x + x) := by
 rw [IntKind.wrap_i64, IntKind.wrap_i64, IntKind.wrap_i64]
 omega
theorem O8 (n s : Nat) (hs : s ≤ 63) (hn : 64 < n) {a : Int} (ha : fA a) : tg n a (s : Int) = some (wrap .i64 (a * 2 ^ s)) := by
 have key : ∃ r, tf n (a, (s : Int), 0) = some r ∧ r = wrap .i64 (a * 2 ^ s) := by
  show ∃ r, it _ n _ = some r ∧ _
  refine ju (fun f x => ∃ j : Nat, j ≤ s ∧ s < f + j ∧ x = (wrap .i64 (a * 2 ^ j), (s : Int), (j : Int))) _ (fun x ⟨j, h1, h2, _⟩ => by omega) ?_ n _ ⟨0, aq _, by omega, by rw [Int.pow_zero, Int.mul_one, dd ha.1 ha.2]; rfl⟩
  rintro f x F hF ⟨j, h1, h2, rfl⟩
  show ∃ r, un n F (wrap .i64 (a * 2 ^ j)) (s : Int) (j : Int) = some r ∧ _
  unfold un
  rcases am j s with hj | hj
  ·rw [if_pos (ag (by omega)), I9, dH (by omega)]
   exact hF _ ⟨j + 1, by omega, by omega, by rw [Int.pow_succ, ← Int.mul_assoc, show a * 2 ^ j * 2 = a * 2 ^ j + a * 2 ^ j by omega]⟩
  ·have : j = s := by omega
   subst this
   rw [if_neg (by simp)]
   exact ⟨_, rfl, rfl⟩
 obtain ⟨r, e1, e2⟩ := key
 unfold tg
 rw [e1, e2]
 rfl
theorem J5 {v : Int} (hv : fA v) : (if (decide ((v.tmod 2) < 0)) = true then (wrap .i64 ((wrap .i64 (v - 1)).tdiv 2)) else (wrap .i64 ((wrap .i64 (v - (v.tmod 2))).tdiv 2))) = v.fdiv 2 ∧ fA (v.fdiv 2) := by
 obtain ⟨h1, h2⟩ := hv
 have e : v.fdiv 2 = v / 2 := Int.fdiv_eq_ediv_of_nonneg _ (by decide)
 rw [e]
 refine ⟨?_, by unfold fA; omega⟩
 have h0 : v.tmod 2 = if v < 0 then -((-v) % 2) else v % 2 := by
  split
  ·rename_i h
   have := Int.neg_tmod (-v) 2
   rw [Int.neg_neg] at this
   rw [this, Int.tmod_eq_emod_of_nonneg (by omega)]
  ·exact Int.tmod_eq_emod_of_nonneg (by omega)
 have td : ∀ x : Int, x % 2 = 0 → x.tdiv 2 = x / 2 := fun x hx => by
  rcases Int.lt_or_le x 0 with h | h
  ·have := Int.neg_tdiv (-x) 2
   rw [Int.neg_neg] at this
   rw [this, Int.tdiv_eq_ediv_of_nonneg (by omega)]
   omega
  ·exact Int.tdiv_eq_ediv_of_nonneg h
 rw [h0]
 by_cases hn : v < 0
 ·rw [if_pos hn]
  by_cases ho : (-v) % 2 = 0
  ·rw [if_neg (by simp; omega), dd (e := v - -((-v) % 2)) (by omega) (by omega), td _ (by omega), dd (by omega) (by omega)]
   omega
  ·rw [if_pos (ag (by omega)), dd (e := v - 1) (by omega) (by omega), td _ (by omega), dd (by omega) (by omega)]
   omega
 ·rw [if_neg hn, if_neg (by simp; omega), dd (e := v - v % 2) (by omega) (by omega), td _ (by omega), dd (by omega) (by omega)]
  omega
theorem DQ (n s : Nat) (hs : s ≤ 63) (hn : 64 < n) {a : Int} (ha : fA a) : pT n a (s : Int) = some (a.fdiv (2 ^ s)) := by
 have key : ∃ r, mI n (a, (s : Int), 0) = some r ∧ r = a.fdiv (2 ^ s) := by
  show ∃ r, it _ n _ = some r ∧ _
  refine ju (fun f x => ∃ (j : Nat) (v : Int), j ≤ s ∧ s < f + j ∧ fA v ∧ v = a.fdiv (2 ^ j) ∧ x = (v, (s : Int), (j : Int))) _ (fun x ⟨j, v, h1, h2, _⟩ => by omega) ?_ n _ ⟨0, a, aq _, by omega, ha, by rw [Int.pow_zero, Int.fdiv_one], rfl⟩
  rintro f x F hF ⟨j, v, h1, h2, h3, h4, rfl⟩
  show ∃ r, uo n F v (s : Int) (j : Int) = some r ∧ _
  unfold uo
  rcases am j s with hj | hj
  ·obtain ⟨e1, e2⟩ := J5 h3
   have hgo := hF _ ⟨j + 1, v.fdiv 2, by omega, by omega, e2, by
    have hp : ∀ k : Nat, (0 : Int) ≤ 2 ^ k := fun k => Int.le_of_lt (Int.pow_pos (by decide))
    rw [h4, Int.fdiv_eq_ediv_of_nonneg _ (hp j), Int.fdiv_eq_ediv_of_nonneg _ (by decide), Int.fdiv_eq_ediv_of_nonneg _ (hp (j + 1)), Int.pow_succ, Int.ediv_ediv_of_nonneg (hp j)], rfl⟩
   rw [if_pos (ag (by omega)), dH (by omega)]
   by_cases hd : decide ((v.tmod 2) < 0) = true
   ·rw [if_pos hd] at e1
    rw [if_pos hd, e1]
    exact hgo
   ·rw [if_neg hd] at e1
    rw [if_neg hd, e1]
    exact hgo
  ·have : j = s := by omega
   subst this
   rw [if_neg (by simp)]
   exact ⟨_, rfl, h4⟩
 obtain ⟨r, e1, e2⟩ := key
 unfold pT
 rw [e1, e2]
 rfl
theorem Ja {b : Int} (hb : fA b) : bits .and .i64 b 63 = b % 64 := by
 obtain ⟨h1, h2⟩ := hb
 show IntKind.i64.wrap ((BitVec.ofInt 64 b &&& BitVec.ofInt 64 ((63 : Nat) : Int)).toNat : Int) = _
 rw [BitVec.toNat_and, ofInt_u64 63 (by omega)]
 have e : (BitVec.ofInt 64 b).toNat &&& 63 = (BitVec.ofInt 64 b).toNat % 64 := Nat.and_two_pow_sub_one_eq_mod _ 6
 rw [e, BitVec.toNat_ofInt]
 rw [dd (by omega) (by omega)]
 omega
theorem Jb {b : Int} (hb : fA b) : (wrap .i64 ((b.tmod 64) + 64)).tmod 64 = b % 64 := by
 obtain ⟨h1, h2⟩ := hb
 have h0 : b.tmod 64 = if b < 0 then -((-b) % 64) else b % 64 := by
  split
  ·have := Int.neg_tmod (-b) 64
   rw [Int.neg_neg] at this
   rw [this, Int.tmod_eq_emod_of_nonneg (by omega)]
  ·exact Int.tmod_eq_emod_of_nonneg (by omega)
 rw [h0]
 split
 ·rw [dd (by omega) (by omega), Int.tmod_eq_emod_of_nonneg (by omega)]
  omega
 ·rw [dd (by omega) (by omega), Int.tmod_eq_emod_of_nonneg (by omega)]
  omega
theorem DR {a b : Int} (ha : fA a) : fA (a.tmod b) ∧ fA (a - a.tmod b) := by
 obtain ⟨h1, h2⟩ := ha
 have hn : (a.tmod b).natAbs = a.natAbs % b.natAbs := Int.natAbs_tmod a b
 have hle : a.natAbs % b.natAbs ≤ a.natAbs := Nat.mod_le _ _
 unfold fA
 rcases Int.lt_or_le a 0 with h | h
 ·have h0 : a.tmod b ≤ 0 := by
   have := Int.neg_tmod (-a) b
   rw [Int.neg_neg] at this
   have h3 : 0 ≤ (-a).tmod b := Int.tmod_nonneg b (by omega)
   omega
  omega
 ·have h0 : 0 ≤ a.tmod b := Int.tmod_nonneg b h
  omega
theorem J6 {a b : Int} (ha : fA a) (hb0 : b ≠ 0) (hb : b ≠ -1) : fA (a.tdiv b) := by
 obtain ⟨h1, h2⟩ := ha
 by_cases hb1 : b = 1
 ·subst hb1
  rw [Int.tdiv_one]
  exact ⟨h1, h2⟩
 ·have hn : (a.tdiv b).natAbs = a.natAbs / b.natAbs := Int.natAbs_tdiv a b
  have h3 : a.natAbs / b.natAbs ≤ a.natAbs / 2 := Nat.div_le_div_left (by omega) (by omega)
  unfold fA
  omega
theorem NP (n : Nat) {a b : Int} (ha : fA a) : gb n a b = some (if b = 0 then (0, 0, true) else (wrap .i64 (a.tdiv b), a.tmod b, false)) := by
 unfold gb
 by_cases h0 : b = 0
 ·rw [if_pos (ae.2 h0), if_pos h0]
 ·rw [if_neg (fun h => h0 (ae.1 h)), if_neg h0]
  by_cases h1 : b = -1
  ·subst h1
   rw [if_pos (by decide), Int.tdiv_neg, Int.tdiv_one, Int.tmod_neg, Int.tmod_one, show (0 : Int) - a = -a by omega]
  ·rw [if_neg (fun h => h1 (ae.1 h)), if_neg (fun h => h0 (ae.1 h))]
   have hq := J6 ha h0 h1
   obtain ⟨hm1, hm2⟩ := DR (b := b) ha
   have he : b * a.tdiv b = a - a.tmod b := by have := Int.mul_tdiv_add_tmod a b; omega
   rw [dd hq.1 hq.2, he, dd hm2.1 hm2.2, show a - (a - a.tmod b) = a.tmod b by omega, dd hm1.1 hm1.2]
theorem J7 {a : Int} (ha : fA a) (s : Nat) : fA (a.fdiv (2 ^ s)) := by
 obtain ⟨h1, h2⟩ := ha
 have hp : (1 : Int) ≤ 2 ^ s := Int.pow_pos (by decide)
 rw [Int.fdiv_eq_ediv_of_nonneg _ (by omega)]
 unfold fA
 rcases Int.lt_or_le a 0 with h | h
 ·have h3 : a / 2 ^ s < 0 := Int.ediv_neg_of_neg_of_pos h (by omega)
  have h4 : a ≤ a / 2 ^ s := by
   rw [Int.le_ediv_iff_mul_le (by omega)]
   have : a * 2 ^ s ≤ a * 1 := Int.mul_le_mul_of_nonpos_left (by omega) hp
   omega
  omega
 ·have h3 : 0 ≤ a / 2 ^ s := Int.ediv_nonneg h (by omega)
  have h4 : a / 2 ^ s ≤ a := Int.ediv_le_self _ h
  omega
theorem DS (n : Nat) (hn : 64 < n) {A : Int} (hA : 1 ≤ A ∧ A ≤ 12) {a b : Int} (ha : fA a) (hb : fA b) : fm n A a b = some (ku A a b) ∧ fA (ku A a b).1 := by
 have hc : A = 1 ∨ A = 2 ∨ A = 3 ∨ A = 4 ∨ A = 5 ∨ A = 6 ∨ A = 7 ∨ A = 8 ∨ A = 9 ∨ A = 10 ∨ A = 11 ∨ A = 12 := by omega
 have hd := NP n (b := b) ha
 have ht := (Ch n hA a b).1
 have key : ∀ x, dK n A a b = some x → fm n A a b = some x → fA x.1 → fm n A a b = some (ku A a b) ∧ fA (ku A a b).1 := fun x h1 h2 h3 => by
  rw [ht] at h1
  have : ku A a b = x := ao h1
  rw [this]
  exact ⟨h2, h3⟩
 have hm : ∃ s : Nat, s ≤ 63 ∧ b % 64 = (s : Int) := ⟨(b % 64).toNat, by omega, by omega⟩
 obtain ⟨s, hs, hse⟩ := hm
 have h63 := Ja hb
 have h64 := Jb hb
 rcases hc with rfl | rfl | rfl | rfl | rfl | rfl | rfl | rfl | rfl | rfl | rfl | rfl
 ·have e : fm n 1 a b = (gb n a b).bind fun y1 => some (wrap .i64 (a + b), false) := by kernel_rfl
  exact key _ rfl (by rw [e, hd]; rfl) (f5 _)
 ·have e : fm n 2 a b = (gb n a b).bind fun y1 => some (wrap .i64 (a - b), false) := by kernel_rfl
  exact key _ rfl (by rw [e, hd]; rfl) (f5 _)
 ·have e : fm n 3 a b = (gb n a b).bind fun y1 => some (wrap .i64 (a * b), false) := by kernel_rfl
  exact key _ rfl (by rw [e, hd]; rfl) (f5 _)
 ·have e : fm n 4 a b = (gb n a b).bind fun y1 => some (y1.1, y1.2.2) := by kernel_rfl
  have f : dK n 4 a b = (if (b == 0) then (some (0, true)) else (if (b == 0) then none else (some ((wrap .i64 (a.tdiv b)), false)))) := by kernel_rfl
  by_cases h0 : b = 0
  ·rw [if_pos h0] at hd
   exact key (0, true) (by rw [f, if_pos (ae.2 h0)]) (by rw [e, hd]; rfl) ⟨by decide, by decide⟩
  ·rw [if_neg h0] at hd
   exact key _ (by rw [f, if_neg (fun h => h0 (ae.1 h)), if_neg (fun h => h0 (ae.1 h))]) (by rw [e, hd]; rfl) (f5 _)
 ·have e : fm n 5 a b = (gb n a b).bind fun y1 => some (y1.2.1, y1.2.2) := by kernel_rfl
  have f : dK n 5 a b = (if (b == 0) then (some (0, true)) else (if (b == 0) then none else (some ((a.tmod b), false)))) := by kernel_rfl
  by_cases h0 : b = 0
  ·rw [if_pos h0] at hd
   exact key (0, true) (by rw [f, if_pos (ae.2 h0)]) (by rw [e, hd]; rfl) ⟨by decide, by decide⟩
  ·rw [if_neg h0] at hd
   exact key _ (by rw [f, if_neg (fun h => h0 (ae.1 h)), if_neg (fun h => h0 (ae.1 h))]) (by rw [e, hd]; rfl) (DR ha).1
 ·have e : fm n 6 a b = (gb n a b).bind fun y1 => some (bits .and .i64 a b, false) := by kernel_rfl
  exact key _ rfl (by rw [e, hd]; rfl) (f5 _)
 ·have e : fm n 7 a b = (gb n a b).bind fun y1 => some (bits .or .i64 a b, false) := by kernel_rfl
  exact key _ rfl (by rw [e, hd]; rfl) (f5 _)
 ·have e : fm n 8 a b = (gb n a b).bind fun y1 => some (bits .xor .i64 a b, false) := by kernel_rfl
  exact key _ rfl (by rw [e, hd]; rfl) (f5 _)
 ·have e : fm n 9 a b = (gb n a b).bind fun y1 => ((tg n a ((wrap .i64 ((b.tmod 64) + 64)).tmod 64)).bind fun y2 => (some (y2, false))) := by kernel_rfl
  have f : dK n 9 a b = ((if decide ((bits .and .i64 b 63) < 0) then none else (some (wrap .i64 (a * 2 ^ (min ((bits .and .i64 b 63)).toNat 64)))) : Option Int).bind fun y => some (y, false)) := by kernel_rfl
  have e1 : min ((s : Int)).toNat 64 = s := by omega
  rw [h63, hse, e1, if_neg (by simp)] at f
  rw [h64, hse, O8 n s hs hn ha] at e
  exact key (wrap .i64 (a * 2 ^ s), false) (by rw [f]; rfl) (by rw [e, hd]; rfl) (f5 _)
 ·have e : fm n 10 a b = (gb n a b).bind fun y1 => ((pT n a ((wrap .i64 ((b.tmod 64) + 64)).tmod 64)).bind fun y2 => (some (y2, false))) := by kernel_rfl
  have f : dK n 10 a b = ((if decide ((bits .and .i64 b 63) < 0) then none else (some (a.fdiv (2 ^ (min ((bits .and .i64 b 63)).toNat 64)))) : Option Int).bind fun y => some (y, false)) := by kernel_rfl
  have e1 : min ((s : Int)).toNat 64 = s := by omega
  rw [h63, hse, e1, if_neg (by simp)] at f
  rw [h64, hse, DQ n s hs hn ha] at e
  exact key (a.fdiv (2 ^ s), false) (by rw [f]; rfl) (by rw [e, hd]; rfl) (J7 ha s)
 ·have e : fm n 11 a b = (gb n a b).bind fun y1 => ((if decide (a < b) then (some 1) else (some 0) : Option Int).bind fun y4 => (some (y4, false))) := by kernel_rfl
  have f : dK n 11 a b = (((if decide (a < b) then (some 1) else (some 0) : Option Int).bind fun y => some y).bind fun y => some (y, false)) := by kernel_rfl
  by_cases h : a < b
  ·rw [if_pos (ag h)] at e f
   exact key (1, false) f (by rw [e, hd]; rfl) ⟨by decide, by decide⟩
  ·rw [if_neg (fun k => h (aG k))] at e f
   exact key (0, false) f (by rw [e, hd]; rfl) ⟨by decide, by decide⟩
 ·have e : fm n 12 a b = (gb n a b).bind fun y1 => ((if (a == b) then (some 1) else (some 0) : Option Int).bind fun y4 => (some (y4, false))) := by kernel_rfl
  have f : dK n 12 a b = (((if (a == b) then (some 1) else (some 0) : Option Int).bind fun y => some y).bind fun y => some (y, false)) := by kernel_rfl
  by_cases h : a = b
  ·rw [if_pos (ae.2 h)] at e f
   exact key (1, false) f (by rw [e, hd]; rfl) ⟨by decide, by decide⟩
  ·rw [if_neg (fun k => h (ae.1 k))] at e f
   exact key (0, false) f (by rw [e, hd]; rfl) ⟨by decide, by decide⟩
end Go.Proofs.Dk
