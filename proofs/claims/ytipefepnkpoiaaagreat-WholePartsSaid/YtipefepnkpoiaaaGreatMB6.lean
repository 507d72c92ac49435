/- A part of the proofs: Plain: how often each instruction can still come. -/
import Derived.Test.YtipefepnkpoiaaaGreatMB5
import Derived.Test.YtipefepnkpoiaaaGreatMB4
set_option linter.unusedVariables false
set_option linter.unusedSimpArgs false
noncomputable section
namespace Go.Proofs.Dk
open Go Go.IntKind
set_option maxRecDepth 100000
def iL (A : Nat → Int) : List Nat → Int
 | [] => 1
 | k :: js => A k * iL A js
theorem lj {A : Nat → Int} : ∀ {js : List Nat}, (∀ k ∈ js, 1 ≤ A k) → 1 ≤ iL A js
 | [], _ => bi _
 | k :: js, h => by
  have h1 := h k (aD ..)
  have h2 := lj (js := js) fun q hq => h q (az _ hq)
  unfold iL
  have := Int.mul_le_mul h1 h2 (by omega) (by omega)
  omega
def iS (A : Nat → Int) : List Nat → List (Nat × Int) → Int → Int → Int
 | k :: js, (k', r) :: is, b, S => if k = k' then iS A js is b (S * A k + (r - 1)) else (b + S) * iL A (k :: js)
 | js, _, b, S => (b + S) * iL A js
theorem lk (A : Nat → Int) (js : List Nat) (b S : Int) : iS A js [] b S = (b + S) * iL A js := by
 cases js <;> rfl
theorem mE (A : Nat → Int) (is : List (Nat × Int)) (b S : Int) : iS A [] is b S = b + S := by
 cases is <;> simp [iS, iL]
theorem Ju {A : Nat → Int} : ∀ {js : List Nat} {is : List (Nat × Int)} {b S : Int}, (∀ k ∈ js, 1 ≤ A k) → (∀ e ∈ is, 1 ≤ e.2) → 0 ≤ b → 0 ≤ S → 0 ≤ iS A js is b S
 | js, [], b, S, hA, hr, hb, hS => by
  rw [lk]
  exact cn (by omega) (by have := lj hA; omega)
 | [], e :: is, b, S, hA, hr, hb, hS => by rw [mE]; omega
 | k :: js, (k', r) :: is, b, S, hA, hr, hb, hS => by
  unfold iS
  split
  ·have h1 := hr (k', r) (aD ..)
   have h2 := hA k (aD ..)
   have h3 : 0 ≤ S * A k := cn hS (by omega)
   exact Ju (fun q hq => hA q (az _ hq)) (fun e he => hr e (az _ he)) hb (by simp only at h1; omega)
  ·exact cn (by omega) (by have := lj hA; omega)
theorem Ak {A : Nat → Int} : ∀ {is : List (Nat × Int)} {js : List Nat} {b S : Int}, js = is.map (·.1) → ∃ T, ∀ b, iS A js is b S = b + T
 | [], js, b, S, h => by subst h; exact ⟨S, fun b => by rw [List.map_nil, lk]; simp [iL]⟩
 | (k, r) :: is, js, b, S, h => by
  subst h
  obtain ⟨T, hT⟩ := Ak (A := A) (is := is) (b := b) (S := S * A k + (r - 1)) rfl
  refine ⟨T, fun b => ?_⟩
  rw [List.map_cons]
  unfold iS
  rw [if_pos rfl]
  exact hT b
theorem o9 {A : Nat → Int} : ∀ {js : List Nat} {is : List (Nat × Int)} {b b' S : Int}, (∀ k ∈ js, 1 ≤ A k) → b' ≤ b → iS A js is b' S ≤ iS A js is b S
 | js, [], b, b', S, hA, hb => by
  rw [lk, lk]
  exact cD (by omega) (by have := lj hA; omega)
 | [], e :: is, b, b', S, hA, hb => by rw [mE, mE]; omega
 | k :: js, (k', r) :: is, b, b', S, hA, hb => by
  unfold iS
  split
  ·exact o9 (fun q hq => hA q (az _ hq)) hb
  ·exact cD (by omega) (by have := lj hA; omega)
theorem zC {A : Nat → Int} : ∀ (il : List (Nat × Int)) (k : Nat) (rest : List Nat) (S : Int), ∃ T, 0 ≤ T + 0 * S ∨ True → ∀ (r b : Int), iS A (il.map (·.1) ++ k :: rest) (il ++ [(k, r)]) b S = (b + (T * A k + (r - 1))) * iL A rest ∧ iS A (il.map (·.1) ++ k :: rest) il b S = (b + T) * (A k * iL A rest)
 | [], k, rest, S => ⟨S, fun _ r b => by
   simp only [List.map_nil, bI]
   refine ⟨?_, ?_⟩
   ·unfold iS
    rw [if_pos rfl, lk]
   ·rw [lk]; rfl⟩
 | (k0, r0) :: il, k, rest, S => by
  obtain ⟨T, hT⟩ := zC (A := A) il k rest (S * A k0 + (r0 - 1))
  refine ⟨T, fun _ r b => ?_⟩
  obtain ⟨h1, h2⟩ := hT (.inr trivial) r b
  simp only [List.map_cons, List.cons_append]
  refine ⟨?_, ?_⟩
  ·unfold iS
   rw [if_pos rfl]
   exact h1
  ·unfold iS
   rw [if_pos rfl]
   exact h2
theorem oh {A : Nat → Int} : ∀ (il : List (Nat × Int)) (js : List Nat) (k : Nat) (r b S : Int), k ∉ js → iS A js (il ++ [(k, r)]) b S = iS A js il b S
 | [], [], k, r, b, S, h => by rw [mE, lk]; simp [iL]
 | [], j :: js, k, r, b, S, h => by
  rw [lk, bI]
  unfold iS
  rw [if_neg (fun (e : j = k) => h (by rw [e]; exact aD ..))]
 | (k0, r0) :: il, [], k, r, b, S, h => by rw [mE, mE]
 | (k0, r0) :: il, j :: js, k, r, b, S, h => by
  rw [List.cons_append]
  unfold iS
  split
  ·exact oh il js k r b _ fun hk => h (az _ hk)
  ·rfl
theorem Bm {l : List cZ} {m h : List Int} (hF : Fine l m h) {k j : Nat} (hk : k ∈ lps l m j) : ∃ rest, lps l m j = lps l m k ++ k :: rest := by
 obtain ⟨h1, h2⟩ := qN hk
 have hkj := (eu h1).1
 have hko := (eu h1).2
 obtain ⟨z, z1, z2, z3⟩ := hF.nest.open_ k (f7 hko) hko
 have hkz := (fu hko z1).1 h1
 refine ⟨(List.range' (k + 1) (j - (k + 1))).filter fun q => enc l m q j && opAt l q == 21, ?_⟩
 unfold lps
 have e : List.range j = List.range k ++ k :: List.range' (k + 1) (j - (k + 1)) := by
  rw [List.range_eq_range', List.range_eq_range', ← List.range'_succ, show j - (k + 1) + 1 = j - k by omega]
  have := List.range'_append_1 (s := 0) (m := k) (n := j - k)
  rw [bw] at this
  rw [this]
  congr 1
  omega
 rw [e, List.filter_append, List.filter_cons, h1, h2]
 congr 1
 apply List.filter_congr
 intro x hx
 rw [bh] at hx
 congr 1
 apply o6
 by_cases hxo : dj l x = true
 ·obtain ⟨y, y1, y2, y3⟩ := hF.nest.open_ x (f7 hxo) hxo
  rw [fu hxo y1, fu hxo y1]
  refine ⟨fun ⟨a1, a2⟩ => ⟨hx, by omega⟩, fun ⟨a1, a2⟩ => ⟨by omega, ?_⟩⟩
  have hyk : y ≠ k := fun hc => by
   have := hF.nest.clos x y (f7 hxo) hxo y1
   rw [hc, hko] at this; cases this
  obtain ⟨q, q1, q2⟩ := hF.nest.cross x k y hx (by omega) (f7 hxo) hxo hko y1
  rw [z1] at q1
  omega
 ·exact ⟨fun h => absurd (eu h).2 hxo, fun h => absurd (eu h).2 hxo⟩
def pW (f : Nat → Int) : Nat → Int
 | 0 => 0
 | n + 1 => pW f n + f n
theorem F1 {f g : Nat → Int} : ∀ {n : Nat}, (∀ j, j < n → f j ≤ g j) → pW f n ≤ pW g n
 | 0, _ => bi _
 | n + 1, h => by
  have h1 := F1 (n := n) fun j hj => h j (by omega)
  have h2 := h n (by omega)
  unfold pW
  omega
theorem qO {f g : Nat → Int} {i : Nat} : ∀ {n : Nat}, i < n → (∀ j, j < n → f j ≤ g j) → f i + 1 ≤ g i → pW f n + 1 ≤ pW g n
 | 0, h, _, _ => by omega
 | n + 1, hi, h, h1 => by
  unfold pW
  by_cases e : i = n
  ·subst e
   have h2 := F1 (n := i) fun j hj => h j (by omega)
   omega
  ·have h2 := qO (n := n) (by omega) (fun j hj => h j (by omega)) h1
   have h3 := h n (by omega)
   omega
theorem F2 {f : Nat → Int} : ∀ {n : Nat}, (∀ j, j < n → 0 ≤ f j) → 0 ≤ pW f n
 | 0, _ => bi _
 | n + 1, h => by
  have h1 := F2 (n := n) fun j hj => h j (by omega)
  have h2 := h n (by omega)
  unfold pW
  omega
def sx (l : List cZ) (m : List Int) (i : Nat) (rs : List (Nat × Int)) (j : Nat) : Int := iS (dd l) (lps l m j) rs (if i ≤ j then 1 else 0) 0
def nL (l : List cZ) (m : List Int) (i : Nat) (rs : List (Nat × Int)) : Int := pW (sx l m i rs) l.length
theorem oi {l : List cZ} {m h : List Int} (hF : Fine l m h) (j : Nat) : ∀ k ∈ lps l m j, 1 ≤ dd l k := fun k hk => by
 obtain ⟨h1, h2⟩ := qN hk
 exact (zB (hF.right (f7 (eu h1).2)) h2).1
theorem MV {l : List cZ} {m h : List Int} (hF : Fine l m h) {i : Nat} {rs : List (Nat × Int)} (hr : ∀ e ∈ rs, 1 ≤ e.2) (j : Nat) : 0 ≤ sx l m i rs j :=
 Ju (oi hF j) hr (by split <;> decide) (by decide)
theorem Pn {l : List cZ} {m h : List Int} (hF : Fine l m h) {i : Nat} {rs : List (Nat × Int)} (hr : ∀ e ∈ rs, 1 ≤ e.2) : 0 ≤ nL l m i rs := F2 fun j _ => MV hF hr j
theorem qP {l : List cZ} {m h : List Int} (hF : Fine l m h) {i q : Nat} (hi : i < l.length) (hq : i < q) {rs : List (Nat × Int)} (he : rs.map (·.1) = lps l m i) : nL l m q rs + 1 ≤ nL l m i rs := by
 refine qO hi (fun j hj => ?_) ?_
 ·exact o9 (oi hF j) (by split <;> split <;> omega)
 ·unfold sx
  obtain ⟨T, hT⟩ := Ak (A := dd l) (is := rs) (js := lps l m i) (b := 0) (S := 0) he.symm
  rw [hT, hT, if_pos (ak _), if_neg (by omega)]
  omega
theorem Ec {l : List cZ} {m : List Int} {k j : Nat} (h : k ∈ lps l m j) : k + 1 ≤ j := (eu (qN h).1).1
theorem Ed {l : List cZ} {m h : List Int} (hF : Fine l m h) {i : Nat} (hi : i < l.length) {rs : List (Nat × Int)} (he : rs.map (·.1) = lps l m i) : nL l m (i + 1) (rs ++ [(i, dd l i)]) + 1 ≤ nL l m i rs := by
 have hni : i ∉ lps l m i := fun h => by have := Ec h; omega
 refine qO hi (fun j hj => ?_) ?_
 ·unfold sx
  by_cases hk : i ∈ lps l m j
  ·obtain ⟨rest, hr⟩ := Bm hF hk
   have hj := Ec hk
   rw [hr, ← he]
   obtain ⟨T, hT⟩ := zC (A := dd l) rs i rest 0
   obtain ⟨h1, h2⟩ := hT (.inr trivial) (dd l i) 1
   rw [if_pos (by omega), if_pos (by omega), h1, h2, ← Int.mul_assoc]
   refine Int.le_of_eq (congrArg (· * _) ?_)
   rw [Int.add_mul]
   omega
  ·rw [oh rs _ i _ _ _ hk]
   exact o9 (oi hF j) (by split <;> split <;> omega)
 ·unfold sx
  rw [oh rs _ i _ _ _ hni]
  obtain ⟨T, hT⟩ := Ak (A := dd l) (is := rs) (js := lps l m i) (b := 0) (S := 0) he.symm
  rw [hT, hT, if_pos (ak _), if_neg (by omega)]
  omega
theorem Ee {l : List cZ} {m h : List Int} (hF : Fine l m h) {i k : Nat} (hi : i < l.length) (hki : k < i) (hk21 : opAt l k = 21) (hm : m.getD k 0 = (i : Int)) (e1 : lps l m i = lps l m k ++ [k]) {rs : List (Nat × Int)} (he : rs.map (·.1) = lps l m k) {r : Int} :
  nL l m (k + 1) (rs ++ [(k, r - 1)]) + 1 ≤ nL l m i (rs ++ [(k, r)]) ∧ (r = 1 → nL l m (i + 1) rs + 1 ≤ nL l m i (rs ++ [(k, r)])) := by
 have hko := vj (.inl hk21)
 have hin : ∀ j, k ∈ lps l m j ↔ k + 1 ≤ j ∧ j ≤ i := fun j => by
  constructor
  ·intro h
   have := (fu hko hm).1 (qN h).1
   omega
  ·intro hj
   unfold lps
   rw [cm, bh, (fu hko hm).2 ⟨by omega, by omega⟩, hk21]
   exact ⟨by omega, rfl⟩
 have hkey : ∀ j, k ∈ lps l m j → ∃ rest T, 1 ≤ iL (dd l) rest ∧ ∀ r b : Int, iS (dd l) (lps l m j) (rs ++ [(k, r)]) b 0 = (b + (T * dd l k + (r - 1))) * iL (dd l) rest ∧ iS (dd l) (lps l m j) rs b 0 = (b + T) * (dd l k * iL (dd l) rest) := fun j hk => by
  obtain ⟨rest, hr⟩ := Bm hF hk
  obtain ⟨T, hT⟩ := zC (A := dd l) rs k rest 0
  refine ⟨rest, T, lj fun q hq => oi hF j q (by rw [hr]; exact bG _ (az _ hq)), fun r b => ?_⟩
  rw [hr, ← he]
  exact hT (.inr trivial) r b
 have hi2 : k ∈ lps l m i := (hin i).2 ⟨by omega, ak _⟩
 have hkey2 : ∃ T, ∀ r b : Int, iS (dd l) (lps l m i) (rs ++ [(k, r)]) b 0 = b + (T * dd l k + (r - 1)) ∧ iS (dd l) (lps l m i) rs b 0 = (b + T) * dd l k := by
  obtain ⟨T, hT⟩ := zC (A := dd l) rs k [] 0
  refine ⟨T, fun r b => ?_⟩
  rw [e1, ← he]
  have := hT (.inr trivial) r b
  simp only [iL, Int.mul_one] at this
  exact this
 refine ⟨qO hi (fun j hj => ?_) ?_, fun hr1 => qO hi (fun j hj => ?_) ?_⟩
 ·unfold sx
  by_cases hk : k ∈ lps l m j
  ·obtain ⟨rest, T, hp, hT⟩ := hkey j hk
   have := (hin j).1 hk
   rw [(hT _ _).1, (hT _ _).1]
   refine cD ?_ (by omega)
   rw [if_pos (by omega)]
   split <;> omega
  ·rw [oh rs _ k _ _ _ hk, oh rs _ k _ _ _ hk]
   refine o9 (oi hF j) ?_
   have : ¬ (k + 1 ≤ j ∧ j ≤ i) := fun h => hk ((hin j).2 h)
   split <;> split <;> omega
 ·unfold sx
  obtain ⟨T, hT⟩ := hkey2
  rw [(hT _ _).1, (hT _ _).1, if_pos (by omega), if_pos (ak _)]
  omega
 ·subst hr1
  unfold sx
  by_cases hk : k ∈ lps l m j
  ·obtain ⟨rest, T, hp, hT⟩ := hkey j hk
   have := (hin j).1 hk
   rw [(hT 1 _).2, (hT 1 _).1, ← Int.mul_assoc]
   refine cD ?_ (by omega)
   rw [if_neg (by omega), Int.zero_add]
   split <;> omega
  ·rw [oh rs _ k _ _ _ hk]
   refine o9 (oi hF j) ?_
   split <;> split <;> omega
 ·subst hr1
  unfold sx
  obtain ⟨T, hT⟩ := hkey2
  rw [(hT 1 _).2, (hT 1 _).1, if_neg (by omega), if_pos (ak _), Int.zero_add]
  omega
def dG (n : Nat) (v1 : List (Int × (Int × Int))) (v2 v3 : List Int) (v4 : Bool) (v5 : Int) (v6 v7 v8 v9 : List Int) (v10 : Int) (v11 : List Int) (v12 v13 v14 : Int) (v23 : List (List Int)) := ef n v1 v2 v3 v4 v5 v6 v7 v8 v9 v10 v11 v12 v13 v14 v23 (fun r0 r1 r2 r3 r4 r5 r6 r7 r8 r9 r10 r11 r12 r13 r14 r15 r24 => some (r0, r1, r2, r3, r4, r5, r6, r7, r8, r9, r10, r11, r12, r13, r14, r15, r24))
theorem LM {α β : Type} (c : Prop) [Decidable c] (x y : Option α) (f : α → Option β) : (if c then x else y).bind f = if c then x.bind f else y.bind f := by split <;> rfl
theorem Jv {α β : Type} (f : α → Option β) : (none : Option α).bind f = none := rfl
theorem Jw {β : Type} (n : Nat) (v1 : List (Int × (Int × Int))) (v2 v3 : List Int) (v4 : Bool) (v5 : Int) (v6 v7 v8 v9 : List Int) (v10 : Int) (v11 : List Int) (v12 v13 v14 : Int) (v23 : List (List Int)) (κ : (Int × Int) → Int → List (Int × (Int × Int)) → List Int → List Int → Bool → Int → List Int → List Int → List Int → List Int → Int → List Int → Int → Int → Int → List (List Int) → Option β) :
  ef n v1 v2 v3 v4 v5 v6 v7 v8 v9 v10 v11 v12 v13 v14 v23 κ = (dG n v1 v2 v3 v4 v5 v6 v7 v8 v9 v10 v11 v12 v13 v14 v23).bind fun y => κ y.1 y.2.1 y.2.2.1 y.2.2.2.1 y.2.2.2.2.1 y.2.2.2.2.2.1 y.2.2.2.2.2.2.1 y.2.2.2.2.2.2.2.1 y.2.2.2.2.2.2.2.2.1 y.2.2.2.2.2.2.2.2.2.1 y.2.2.2.2.2.2.2.2.2.2.1 y.2.2.2.2.2.2.2.2.2.2.2.1 y.2.2.2.2.2.2.2.2.2.2.2.2.1 y.2.2.2.2.2.2.2.2.2.2.2.2.2.1 y.2.2.2.2.2.2.2.2.2.2.2.2.2.2.1 y.2.2.2.2.2.2.2.2.2.2.2.2.2.2.2.1 y.2.2.2.2.2.2.2.2.2.2.2.2.2.2.2.2 := by
 unfold dG ef
 simp only [LM, Option.bind_assoc, ae, Jv]
theorem Qx (n : Nat) {v1 : List cZ} {v2 : List Int} {v3 : List Int} {v5 : Int} {v6 : List Int} {v7 : List Int} {v8 : List Int} {v9 : List Int} {v10 : Int} {v11 : List Int} {v12 : Int} {v13 : Int} {v14 : Int} {v15 : List (List Int)} {A B : Int} (h0 : decide ((v1.length : Int) > 0) = true) (hi : (decide (0 ≤ v5) && decide (v5 < (v1.length : Int))) = true) (hx : v1.getD v5.toNat ((0 : Int), ((0 : Int), (0 : Int))) = (1, A, B)) : dG n v1 v2 v3 true v5 v6 v7 v8 v9 v10 v11 v12 v13 v14 v15 = ((if (decide ((v6.length + 1) * 8 ≤ 140737488355328) && decide (1 ≤ 8)) then (some ((0, 0), 0, v1, v2, v3, true, (wrap .i64 (v5 + 1)), (v6 ++ [A]), v7, v8, v9, v10, v11, v12, v13, (wrap .i64 (v14 + 1)), v15)) else none)) := by
 unfold dG ef
 rw [h0, if_neg (by decide), if_neg (by decide), if_pos hi, hx]
 kernel_rfl
theorem Qy (n : Nat) {v1 : List cZ} {v2 : List Int} {v3 : List Int} {v5 : Int} {v6 : List Int} {v7 : List Int} {v8 : List Int} {v9 : List Int} {v10 : Int} {v11 : List Int} {v12 : Int} {v13 : Int} {v14 : Int} {v15 : List (List Int)} {A B : Int} (h0 : decide ((v1.length : Int) > 0) = true) (hi : (decide (0 ≤ v5) && decide (v5 < (v1.length : Int))) = true) (hx : v1.getD v5.toNat ((0 : Int), ((0 : Int), (0 : Int))) = (2, A, B)) : dG n v1 v2 v3 true v5 v6 v7 v8 v9 v10 v11 v12 v13 v14 v15 = (((dX n v1 v2 v3 true v5 v6 v7 v8 v9 v10 v11 v12 v13 v14).bind fun y35 => (some ((0, 0), 0, y35.2.1, y35.2.2.1, y35.2.2.2.1, y35.2.2.2.2.1, (wrap .i64 (v5 + 1)), y35.2.2.2.2.2.2.1, y35.2.2.2.2.2.2.2.1, y35.2.2.2.2.2.2.2.2.1, y35.2.2.2.2.2.2.2.2.2.1, y35.2.2.2.2.2.2.2.2.2.2.1, y35.2.2.2.2.2.2.2.2.2.2.2.1, y35.2.2.2.2.2.2.2.2.2.2.2.2.1, y35.2.2.2.2.2.2.2.2.2.2.2.2.2.1, (wrap .i64 (y35.2.2.2.2.2.2.2.2.2.2.2.2.2.2 + 1)), v15)))) := by
 unfold dG ef
 rw [h0, if_neg (by decide), if_neg (by decide), if_pos hi, hx]
 kernel_rfl
theorem Qz (n : Nat) {v1 : List cZ} {v2 : List Int} {v3 : List Int} {v5 : Int} {v6 : List Int} {v7 : List Int} {v8 : List Int} {v9 : List Int} {v10 : Int} {v11 : List Int} {v12 : Int} {v13 : Int} {v14 : Int} {v15 : List (List Int)} {A B : Int} (h0 : decide ((v1.length : Int) > 0) = true) (hi : (decide (0 ≤ v5) && decide (v5 < (v1.length : Int))) = true) (hx : v1.getD v5.toNat ((0 : Int), ((0 : Int), (0 : Int))) = (3, A, B)) : dG n v1 v2 v3 true v5 v6 v7 v8 v9 v10 v11 v12 v13 v14 v15 = ((if (decide (0 ≤ (wrap .i64 ((v6.length : Int) - 1))) && decide ((wrap .i64 ((v6.length : Int) - 1)) < (v6.length : Int))) then (if (decide ((v6.length + 1) * 8 ≤ 140737488355328) && decide (1 ≤ 8)) then (some ((0, 0), 0, v1, v2, v3, true, (wrap .i64 (v5 + 1)), (v6 ++ [(v6.getD ((wrap .i64 ((v6.length : Int) - 1))).toNat (0 : Int))]), v7, v8, v9, v10, v11, v12, v13, (wrap .i64 (v14 + 1)), v15)) else none) else none)) := by
 unfold dG ef
 rw [h0, if_neg (by decide), if_neg (by decide), if_pos hi, hx]
 kernel_rfl
theorem QA (n : Nat) {v1 : List cZ} {v2 : List Int} {v3 : List Int} {v5 : Int} {v6 : List Int} {v7 : List Int} {v8 : List Int} {v9 : List Int} {v10 : Int} {v11 : List Int} {v12 : Int} {v13 : Int} {v14 : Int} {v15 : List (List Int)} {A B : Int} (h0 : decide ((v1.length : Int) > 0) = true) (hi : (decide (0 ≤ v5) && decide (v5 < (v1.length : Int))) = true) (hx : v1.getD v5.toNat ((0 : Int), ((0 : Int), (0 : Int))) = (4, A, B)) : dG n v1 v2 v3 true v5 v6 v7 v8 v9 v10 v11 v12 v13 v14 v15 = (((dX n v1 v2 v3 true v5 v6 v7 v8 v9 v10 v11 v12 v13 v14).bind fun y33 => ((dX n y33.2.1 y33.2.2.1 y33.2.2.2.1 y33.2.2.2.2.1 y33.2.2.2.2.2.1 y33.2.2.2.2.2.2.1 y33.2.2.2.2.2.2.2.1 y33.2.2.2.2.2.2.2.2.1 y33.2.2.2.2.2.2.2.2.2.1 y33.2.2.2.2.2.2.2.2.2.2.1 y33.2.2.2.2.2.2.2.2.2.2.2.1 y33.2.2.2.2.2.2.2.2.2.2.2.2.1 y33.2.2.2.2.2.2.2.2.2.2.2.2.2.1 y33.2.2.2.2.2.2.2.2.2.2.2.2.2.2).bind fun y34 => (if (decide ((y34.2.2.2.2.2.2.1.length + 1) * 8 ≤ 140737488355328) && decide (1 ≤ 8)) then (if (decide (((y34.2.2.2.2.2.2.1 ++ [y33.1]).length + 1) * 8 ≤ 140737488355328) && decide (1 ≤ 8)) then (some ((0, 0), 0, y34.2.1, y34.2.2.1, y34.2.2.2.1, y34.2.2.2.2.1, (wrap .i64 (v5 + 1)), ((y34.2.2.2.2.2.2.1 ++ [y33.1]) ++ [y34.1]), y34.2.2.2.2.2.2.2.1, y34.2.2.2.2.2.2.2.2.1, y34.2.2.2.2.2.2.2.2.2.1, y34.2.2.2.2.2.2.2.2.2.2.1, y34.2.2.2.2.2.2.2.2.2.2.2.1, y34.2.2.2.2.2.2.2.2.2.2.2.2.1, y34.2.2.2.2.2.2.2.2.2.2.2.2.2.1, (wrap .i64 (y34.2.2.2.2.2.2.2.2.2.2.2.2.2.2 + 1)), v15)) else none) else none)))) := by
 unfold dG ef
 rw [h0, if_neg (by decide), if_neg (by decide), if_pos hi, hx]
 kernel_rfl
theorem QB (n : Nat) {v1 : List cZ} {v2 : List Int} {v3 : List Int} {v5 : Int} {v6 : List Int} {v7 : List Int} {v8 : List Int} {v9 : List Int} {v10 : Int} {v11 : List Int} {v12 : Int} {v13 : Int} {v14 : Int} {v15 : List (List Int)} {A B : Int} (h0 : decide ((v1.length : Int) > 0) = true) (hi : (decide (0 ≤ v5) && decide (v5 < (v1.length : Int))) = true) (hx : v1.getD v5.toNat ((0 : Int), ((0 : Int), (0 : Int))) = (5, A, B)) : dG n v1 v2 v3 true v5 v6 v7 v8 v9 v10 v11 v12 v13 v14 v15 = (((dX n v1 v2 v3 true v5 v6 v7 v8 v9 v10 v11 v12 v13 v14).bind fun y29 => ((dX n y29.2.1 y29.2.2.1 y29.2.2.2.1 y29.2.2.2.2.1 y29.2.2.2.2.2.1 y29.2.2.2.2.2.2.1 y29.2.2.2.2.2.2.2.1 y29.2.2.2.2.2.2.2.2.1 y29.2.2.2.2.2.2.2.2.2.1 y29.2.2.2.2.2.2.2.2.2.2.1 y29.2.2.2.2.2.2.2.2.2.2.2.1 y29.2.2.2.2.2.2.2.2.2.2.2.2.1 y29.2.2.2.2.2.2.2.2.2.2.2.2.2.1 y29.2.2.2.2.2.2.2.2.2.2.2.2.2.2).bind fun y30 => ((eg n (A) y30.1 y29.1).bind fun y31 => ((gP n y31.2).bind fun y32 => (if (decide ((y30.2.2.2.2.2.2.1.length + 1) * 8 ≤ 140737488355328) && decide (1 ≤ 8)) then (some ((0, 0), 0, y30.2.1, y30.2.2.1, y30.2.2.2.1, y30.2.2.2.2.1, (wrap .i64 (v5 + 1)), (y30.2.2.2.2.2.2.1 ++ [y31.1]), y30.2.2.2.2.2.2.2.1, y30.2.2.2.2.2.2.2.2.1, y30.2.2.2.2.2.2.2.2.2.1, y30.2.2.2.2.2.2.2.2.2.2.1, y30.2.2.2.2.2.2.2.2.2.2.2.1, y30.2.2.2.2.2.2.2.2.2.2.2.2.1, (wrap .i64 (y30.2.2.2.2.2.2.2.2.2.2.2.2.2.1 + y32)), (wrap .i64 (y30.2.2.2.2.2.2.2.2.2.2.2.2.2.2 + 1)), v15)) else none)))))) := by
 unfold dG ef
 rw [h0, if_neg (by decide), if_neg (by decide), if_pos hi, hx]
 kernel_rfl
theorem QC (n : Nat) {v1 : List cZ} {v2 : List Int} {v3 : List Int} {v5 : Int} {v6 : List Int} {v7 : List Int} {v8 : List Int} {v9 : List Int} {v10 : Int} {v11 : List Int} {v12 : Int} {v13 : Int} {v14 : Int} {v15 : List (List Int)} {A B : Int} (h0 : decide ((v1.length : Int) > 0) = true) (hi : (decide (0 ≤ v5) && decide (v5 < (v1.length : Int))) = true) (hx : v1.getD v5.toNat ((0 : Int), ((0 : Int), (0 : Int))) = (6, A, B)) : dG n v1 v2 v3 true v5 v6 v7 v8 v9 v10 v11 v12 v13 v14 v15 = (((dX n v1 v2 v3 true v5 v6 v7 v8 v9 v10 v11 v12 v13 v14).bind fun y27 => ((pq n y27.1).bind fun y28 => (if (decide ((y27.2.2.2.2.2.2.1.length + 1) * 8 ≤ 140737488355328) && decide (1 ≤ 8)) then (some ((0, 0), 0, y27.2.1, y27.2.2.1, y27.2.2.2.1, y27.2.2.2.2.1, (wrap .i64 (v5 + 1)), (y27.2.2.2.2.2.2.1 ++ [y28]), y27.2.2.2.2.2.2.2.1, y27.2.2.2.2.2.2.2.2.1, y27.2.2.2.2.2.2.2.2.2.1, y27.2.2.2.2.2.2.2.2.2.2.1, y27.2.2.2.2.2.2.2.2.2.2.2.1, y27.2.2.2.2.2.2.2.2.2.2.2.2.1, y27.2.2.2.2.2.2.2.2.2.2.2.2.2.1, (wrap .i64 (y27.2.2.2.2.2.2.2.2.2.2.2.2.2.2 + 1)), v15)) else none)))) := by
 unfold dG ef
 rw [h0, if_neg (by decide), if_neg (by decide), if_pos hi, hx]
 kernel_rfl
theorem QD (n : Nat) {v1 : List cZ} {v2 : List Int} {v3 : List Int} {v5 : Int} {v6 : List Int} {v7 : List Int} {v8 : List Int} {v9 : List Int} {v10 : Int} {v11 : List Int} {v12 : Int} {v13 : Int} {v14 : Int} {v15 : List (List Int)} {A B : Int} (h0 : decide ((v1.length : Int) > 0) = true) (hi : (decide (0 ≤ v5) && decide (v5 < (v1.length : Int))) = true) (hx : v1.getD v5.toNat ((0 : Int), ((0 : Int), (0 : Int))) = (7, A, B)) : dG n v1 v2 v3 true v5 v6 v7 v8 v9 v10 v11 v12 v13 v14 v15 = (((dX n v1 v2 v3 true v5 v6 v7 v8 v9 v10 v11 v12 v13 v14).bind fun y25 => ((nq n y25.1).bind fun y26 => (if (decide ((y25.2.2.2.2.2.2.1.length + 1) * 8 ≤ 140737488355328) && decide (1 ≤ 8)) then (some ((0, 0), 0, y25.2.1, y25.2.2.1, y25.2.2.2.1, y25.2.2.2.2.1, (wrap .i64 (v5 + 1)), (y25.2.2.2.2.2.2.1 ++ [y26]), y25.2.2.2.2.2.2.2.1, y25.2.2.2.2.2.2.2.2.1, y25.2.2.2.2.2.2.2.2.2.1, y25.2.2.2.2.2.2.2.2.2.2.1, y25.2.2.2.2.2.2.2.2.2.2.2.1, y25.2.2.2.2.2.2.2.2.2.2.2.2.1, y25.2.2.2.2.2.2.2.2.2.2.2.2.2.1, (wrap .i64 (y25.2.2.2.2.2.2.2.2.2.2.2.2.2.2 + 1)), v15)) else none)))) := by
 unfold dG ef
 rw [h0, if_neg (by decide), if_neg (by decide), if_pos hi, hx]
 kernel_rfl
theorem QE (n : Nat) {v1 : List cZ} {v2 : List Int} {v3 : List Int} {v5 : Int} {v6 : List Int} {v7 : List Int} {v8 : List Int} {v9 : List Int} {v10 : Int} {v11 : List Int} {v12 : Int} {v13 : Int} {v14 : Int} {v15 : List (List Int)} {A B : Int} (h0 : decide ((v1.length : Int) > 0) = true) (hi : (decide (0 ≤ v5) && decide (v5 < (v1.length : Int))) = true) (hx : v1.getD v5.toNat ((0 : Int), ((0 : Int), (0 : Int))) = (8, A, B)) : dG n v1 v2 v3 true v5 v6 v7 v8 v9 v10 v11 v12 v13 v14 v15 = (((dX n v1 v2 v3 true v5 v6 v7 v8 v9 v10 v11 v12 v13 v14).bind fun y23 => ((dX n y23.2.1 y23.2.2.1 y23.2.2.2.1 y23.2.2.2.2.1 y23.2.2.2.2.2.1 y23.2.2.2.2.2.2.1 y23.2.2.2.2.2.2.2.1 y23.2.2.2.2.2.2.2.2.1 y23.2.2.2.2.2.2.2.2.2.1 y23.2.2.2.2.2.2.2.2.2.2.1 y23.2.2.2.2.2.2.2.2.2.2.2.1 y23.2.2.2.2.2.2.2.2.2.2.2.2.1 y23.2.2.2.2.2.2.2.2.2.2.2.2.2.1 y23.2.2.2.2.2.2.2.2.2.2.2.2.2.2).bind fun y24 => (if (decide ((y24.2.2.2.2.2.2.1.length + 1) * 8 ≤ 140737488355328) && decide (1 ≤ 8)) then (some ((0, 0), 0, y24.2.1, y24.2.2.1, y24.2.2.2.1, y24.2.2.2.2.1, (wrap .i64 (v5 + 1)), (y24.2.2.2.2.2.2.1 ++ [(bits .and .i64 y23.1 y24.1)]), y24.2.2.2.2.2.2.2.1, y24.2.2.2.2.2.2.2.2.1, y24.2.2.2.2.2.2.2.2.2.1, y24.2.2.2.2.2.2.2.2.2.2.1, y24.2.2.2.2.2.2.2.2.2.2.2.1, y24.2.2.2.2.2.2.2.2.2.2.2.2.1, y24.2.2.2.2.2.2.2.2.2.2.2.2.2.1, (wrap .i64 (y24.2.2.2.2.2.2.2.2.2.2.2.2.2.2 + 1)), v15)) else none)))) := by
 unfold dG ef
 rw [h0, if_neg (by decide), if_neg (by decide), if_pos hi, hx]
 kernel_rfl
theorem QF (n : Nat) {v1 : List cZ} {v2 : List Int} {v3 : List Int} {v5 : Int} {v6 : List Int} {v7 : List Int} {v8 : List Int} {v9 : List Int} {v10 : Int} {v11 : List Int} {v12 : Int} {v13 : Int} {v14 : Int} {v15 : List (List Int)} {A B : Int} (h0 : decide ((v1.length : Int) > 0) = true) (hi : (decide (0 ≤ v5) && decide (v5 < (v1.length : Int))) = true) (hx : v1.getD v5.toNat ((0 : Int), ((0 : Int), (0 : Int))) = (9, A, B)) : dG n v1 v2 v3 true v5 v6 v7 v8 v9 v10 v11 v12 v13 v14 v15 = (((dX n v1 v2 v3 true v5 v6 v7 v8 v9 v10 v11 v12 v13 v14).bind fun y21 => ((dX n y21.2.1 y21.2.2.1 y21.2.2.2.1 y21.2.2.2.2.1 y21.2.2.2.2.2.1 y21.2.2.2.2.2.2.1 y21.2.2.2.2.2.2.2.1 y21.2.2.2.2.2.2.2.2.1 y21.2.2.2.2.2.2.2.2.2.1 y21.2.2.2.2.2.2.2.2.2.2.1 y21.2.2.2.2.2.2.2.2.2.2.2.1 y21.2.2.2.2.2.2.2.2.2.2.2.2.1 y21.2.2.2.2.2.2.2.2.2.2.2.2.2.1 y21.2.2.2.2.2.2.2.2.2.2.2.2.2.2).bind fun y22 => (if (decide ((y22.2.2.2.2.2.2.1.length + 1) * 8 ≤ 140737488355328) && decide (1 ≤ 8)) then (some ((0, 0), 0, y22.2.1, y22.2.2.1, y22.2.2.2.1, y22.2.2.2.2.1, (wrap .i64 (v5 + 1)), (y22.2.2.2.2.2.2.1 ++ [(bits .or .i64 y21.1 y22.1)]), y22.2.2.2.2.2.2.2.1, y22.2.2.2.2.2.2.2.2.1, y22.2.2.2.2.2.2.2.2.2.1, y22.2.2.2.2.2.2.2.2.2.2.1, y22.2.2.2.2.2.2.2.2.2.2.2.1, y22.2.2.2.2.2.2.2.2.2.2.2.2.1, y22.2.2.2.2.2.2.2.2.2.2.2.2.2.1, (wrap .i64 (y22.2.2.2.2.2.2.2.2.2.2.2.2.2.2 + 1)), v15)) else none)))) := by
 unfold dG ef
 rw [h0, if_neg (by decide), if_neg (by decide), if_pos hi, hx]
 kernel_rfl
theorem P1 (n : Nat) {v1 : List cZ} {v2 : List Int} {v3 : List Int} {v5 : Int} {v6 : List Int} {v7 : List Int} {v8 : List Int} {v9 : List Int} {v10 : Int} {v11 : List Int} {v12 : Int} {v13 : Int} {v14 : Int} {v15 : List (List Int)} {A B : Int} (h0 : decide ((v1.length : Int) > 0) = true) (hi : (decide (0 ≤ v5) && decide (v5 < (v1.length : Int))) = true) (hx : v1.getD v5.toNat ((0 : Int), ((0 : Int), (0 : Int))) = (10, A, B)) : dG n v1 v2 v3 true v5 v6 v7 v8 v9 v10 v11 v12 v13 v14 v15 = ((some ((0, 0), 0, v1, v2, v3, true, (wrap .i64 (v5 + 1)), v6, v7, v8, v9, v10, v11, v12, v13, (wrap .i64 (v14 + 1)), v15))) := by
 unfold dG ef
 rw [h0, if_neg (by decide), if_neg (by decide), if_pos hi, hx]
 kernel_rfl
theorem P2 (n : Nat) {v1 : List cZ} {v2 : List Int} {v3 : List Int} {v5 : Int} {v6 : List Int} {v7 : List Int} {v8 : List Int} {v9 : List Int} {v10 : Int} {v11 : List Int} {v12 : Int} {v13 : Int} {v14 : Int} {v15 : List (List Int)} {A B : Int} (h0 : decide ((v1.length : Int) > 0) = true) (hi : (decide (0 ≤ v5) && decide (v5 < (v1.length : Int))) = true) (hx : v1.getD v5.toNat ((0 : Int), ((0 : Int), (0 : Int))) = (11, A, B)) : dG n v1 v2 v3 true v5 v6 v7 v8 v9 v10 v11 v12 v13 v14 v15 = ((if (decide (0 ≤ A) && decide (A < 8)) then (if (decide ((v6.length + 1) * 8 ≤ 140737488355328) && decide (1 ≤ 8)) then (some ((0, 0), 0, v1, v2, v3, true, (wrap .i64 (v5 + 1)), (v6 ++ [(v7.getD (A).toNat (0 : Int))]), v7, v8, v9, v10, v11, v12, v13, (wrap .i64 (v14 + 1)), v15)) else none) else none)) := by
 unfold dG ef
 rw [h0, if_neg (by decide), if_neg (by decide), if_pos hi, hx]
 kernel_rfl
theorem P3 (n : Nat) {v1 : List cZ} {v2 : List Int} {v3 : List Int} {v5 : Int} {v6 : List Int} {v7 : List Int} {v8 : List Int} {v9 : List Int} {v10 : Int} {v11 : List Int} {v12 : Int} {v13 : Int} {v14 : Int} {v15 : List (List Int)} {A B : Int} (h0 : decide ((v1.length : Int) > 0) = true) (hi : (decide (0 ≤ v5) && decide (v5 < (v1.length : Int))) = true) (hx : v1.getD v5.toNat ((0 : Int), ((0 : Int), (0 : Int))) = (12, A, B)) : dG n v1 v2 v3 true v5 v6 v7 v8 v9 v10 v11 v12 v13 v14 v15 = (((dX n v1 v2 v3 true v5 v6 v7 v8 v9 v10 v11 v12 v13 v14).bind fun y20 => (if (decide (0 ≤ A) && decide (A < 8)) then (some ((0, 0), 0, y20.2.1, y20.2.2.1, y20.2.2.2.1, y20.2.2.2.2.1, (wrap .i64 (v5 + 1)), y20.2.2.2.2.2.2.1, (y20.2.2.2.2.2.2.2.1.set (A).toNat y20.1), y20.2.2.2.2.2.2.2.2.1, y20.2.2.2.2.2.2.2.2.2.1, y20.2.2.2.2.2.2.2.2.2.2.1, y20.2.2.2.2.2.2.2.2.2.2.2.1, y20.2.2.2.2.2.2.2.2.2.2.2.2.1, y20.2.2.2.2.2.2.2.2.2.2.2.2.2.1, (wrap .i64 (y20.2.2.2.2.2.2.2.2.2.2.2.2.2.2 + 1)), v15)) else none))) := by
 unfold dG ef
 rw [h0, if_neg (by decide), if_neg (by decide), if_pos hi, hx]
 kernel_rfl
theorem P4 (n : Nat) {v1 : List cZ} {v2 : List Int} {v3 : List Int} {v5 : Int} {v6 : List Int} {v7 : List Int} {v8 : List Int} {v9 : List Int} {v10 : Int} {v11 : List Int} {v12 : Int} {v13 : Int} {v14 : Int} {v15 : List (List Int)} {A B : Int} (h0 : decide ((v1.length : Int) > 0) = true) (hi : (decide (0 ≤ v5) && decide (v5 < (v1.length : Int))) = true) (hx : v1.getD v5.toNat ((0 : Int), ((0 : Int), (0 : Int))) = (13, A, B)) : dG n v1 v2 v3 true v5 v6 v7 v8 v9 v10 v11 v12 v13 v14 v15 = ((if (decide (0 ≤ A) && decide (A < 8)) then (if (decide ((v6.length + 1) * 8 ≤ 140737488355328) && decide (1 ≤ 8)) then (some ((0, 0), 0, v1, v2, v3, true, (wrap .i64 (v5 + 1)), (v6 ++ [(v3.getD (A).toNat (0 : Int))]), v7, v8, v9, v10, v11, v12, v13, (wrap .i64 (v14 + 1)), v15)) else none) else none)) := by
 unfold dG ef
 rw [h0, if_neg (by decide), if_neg (by decide), if_pos hi, hx]
 kernel_rfl
theorem P5 (n : Nat) {v1 : List cZ} {v2 : List Int} {v3 : List Int} {v5 : Int} {v6 : List Int} {v7 : List Int} {v8 : List Int} {v9 : List Int} {v10 : Int} {v11 : List Int} {v12 : Int} {v13 : Int} {v14 : Int} {v15 : List (List Int)} {A B : Int} (h0 : decide ((v1.length : Int) > 0) = true) (hi : (decide (0 ≤ v5) && decide (v5 < (v1.length : Int))) = true) (hx : v1.getD v5.toNat ((0 : Int), ((0 : Int), (0 : Int))) = (14, A, B)) : dG n v1 v2 v3 true v5 v6 v7 v8 v9 v10 v11 v12 v13 v14 v15 = (((dX n v1 v2 v3 true v5 v6 v7 v8 v9 v10 v11 v12 v13 v14).bind fun y19 => (if (decide (0 ≤ A) && decide (A < 8)) then (some ((0, 0), 0, y19.2.1, y19.2.2.1, (y19.2.2.2.1.set (A).toNat y19.1), y19.2.2.2.2.1, (wrap .i64 (v5 + 1)), y19.2.2.2.2.2.2.1, y19.2.2.2.2.2.2.2.1, y19.2.2.2.2.2.2.2.2.1, y19.2.2.2.2.2.2.2.2.2.1, y19.2.2.2.2.2.2.2.2.2.2.1, y19.2.2.2.2.2.2.2.2.2.2.2.1, y19.2.2.2.2.2.2.2.2.2.2.2.2.1, y19.2.2.2.2.2.2.2.2.2.2.2.2.2.1, (wrap .i64 (y19.2.2.2.2.2.2.2.2.2.2.2.2.2.2 + 1)), v15)) else none))) := by
 unfold dG ef
 rw [h0, if_neg (by decide), if_neg (by decide), if_pos hi, hx]
 kernel_rfl
theorem P6 (n : Nat) {v1 : List cZ} {v2 : List Int} {v3 : List Int} {v5 : Int} {v6 : List Int} {v7 : List Int} {v8 : List Int} {v9 : List Int} {v10 : Int} {v11 : List Int} {v12 : Int} {v13 : Int} {v14 : Int} {v15 : List (List Int)} {A B : Int} (h0 : decide ((v1.length : Int) > 0) = true) (hi : (decide (0 ≤ v5) && decide (v5 < (v1.length : Int))) = true) (hx : v1.getD v5.toNat ((0 : Int), ((0 : Int), (0 : Int))) = (15, A, B)) : dG n v1 v2 v3 true v5 v6 v7 v8 v9 v10 v11 v12 v13 v14 v15 = ((if (decide (0 ≤ A) && decide (A < 16)) then (if (decide ((v6.length + 1) * 8 ≤ 140737488355328) && decide (1 ≤ 8)) then (some ((0, 0), 0, v1, v2, v3, true, (wrap .i64 (v5 + 1)), (v6 ++ [(v8.getD (A).toNat (0 : Int))]), v7, v8, v9, v10, v11, v12, v13, (wrap .i64 (v14 + 1)), v15)) else none) else none)) := by
 unfold dG ef
 rw [h0, if_neg (by decide), if_neg (by decide), if_pos hi, hx]
 kernel_rfl
theorem P7 (n : Nat) {v1 : List cZ} {v2 : List Int} {v3 : List Int} {v5 : Int} {v6 : List Int} {v7 : List Int} {v8 : List Int} {v9 : List Int} {v10 : Int} {v11 : List Int} {v12 : Int} {v13 : Int} {v14 : Int} {v15 : List (List Int)} {A B : Int} (h0 : decide ((v1.length : Int) > 0) = true) (hi : (decide (0 ≤ v5) && decide (v5 < (v1.length : Int))) = true) (hx : v1.getD v5.toNat ((0 : Int), ((0 : Int), (0 : Int))) = (16, A, B)) : dG n v1 v2 v3 true v5 v6 v7 v8 v9 v10 v11 v12 v13 v14 v15 = (((dX n v1 v2 v3 true v5 v6 v7 v8 v9 v10 v11 v12 v13 v14).bind fun y18 => (if (decide (0 ≤ A) && decide (A < 16)) then (if decide (A < 0) then none else (some ((0, 0), 0, y18.2.1, y18.2.2.1, y18.2.2.2.1, y18.2.2.2.2.1, (wrap .i64 (v5 + 1)), y18.2.2.2.2.2.2.1, y18.2.2.2.2.2.2.2.1, y18.2.2.2.2.2.2.2.2.1, (y18.2.2.2.2.2.2.2.2.2.1.set (A).toNat y18.1), (bits .or .i64 y18.2.2.2.2.2.2.2.2.2.2.1 (wrap .i64 (1 * 2 ^ (min (A).toNat 64)))), y18.2.2.2.2.2.2.2.2.2.2.2.1, y18.2.2.2.2.2.2.2.2.2.2.2.2.1, y18.2.2.2.2.2.2.2.2.2.2.2.2.2.1, (wrap .i64 (y18.2.2.2.2.2.2.2.2.2.2.2.2.2.2 + 1)), v15))) else none))) := by
 unfold dG ef
 rw [h0, if_neg (by decide), if_neg (by decide), if_pos hi, hx]
 kernel_rfl
theorem P8 (n : Nat) {v1 : List cZ} {v2 : List Int} {v3 : List Int} {v5 : Int} {v6 : List Int} {v7 : List Int} {v8 : List Int} {v9 : List Int} {v10 : Int} {v11 : List Int} {v12 : Int} {v13 : Int} {v14 : Int} {v15 : List (List Int)} {A B : Int} (h0 : decide ((v1.length : Int) > 0) = true) (hi : (decide (0 ≤ v5) && decide (v5 < (v1.length : Int))) = true) (hx : v1.getD v5.toNat ((0 : Int), ((0 : Int), (0 : Int))) = (17, A, B)) : dG n v1 v2 v3 true v5 v6 v7 v8 v9 v10 v11 v12 v13 v14 v15 = ((if (decide (0 ≤ A) && decide (A < 8)) then (if (decide (0 ≤ B) && decide (B < 8)) then (if (decide ((v6.length + 1) * 8 ≤ 140737488355328) && decide (1 ≤ 8)) then (some ((0, 0), 0, v1, v2, v3, true, (wrap .i64 (v5 + 1)), (v6 ++ [((v15.getD (A).toNat [(0 : Int), (0 : Int), (0 : Int), (0 : Int), (0 : Int), (0 : Int), (0 : Int), (0 : Int)]).getD (B).toNat (0 : Int))]), v7, v8, v9, v10, v11, v12, v13, (wrap .i64 (v14 + 1)), v15)) else none) else none) else none)) := by
 unfold dG ef
 rw [h0, if_neg (by decide), if_neg (by decide), if_pos hi, hx]
 kernel_rfl
theorem P9 (n : Nat) {v1 : List cZ} {v2 : List Int} {v3 : List Int} {v5 : Int} {v6 : List Int} {v7 : List Int} {v8 : List Int} {v9 : List Int} {v10 : Int} {v11 : List Int} {v12 : Int} {v13 : Int} {v14 : Int} {v15 : List (List Int)} {A B : Int} (h0 : decide ((v1.length : Int) > 0) = true) (hi : (decide (0 ≤ v5) && decide (v5 < (v1.length : Int))) = true) (hx : v1.getD v5.toNat ((0 : Int), ((0 : Int), (0 : Int))) = (18, A, B)) : dG n v1 v2 v3 true v5 v6 v7 v8 v9 v10 v11 v12 v13 v14 v15 = (((dX n v1 v2 v3 true v5 v6 v7 v8 v9 v10 v11 v12 v13 v14).bind fun y17 => (if (decide (0 ≤ A) && decide (A < 8)) then (if (decide (0 ≤ B) && decide (B < 8)) then (some ((0, 0), 0, y17.2.1, y17.2.2.1, y17.2.2.2.1, y17.2.2.2.2.1, (wrap .i64 (v5 + 1)), y17.2.2.2.2.2.2.1, y17.2.2.2.2.2.2.2.1, y17.2.2.2.2.2.2.2.2.1, y17.2.2.2.2.2.2.2.2.2.1, y17.2.2.2.2.2.2.2.2.2.2.1, y17.2.2.2.2.2.2.2.2.2.2.2.1, y17.2.2.2.2.2.2.2.2.2.2.2.2.1, y17.2.2.2.2.2.2.2.2.2.2.2.2.2.1, (wrap .i64 (y17.2.2.2.2.2.2.2.2.2.2.2.2.2.2 + 1)), (v15.set (A).toNat ((v15.getD (A).toNat [(0 : Int), (0 : Int), (0 : Int), (0 : Int), (0 : Int), (0 : Int), (0 : Int), (0 : Int)]).set (B).toNat y17.1)))) else none) else none))) := by
 unfold dG ef
 rw [h0, if_neg (by decide), if_neg (by decide), if_pos hi, hx]
 kernel_rfl
theorem Qa (n : Nat) {v1 : List cZ} {v2 : List Int} {v3 : List Int} {v5 : Int} {v6 : List Int} {v7 : List Int} {v8 : List Int} {v9 : List Int} {v10 : Int} {v11 : List Int} {v12 : Int} {v13 : Int} {v14 : Int} {v15 : List (List Int)} {A B : Int} (h0 : decide ((v1.length : Int) > 0) = true) (hi : (decide (0 ≤ v5) && decide (v5 < (v1.length : Int))) = true) (hx : v1.getD v5.toNat ((0 : Int), ((0 : Int), (0 : Int))) = (19, A, B)) : dG n v1 v2 v3 true v5 v6 v7 v8 v9 v10 v11 v12 v13 v14 v15 = ((some ((0, 0), 0, v1, v2, v3, true, (wrap .i64 ((wrap .i64 (v5 + 1)) + A)), v6, v7, v8, v9, v10, v11, v12, v13, (wrap .i64 (v14 + 1)), v15))) := by
 unfold dG ef
 rw [h0, if_neg (by decide), if_neg (by decide), if_pos hi, hx]
 kernel_rfl
theorem Qb (n : Nat) {v1 : List cZ} {v2 : List Int} {v3 : List Int} {v5 : Int} {v6 : List Int} {v7 : List Int} {v8 : List Int} {v9 : List Int} {v10 : Int} {v11 : List Int} {v12 : Int} {v13 : Int} {v14 : Int} {v15 : List (List Int)} {A B : Int} (h0 : decide ((v1.length : Int) > 0) = true) (hi : (decide (0 ≤ v5) && decide (v5 < (v1.length : Int))) = true) (hx : v1.getD v5.toNat ((0 : Int), ((0 : Int), (0 : Int))) = (20, A, B)) : dG n v1 v2 v3 true v5 v6 v7 v8 v9 v10 v11 v12 v13 v14 v15 = (((dX n v1 v2 v3 true v5 v6 v7 v8 v9 v10 v11 v12 v13 v14).bind fun y16 => (if (y16.1 == 0) then (some ((0, 0), 0, y16.2.1, y16.2.2.1, y16.2.2.2.1, y16.2.2.2.2.1, (wrap .i64 ((wrap .i64 (v5 + 1)) + A)), y16.2.2.2.2.2.2.1, y16.2.2.2.2.2.2.2.1, y16.2.2.2.2.2.2.2.2.1, y16.2.2.2.2.2.2.2.2.2.1, y16.2.2.2.2.2.2.2.2.2.2.1, y16.2.2.2.2.2.2.2.2.2.2.2.1, y16.2.2.2.2.2.2.2.2.2.2.2.2.1, y16.2.2.2.2.2.2.2.2.2.2.2.2.2.1, (wrap .i64 (y16.2.2.2.2.2.2.2.2.2.2.2.2.2.2 + 1)), v15)) else (some ((0, 0), 0, y16.2.1, y16.2.2.1, y16.2.2.2.1, y16.2.2.2.2.1, (wrap .i64 (v5 + 1)), y16.2.2.2.2.2.2.1, y16.2.2.2.2.2.2.2.1, y16.2.2.2.2.2.2.2.2.1, y16.2.2.2.2.2.2.2.2.2.1, y16.2.2.2.2.2.2.2.2.2.2.1, y16.2.2.2.2.2.2.2.2.2.2.2.1, y16.2.2.2.2.2.2.2.2.2.2.2.2.1, y16.2.2.2.2.2.2.2.2.2.2.2.2.2.1, (wrap .i64 (y16.2.2.2.2.2.2.2.2.2.2.2.2.2.2 + 1)), v15))))) := by
 unfold dG ef
 rw [h0, if_neg (by decide), if_neg (by decide), if_pos hi, hx]
 kernel_rfl
theorem Qc (n : Nat) {v1 : List cZ} {v2 : List Int} {v3 : List Int} {v5 : Int} {v6 : List Int} {v7 : List Int} {v8 : List Int} {v9 : List Int} {v10 : Int} {v11 : List Int} {v12 : Int} {v13 : Int} {v14 : Int} {v15 : List (List Int)} {A B : Int} (h0 : decide ((v1.length : Int) > 0) = true) (hi : (decide (0 ≤ v5) && decide (v5 < (v1.length : Int))) = true) (hx : v1.getD v5.toNat ((0 : Int), ((0 : Int), (0 : Int))) = (21, A, B)) : dG n v1 v2 v3 true v5 v6 v7 v8 v9 v10 v11 v12 v13 v14 v15 = ((if (decide ((v11.length + 1) * 8 ≤ 140737488355328) && decide (1 ≤ 8)) then (some ((0, 0), 0, v1, v2, v3, true, (wrap .i64 (v5 + 1)), v6, v7, v8, v9, v10, (v11 ++ [A]), v12, v13, (wrap .i64 (v14 + 1)), v15)) else none)) := by
 unfold dG ef
 rw [h0, if_neg (by decide), if_neg (by decide), if_pos hi, hx]
 kernel_rfl
theorem Qd (n : Nat) {v1 : List cZ} {v2 : List Int} {v3 : List Int} {v5 : Int} {v6 : List Int} {v7 : List Int} {v8 : List Int} {v9 : List Int} {v10 : Int} {v11 : List Int} {v12 : Int} {v13 : Int} {v14 : Int} {v15 : List (List Int)} {A B : Int} (h0 : decide ((v1.length : Int) > 0) = true) (hi : (decide (0 ≤ v5) && decide (v5 < (v1.length : Int))) = true) (hx : v1.getD v5.toNat ((0 : Int), ((0 : Int), (0 : Int))) = (22, A, B)) : dG n v1 v2 v3 true v5 v6 v7 v8 v9 v10 v11 v12 v13 v14 v15 = ((if (decide (0 ≤ (wrap .i64 ((v11.length : Int) - 1))) && decide ((wrap .i64 ((v11.length : Int) - 1)) < (v11.length : Int))) then (if (decide (0 ≤ (wrap .i64 ((v11.length : Int) - 1))) && decide ((wrap .i64 ((v11.length : Int) - 1)) < (v11.length : Int))) then (if (decide (0 ≤ (wrap .i64 ((v11.length : Int) - 1))) && decide ((wrap .i64 ((v11.length : Int) - 1)) < (((v11.set ((wrap .i64 ((v11.length : Int) - 1))).toNat (wrap .i64 ((v11.getD ((wrap .i64 ((v11.length : Int) - 1))).toNat (0 : Int)) - 1))).length : Nat) : Int))) then (if (decide (((v11.set ((wrap .i64 ((v11.length : Int) - 1))).toNat (wrap .i64 ((v11.getD ((wrap .i64 ((v11.length : Int) - 1))).toNat (0 : Int)) - 1))).getD ((wrap .i64 ((v11.length : Int) - 1))).toNat (0 : Int)) > 0)) then (if (decide (0 ≤ v5) && decide (v5 < (v2.length : Int))) then (some ((0, 0), 0, v1, v2, v3, true, (wrap .i64 ((v2.getD v5.toNat (0 : Int)) + 1)), v6, v7, v8, v9, v10, (v11.set ((wrap .i64 ((v11.length : Int) - 1))).toNat (wrap .i64 ((v11.getD ((wrap .i64 ((v11.length : Int) - 1))).toNat (0 : Int)) - 1))), v12, v13, (wrap .i64 (v14 + 1)), v15)) else none) else (if (decide (0 ≤ (wrap .i64 ((v11.length : Int) - 1))) && decide ((wrap .i64 ((v11.length : Int) - 1)) ≤ (((v11.set ((wrap .i64 ((v11.length : Int) - 1))).toNat (wrap .i64 ((v11.getD ((wrap .i64 ((v11.length : Int) - 1))).toNat (0 : Int)) - 1))).length : Nat) : Int))) then (some ((0, 0), 0, v1, v2, v3, true, (wrap .i64 (v5 + 1)), v6, v7, v8, v9, v10, ((v11.set ((wrap .i64 ((v11.length : Int) - 1))).toNat (wrap .i64 ((v11.getD ((wrap .i64 ((v11.length : Int) - 1))).toNat (0 : Int)) - 1))).take (((wrap .i64 ((v11.length : Int) - 1))).toNat - 0)), v12, v13, (wrap .i64 (v14 + 1)), v15)) else none)) else none) else none) else none)) := by
 unfold dG ef
 rw [h0, if_neg (by decide), if_neg (by decide), if_pos hi, hx]
 kernel_rfl
theorem Qe (n : Nat) {v1 : List cZ} {v2 : List Int} {v3 : List Int} {v5 : Int} {v6 : List Int} {v7 : List Int} {v8 : List Int} {v9 : List Int} {v10 : Int} {v11 : List Int} {v12 : Int} {v13 : Int} {v14 : Int} {v15 : List (List Int)} {A B : Int} (h0 : decide ((v1.length : Int) > 0) = true) (hi : (decide (0 ≤ v5) && decide (v5 < (v1.length : Int))) = true) (hx : v1.getD v5.toNat ((0 : Int), ((0 : Int), (0 : Int))) = (23, A, B)) : dG n v1 v2 v3 true v5 v6 v7 v8 v9 v10 v11 v12 v13 v14 v15 = ((if decide (A < 0) then none else (some ((1, A), 0, v1, v2, v3, true, (wrap .i64 (v5 + 1)), v6, v7, v8, v9, v10, v11, (bits .or .i64 v12 (wrap .i64 (1 * 2 ^ (min (A).toNat 64)))), v13, (wrap .i64 (v14 + 1)), v15)))) := by
 unfold dG ef
 rw [h0, if_neg (by decide), if_neg (by decide), if_pos hi, hx]
 kernel_rfl
theorem Qf (n : Nat) {v1 : List cZ} {v2 : List Int} {v3 : List Int} {v5 : Int} {v6 : List Int} {v7 : List Int} {v8 : List Int} {v9 : List Int} {v10 : Int} {v11 : List Int} {v12 : Int} {v13 : Int} {v14 : Int} {v15 : List (List Int)} {A B : Int} (h0 : decide ((v1.length : Int) > 0) = true) (hi : (decide (0 ≤ v5) && decide (v5 < (v1.length : Int))) = true) (hx : v1.getD v5.toNat ((0 : Int), ((0 : Int), (0 : Int))) = (24, A, B)) : dG n v1 v2 v3 true v5 v6 v7 v8 v9 v10 v11 v12 v13 v14 v15 = ((if decide (A < 0) then none else (some ((2, A), 0, v1, v2, v3, true, (wrap .i64 (v5 + 1)), v6, v7, v8, v9, v10, v11, (bits .andNot .i64 v12 (wrap .i64 (1 * 2 ^ (min (A).toNat 64)))), v13, (wrap .i64 (v14 + 1)), v15)))) := by
 unfold dG ef
 rw [h0, if_neg (by decide), if_neg (by decide), if_pos hi, hx]
 kernel_rfl
theorem Qg (n : Nat) {v1 : List cZ} {v2 : List Int} {v3 : List Int} {v5 : Int} {v6 : List Int} {v7 : List Int} {v8 : List Int} {v9 : List Int} {v10 : Int} {v11 : List Int} {v12 : Int} {v13 : Int} {v14 : Int} {v15 : List (List Int)} {A B : Int} (h0 : decide ((v1.length : Int) > 0) = true) (hi : (decide (0 ≤ v5) && decide (v5 < (v1.length : Int))) = true) (hx : v1.getD v5.toNat ((0 : Int), ((0 : Int), (0 : Int))) = (25, A, B)) : dG n v1 v2 v3 true v5 v6 v7 v8 v9 v10 v11 v12 v13 v14 v15 = ((some ((3, 0), 0, v1, v2, v3, false, (wrap .i64 (v5 + 1)), v6, v7, v8, v9, v10, v11, v12, v13, (wrap .i64 (v14 + 1)), v15))) := by
 unfold dG ef
 rw [h0, if_neg (by decide), if_neg (by decide), if_pos hi, hx]
 kernel_rfl
def pv (v : List Int) : Int := v.getD (v.length - 1) 0
def pr (v : List Int) : List Int := v.take (v.length - 1)
theorem fS (r : List Int) (x : Int) : pv (r ++ [x]) = x := by
 unfold pv
 rw [aF, aq, aW (by simp)]
 simp
theorem gT (r : List Int) (x : Int) : pr (r ++ [x]) = r := by
 unfold pr
 rw [aF, List.length_singleton, cB, List.take_left']
 rfl
theorem wb (r : List Int) (x y : Int) : pv (r ++ [x, y]) = y := by
 rw [show r ++ [x, y] = (r ++ [x]) ++ [y] by simp, fS]
theorem wc (r : List Int) (x y : Int) : pr (r ++ [x, y]) = r ++ [x] := by
 rw [show r ++ [x, y] = (r ++ [x]) ++ [y] by simp, gT]
theorem Jx {v : List Int} (h : 0 < v.length) (h2 : v.length < 1000) : wrap .i64 ((v.length : Int) - 1) = ((v.length - 1 : Nat) : Int) := by
 rw [dQ (by omega) (by omega)]
 omega
theorem gg (n : Nat) (v1 : List cZ) (v2 v3 : List Int) (v4 : Bool) (v5 : Int) {v6 : List Int} (v7 v8 v9 : List Int) (v10 : Int) (v11 : List Int) (v12 v13 v14 : Int) (h : 0 < v6.length) (h2 : v6.length < 1000) :
  dX n v1 v2 v3 v4 v5 v6 v7 v8 v9 v10 v11 v12 v13 v14 = some (pv v6, v1, v2, v3, v4, v5, pr v6, v7, v8, v9, v10, v11, v12, v13, v14) := by
 unfold dX pv pr
 rw [Jx h h2, if_pos (db (by omega)), if_pos (by simp), ag, bs]
def sy (A a b : Int) : Int × Bool := (eg 0 A a b).getD (0, false)
theorem Po (b : Int) : ¬ bits .and .i64 b 63 < 0 := by
 show ¬ IntKind.i64.wrap ((BitVec.ofInt 64 b &&& BitVec.ofInt 64 ((63 : Nat) : Int)).toNat : Int) < 0
 rw [BitVec.toNat_and, ofInt_u64 63 (by omega)]
 have : (BitVec.ofInt 64 b).toNat &&& 63 ≤ 63 := Nat.and_le_right
 rw [dQ (by omega) (by omega)]
 omega
theorem Jy (n : Nat) {A : Int} (hA : 1 ≤ A ∧ A ≤ 12) (a b : Int) : eg n A a b = some (sy A a b) ∧ (11 ≤ A → (sy A a b).1 = 0 ∨ (sy A a b).1 = 1) := by
 have hc : A = 1 ∨ A = 2 ∨ A = 3 ∨ A = 4 ∨ A = 5 ∨ A = 6 ∨ A = 7 ∨ A = 8 ∨ A = 9 ∨ A = 10 ∨ A = 11 ∨ A = 12 := by omega
 have key : ∀ x, eg n A a b = some x → eg 0 A a b = some x → eg n A a b = some (sy A a b) ∧ sy A a b = x := fun x h1 h2 => by
  unfold sy
  rw [h1, h2]
  exact ⟨rfl, rfl⟩
 have hm := Po b
 rcases hc with rfl | rfl | rfl | rfl | rfl | rfl | rfl | rfl | rfl | rfl | rfl | rfl
 ·exact ⟨(key (wrap .i64 (a + b), false) rfl rfl).1, fun h => by omega⟩
 ·exact ⟨(key (wrap .i64 (a - b), false) rfl rfl).1, fun h => by omega⟩
 ·exact ⟨(key (wrap .i64 (a * b), false) rfl rfl).1, fun h => by omega⟩
 ·have hz : ∀ n, eg n 4 a b = some (if b = 0 then (0, true) else (wrap .i64 (a.tdiv b), false)) := fun n => by
   have : eg n 4 a b = (if (b == 0) then (some (0, true)) else (if (b == 0) then none else (some ((wrap .i64 (a.tdiv b)), false)))) := by kernel_rfl
   rw [this]
   by_cases hb : b = 0
   ·rw [if_pos (by simpa using hb), if_pos hb]
   ·rw [if_neg (by simpa using hb), if_neg (by simpa using hb), if_neg hb]
  exact ⟨(key _ (hz n) (hz 0)).1, fun h => by omega⟩
 ·have hz : ∀ n, eg n 5 a b = some (if b = 0 then (0, true) else (a.tmod b, false)) := fun n => by
   have : eg n 5 a b = (if (b == 0) then (some (0, true)) else (if (b == 0) then none else (some ((a.tmod b), false)))) := by kernel_rfl
   rw [this]
   by_cases hb : b = 0
   ·rw [if_pos (by simpa using hb), if_pos hb]
   ·rw [if_neg (by simpa using hb), if_neg (by simpa using hb), if_neg hb]
  exact ⟨(key _ (hz n) (hz 0)).1, fun h => by omega⟩
 ·exact ⟨(key (bits .and .i64 a b, false) rfl rfl).1, fun h => by omega⟩
 ·exact ⟨(key (bits .or .i64 a b, false) rfl rfl).1, fun h => by omega⟩
 ·exact ⟨(key (bits .xor .i64 a b, false) rfl rfl).1, fun h => by omega⟩
 ·have hz : ∀ n, eg n 9 a b = some (wrap .i64 (a * 2 ^ (min ((bits .and .i64 b 63)).toNat 64)), false) := fun n => by
   have : eg n 9 a b = ((if decide ((bits .and .i64 b 63) < 0) then none else (some (wrap .i64 (a * 2 ^ (min ((bits .and .i64 b 63)).toNat 64)))) : Option Int).bind fun y => some (y, false)) := by kernel_rfl
   rw [this, if_neg (by simpa using hm)]
   rfl
  exact ⟨(key _ (hz n) (hz 0)).1, fun h => by omega⟩
 ·have hz : ∀ n, eg n 10 a b = some ((a.fdiv (2 ^ (min ((bits .and .i64 b 63)).toNat 64))), false) := fun n => by
   have : eg n 10 a b = ((if decide ((bits .and .i64 b 63) < 0) then none else (some (a.fdiv (2 ^ (min ((bits .and .i64 b 63)).toNat 64)))) : Option Int).bind fun y => some (y, false)) := by kernel_rfl
   rw [this, if_neg (by simpa using hm)]
   rfl
  exact ⟨(key _ (hz n) (hz 0)).1, fun h => by omega⟩
 ·have hz : ∀ n, eg n 11 a b = some ((if decide (a < b) = true then 1 else 0), false) := fun n => by
   have : eg n 11 a b = (((if decide (a < b) then (some 1) else (some 0) : Option Int).bind fun y => some y).bind fun y => some (y, false)) := by kernel_rfl
   rw [this]
   split <;> rfl
  obtain ⟨k1, k2⟩ := key _ (hz n) (hz 0)
  refine ⟨k1, fun _ => ?_⟩
  rw [k2]
  simp only
  split
  ·exact .inr rfl
  ·exact .inl rfl
 ·have hz : ∀ n, eg n 12 a b = some ((if (a == b) = true then 1 else 0), false) := fun n => by
   have : eg n 12 a b = (((if (a == b) then (some 1) else (some 0) : Option Int).bind fun y => some y).bind fun y => some (y, false)) := by kernel_rfl
   rw [this]
   split <;> rfl
  obtain ⟨k1, k2⟩ := key _ (hz n) (hz 0)
  refine ⟨k1, fun _ => ?_⟩
  rw [k2]
  simp only
  split
  ·exact .inr rfl
  ·exact .inl rfl
structure MS where
 ret : List Int
 at_ : Int
 stk : List Int
 loc : List Int
 inp : List Int
 out : List Int
 set : Int
 rds : List Int
 held : Int
 flt : Int
 stp : Int
abbrev dF := List (List Int)
abbrev z8 : List Int := [(0 : Int), (0 : Int), (0 : Int), (0 : Int), (0 : Int), (0 : Int), (0 : Int), (0 : Int)]
abbrev mF (A : Int) : Int := wrap .i64 (1 * 2 ^ (min A.toNat 64))
def fz (x : cZ) (s : MS) (mem : dF) : List Int :=
 if x.1 = 1 then s.stk ++ [x.2.1]
 else if x.1 = 2 ∨ x.1 = 12 ∨ x.1 = 14 ∨ x.1 = 16 ∨ x.1 = 18 ∨ x.1 = 20 then pr s.stk
 else if x.1 = 3 then s.stk ++ [pv s.stk]
 else if x.1 = 4 then (pr (pr s.stk) ++ [pv s.stk]) ++ [pv (pr s.stk)]
 else if x.1 = 5 then pr (pr s.stk) ++ [(sy x.2.1 (pv (pr s.stk)) (pv s.stk)).1]
 else if x.1 = 6 then pr s.stk ++ [wrap .i64 (0 - pv s.stk)]
 else if x.1 = 7 then pr s.stk ++ [if pv s.stk = 0 then 1 else 0]
 else if x.1 = 8 then pr (pr s.stk) ++ [bits .and .i64 (pv s.stk) (pv (pr s.stk))]
 else if x.1 = 9 then pr (pr s.stk) ++ [bits .or .i64 (pv s.stk) (pv (pr s.stk))]
 else if x.1 = 11 then s.stk ++ [s.loc.getD x.2.1.toNat 0]
 else if x.1 = 13 then s.stk ++ [s.ret.getD x.2.1.toNat 0]
 else if x.1 = 15 then s.stk ++ [s.inp.getD x.2.1.toNat 0]
 else if x.1 = 17 then s.stk ++ [(mem.getD x.2.1.toNat z8).getD x.2.2.toNat 0]
 else s.stk
def eh (x : cZ) (mt : Int) (s : MS) : Int :=
 if x.1 = 19 then s.at_ + 1 + x.2.1
 else if x.1 = 20 then (if pv s.stk = 0 then s.at_ + 1 + x.2.1 else s.at_ + 1)
 else if x.1 = 22 then (if pv s.rds - 1 > 0 then mt + 1 else s.at_ + 1)
 else s.at_ + 1
def fT (x : cZ) (s : MS) : List Int :=
 if x.1 = 21 then s.rds ++ [x.2.1]
 else if x.1 = 22 then (if pv s.rds - 1 > 0 then pr s.rds ++ [pv s.rds - 1] else pr s.rds)
 else s.rds
def eH (x : cZ) (mt : Int) (s : MS) (mem : dF) : MS where
 ret := if x.1 = 14 then s.ret.set x.2.1.toNat (pv s.stk) else s.ret
 at_ := eh x mt s
 stk := fz x s mem
 loc := if x.1 = 12 then s.loc.set x.2.1.toNat (pv s.stk) else s.loc
 inp := s.inp
 out := if x.1 = 16 then s.out.set x.2.1.toNat (pv s.stk) else s.out
 set := if x.1 = 16 then bits .or .i64 s.set (mF x.2.1) else s.set
 rds := fT x s
 held := if x.1 = 23 then bits .or .i64 s.held (mF x.2.1) else if x.1 = 24 then bits .andNot .i64 s.held (mF x.2.1) else s.held
 flt := if x.1 = 5 then wrap .i64 (s.flt + (if (sy x.2.1 (pv (pr s.stk)) (pv s.stk)).2 = true then 1 else 0)) else s.flt
 stp := wrap .i64 (s.stp + 1)
def lS (x : cZ) (s : MS) (mem : dF) : dF := if x.1 = 18 then mem.set x.2.1.toNat ((mem.getD x.2.1.toNat z8).set x.2.2.toNat (pv s.stk)) else mem
def Sl (x : cZ) : Int × Int := if x.1 = 25 then (3, 0) else if x.1 = 24 then (2, x.2.1) else if x.1 = 23 then (1, x.2.1) else (0, 0)
abbrev LN (l : List cZ) (m : List Int) (on : Bool) (s : MS) (mem : dF) := (l, m, s.ret, on, s.at_, s.stk, s.loc, s.inp, s.out, s.set, s.rds, s.held, s.flt, s.stp, mem)
abbrev zD (n : Nat) (l : List cZ) (m : List Int) (on : Bool) (s : MS) (mem : dF) := dG n l m s.ret on s.at_ s.stk s.loc s.inp s.out s.set s.rds s.held s.flt s.stp mem
theorem nw {o A B : Int} (ho : o = 11 ∨ o = 12 ∨ o = 13 ∨ o = 14 ∨ o = 23 ∨ o = 24) (h : dg (o, A, B) = true) : 0 ≤ A ∧ A ≤ 7 := by
 have key : dc 0 (o, A, B) = (if decide (A ≥ 0) then (if decide (A ≤ 7) then some (B == 0) else some false) else some false) := by
  rcases ho with rfl | rfl | rfl | rfl | rfl | rfl
  ·exact Ma 0 A B
  ·exact Mb 0 A B
  ·exact Mc 0 A B
  ·exact Md 0 A B
  ·exact GZ 0 A B
  ·exact Mj 0 A B
 have h1 := (eZ 0 (o, A, B)).symm.trans key
 rw [h] at h1
 by_cases h2 : A ≥ 0
 ·rw [if_pos (af h2)] at h1
  by_cases h3 : A ≤ 7
  ·exact ⟨h2, h3⟩
  ·rw [if_neg (by simpa using h3)] at h1; cases h1
 ·rw [if_neg (by simpa using h2)] at h1; cases h1
theorem we {o A B : Int} (ho : o = 15 ∨ o = 16) (h : dg (o, A, B) = true) : 0 ≤ A ∧ A ≤ 15 := by
 have key : dc 0 (o, A, B) = (if decide (A ≥ 0) then (if decide (A ≤ 15) then some (B == 0) else some false) else some false) := by
  rcases ho with rfl | rfl
  ·exact Me 0 A B
  ·exact Mf 0 A B
 have h1 := (eZ 0 (o, A, B)).symm.trans key
 rw [h] at h1
 by_cases h2 : A ≥ 0
 ·rw [if_pos (af h2)] at h1
  by_cases h3 : A ≤ 15
  ·exact ⟨h2, h3⟩
  ·rw [if_neg (by simpa using h3)] at h1; cases h1
 ·rw [if_neg (by simpa using h2)] at h1; cases h1
theorem F3 {o A B : Int} (ho : o = 17 ∨ o = 18) (h : dg (o, A, B) = true) : (0 ≤ A ∧ A ≤ 7) ∧ (0 ≤ B ∧ B ≤ 7) := by
 have key : dc 0 (o, A, B) = (if decide (A ≥ 0) then (if decide (A ≤ 7) then (if decide (B ≥ 0) then some (decide (B ≤ 7)) else some false) else some false) else some false) := by
  rcases ho with rfl | rfl
  ·exact GX 0 A B
  ·exact GY 0 A B
 have h1 := (eZ 0 (o, A, B)).symm.trans key
 rw [h] at h1
 by_cases h2 : A ≥ 0
 ·rw [if_pos (af h2)] at h1
  by_cases h3 : A ≤ 7
  ·rw [if_pos (af h3)] at h1
   by_cases h4 : B ≥ 0
   ·rw [if_pos (af h4)] at h1
    exact ⟨⟨h2, h3⟩, h4, aR (au h1).symm⟩
   ·rw [if_neg (by simpa using h4)] at h1; cases h1
  ·rw [if_neg (by simpa using h3)] at h1; cases h1
 ·rw [if_neg (by simpa using h2)] at h1; cases h1
structure Row (l : List cZ) (m h : List Int) (st : List ByteArray) : Prop where
 fine : Fine l m h
 stk : Stk l m st
 rise : LH l m
theorem Pp {l : List cZ} (h1 : eb l = 0) (h2 : eP l = 0) : Row l (scanI l).1 (scanI l).2.1 (mD l) :=
 ⟨jS (vl h1), (G4 h2).2, G8 h1⟩
structure Ok (l : List cZ) (m : List Int) (st : List ByteArray) (s : MS) (i : Nat) (rs : List (Nat × Int)) : Prop where
 place : s.at_ = (i : Int)
 lt : i < l.length
 vt : VT (nK st i) s.stk
 lps : rs.map (·.1) = lps l m i
 rds : s.rds = rs.map (·.2)
 rnd : ∀ e ∈ rs, 1 ≤ e.2 ∧ e.2 ≤ dd l e.1
 held : ∃ v : Nat, s.held = (v : Int) ∧ HeldB l m i v
theorem f8 {v : List Int} (h : v.length ≤ 1000) : (decide ((v.length + 1) * 8 ≤ 140737488355328) && decide (1 ≤ 8)) = true := by simp; omega
theorem jT {A k : Int} (h : 0 ≤ A ∧ A < k) : (decide (0 ≤ A) && decide (A < k)) = true := by simp; exact h
theorem fv (v : List Int) : (pr v).length = v.length - 1 := by
 unfold pr
 rw [bV]
 omega
theorem eC {i : Nat} (h : i < 1000000) : wrap .i64 ((i : Int) + 1) = (i : Int) + 1 := dQ (by omega) (by omega)
theorem LO {r : List Int} {x y : Int} : (r ++ [x]).set r.length y = r ++ [y] := by
 rw [List.set_append_right _ _ (ak _), bq]
 rfl
abbrev eD (n : Nat) (l : List cZ) (m : List Int) (x : cZ) (mt : Int) (s : MS) (mem : dF) : Prop :=
 zD n l m true s mem = some (Sl x, 0, LN l m (decide (x.1 ≠ 25)) (eH x mt s mem) (lS x s mem))
theorem Mk (n : Nat) {l : List cZ} {m : List Int} {i : Nat} (hl : l.length ≤ 200) (hi : i < l.length) {A B : Int} (hx : l.getD i (0, 0, 0) = (1, A, B)) (hr : dg (1, A, B) = true) {ret stk loc inp out rds : List Int} {set held flt stp : Int} {mem : dF} (hs : stk.length ≤ 16) {mt : Int} : eD n l m (1, A, B) mt ⟨ret, (i : Int), stk, loc, inp, out, set, rds, held, flt, stp⟩ mem := by
 have h0 : decide ((l.length : Int) > 0) = true := af (by omega)
 have hi2 : (decide (0 ≤ (i : Int)) && decide ((i : Int) < (l.length : Int))) = true := db hi
 have hx2 : l.getD ((i : Int)).toNat (0, 0, 0) = (1, A, B) := by rw [ag]; exact hx
 have hn := eC (show i < 1000000 by omega)
 refine (Qx n (v1 := l) (v2 := m) (v3 := ret) (v5 := (i : Int)) (v6 := stk) (v7 := loc) (v8 := inp) (v9 := out) (v10 := set) (v11 := rds) (v12 := held) (v13 := flt) (v14 := stp) (v15 := mem) h0 hi2 hx2).trans ?_
 rw [if_pos (f8 (by omega)), hn]
 kernel_rfl
theorem Ml (n : Nat) {l : List cZ} {m : List Int} {i : Nat} (hl : l.length ≤ 200) (hi : i < l.length) {A B : Int} (hx : l.getD i (0, 0, 0) = (2, A, B)) (hr : dg (2, A, B) = true) {ret stk loc inp out rds : List Int} {set held flt stp : Int} {mem : dF} (hs : stk.length ≤ 16) (hd : 1 ≤ stk.length) {mt : Int} : eD n l m (2, A, B) mt ⟨ret, (i : Int), stk, loc, inp, out, set, rds, held, flt, stp⟩ mem := by
 have h0 : decide ((l.length : Int) > 0) = true := af (by omega)
 have hi2 : (decide (0 ≤ (i : Int)) && decide ((i : Int) < (l.length : Int))) = true := db hi
 have hx2 : l.getD ((i : Int)).toNat (0, 0, 0) = (2, A, B) := by rw [ag]; exact hx
 have hn := eC (show i < 1000000 by omega)
 refine (Qy n (v1 := l) (v2 := m) (v3 := ret) (v5 := (i : Int)) (v6 := stk) (v7 := loc) (v8 := inp) (v9 := out) (v10 := set) (v11 := rds) (v12 := held) (v13 := flt) (v14 := stp) (v15 := mem) h0 hi2 hx2).trans ?_
 rw [gg n _ _ _ _ _ (v6 := stk) _ _ _ _ _ _ _ _ (by omega) (by omega), ae, hn]
 kernel_rfl
theorem Sn (n : Nat) {l : List cZ} {m : List Int} {i : Nat} (hl : l.length ≤ 200) (hi : i < l.length) {A B : Int} (hx : l.getD i (0, 0, 0) = (3, A, B)) (hr : dg (3, A, B) = true) {ret stk loc inp out rds : List Int} {set held flt stp : Int} {mem : dF} (hs : stk.length ≤ 16) (hd : 1 ≤ stk.length) {mt : Int} : eD n l m (3, A, B) mt ⟨ret, (i : Int), stk, loc, inp, out, set, rds, held, flt, stp⟩ mem := by
 have h0 : decide ((l.length : Int) > 0) = true := af (by omega)
 have hi2 : (decide (0 ≤ (i : Int)) && decide ((i : Int) < (l.length : Int))) = true := db hi
 have hx2 : l.getD ((i : Int)).toNat (0, 0, 0) = (3, A, B) := by rw [ag]; exact hx
 have hn := eC (show i < 1000000 by omega)
 refine (Qz n (v1 := l) (v2 := m) (v3 := ret) (v5 := (i : Int)) (v6 := stk) (v7 := loc) (v8 := inp) (v9 := out) (v10 := set) (v11 := rds) (v12 := held) (v13 := flt) (v14 := stp) (v15 := mem) h0 hi2 hx2).trans ?_
 rw [Jx (by omega) (by omega), if_pos (db (by omega)), if_pos (f8 (by omega)), hn, ag]
 kernel_rfl
theorem So (n : Nat) {l : List cZ} {m : List Int} {i : Nat} (hl : l.length ≤ 200) (hi : i < l.length) {A B : Int} (hx : l.getD i (0, 0, 0) = (4, A, B)) (hr : dg (4, A, B) = true) {ret stk loc inp out rds : List Int} {set held flt stp : Int} {mem : dF} (hs : stk.length ≤ 16) (hd : 2 ≤ stk.length) {mt : Int} : eD n l m (4, A, B) mt ⟨ret, (i : Int), stk, loc, inp, out, set, rds, held, flt, stp⟩ mem := by
 have h0 : decide ((l.length : Int) > 0) = true := af (by omega)
 have hi2 : (decide (0 ≤ (i : Int)) && decide ((i : Int) < (l.length : Int))) = true := db hi
 have hx2 : l.getD ((i : Int)).toNat (0, 0, 0) = (4, A, B) := by rw [ag]; exact hx
 have hn := eC (show i < 1000000 by omega)
 refine (QA n (v1 := l) (v2 := m) (v3 := ret) (v5 := (i : Int)) (v6 := stk) (v7 := loc) (v8 := inp) (v9 := out) (v10 := set) (v11 := rds) (v12 := held) (v13 := flt) (v14 := stp) (v15 := mem) h0 hi2 hx2).trans ?_
 rw [gg n _ _ _ _ _ (v6 := stk) _ _ _ _ _ _ _ _ (by omega) (by omega), ae, gg n _ _ _ _ _ (v6 := pr stk) _ _ _ _ _ _ _ _ (by rw [fv]; omega) (by rw [fv]; omega), ae]
 simp only []
 rw [if_pos (f8 (by rw [fv, fv]; omega)), if_pos (f8 (by rw [aF, fv, fv, List.length_singleton]; omega)), hn]
 kernel_rfl
theorem Sp (n : Nat) {l : List cZ} {m : List Int} {i : Nat} (hl : l.length ≤ 200) (hi : i < l.length) {A B : Int} (hx : l.getD i (0, 0, 0) = (5, A, B)) (hr : dg (5, A, B) = true) {ret stk loc inp out rds : List Int} {set held flt stp : Int} {mem : dF} (hs : stk.length ≤ 16) (hd : 2 ≤ stk.length) {mt : Int} : eD n l m (5, A, B) mt ⟨ret, (i : Int), stk, loc, inp, out, set, rds, held, flt, stp⟩ mem := by
 have h0 : decide ((l.length : Int) > 0) = true := af (by omega)
 have hi2 : (decide (0 ≤ (i : Int)) && decide ((i : Int) < (l.length : Int))) = true := db hi
 have hx2 : l.getD ((i : Int)).toNat (0, 0, 0) = (5, A, B) := by rw [ag]; exact hx
 have hn := eC (show i < 1000000 by omega)
 have hb : ∀ b : Bool, gP n b = some (if b = true then 1 else 0) := fun b => by cases b <;> rfl
 refine (QB n (v1 := l) (v2 := m) (v3 := ret) (v5 := (i : Int)) (v6 := stk) (v7 := loc) (v8 := inp) (v9 := out) (v10 := set) (v11 := rds) (v12 := held) (v13 := flt) (v14 := stp) (v15 := mem) h0 hi2 hx2).trans ?_
 rw [gg n _ _ _ _ _ (v6 := stk) _ _ _ _ _ _ _ _ (by omega) (by omega), ae, gg n _ _ _ _ _ (v6 := pr stk) _ _ _ _ _ _ _ _ (by rw [fv]; omega) (by rw [fv]; omega), ae]
 simp only []
 rw [(Jy n (D1 hr) _ _).1, ae]
 rw [hb, ae, if_pos (f8 (by rw [fv, fv]; omega)), hn]
 kernel_rfl
theorem Sq (n : Nat) {l : List cZ} {m : List Int} {i : Nat} (hl : l.length ≤ 200) (hi : i < l.length) {A B : Int} (hx : l.getD i (0, 0, 0) = (6, A, B)) (hr : dg (6, A, B) = true) {ret stk loc inp out rds : List Int} {set held flt stp : Int} {mem : dF} (hs : stk.length ≤ 16) (hd : 1 ≤ stk.length) {mt : Int} : eD n l m (6, A, B) mt ⟨ret, (i : Int), stk, loc, inp, out, set, rds, held, flt, stp⟩ mem := by
 have h0 : decide ((l.length : Int) > 0) = true := af (by omega)
 have hi2 : (decide (0 ≤ (i : Int)) && decide ((i : Int) < (l.length : Int))) = true := db hi
 have hx2 : l.getD ((i : Int)).toNat (0, 0, 0) = (6, A, B) := by rw [ag]; exact hx
 have hn := eC (show i < 1000000 by omega)
 refine (QC n (v1 := l) (v2 := m) (v3 := ret) (v5 := (i : Int)) (v6 := stk) (v7 := loc) (v8 := inp) (v9 := out) (v10 := set) (v11 := rds) (v12 := held) (v13 := flt) (v14 := stp) (v15 := mem) h0 hi2 hx2).trans ?_
 rw [gg n _ _ _ _ _ (v6 := stk) _ _ _ _ _ _ _ _ (by omega) (by omega), ae]
 simp only []
 rw [show pq n (pv stk) = some (wrap .i64 (0 - pv stk)) from rfl, ae, if_pos (f8 (by rw [fv]; omega)), hn]
 kernel_rfl
theorem Sr (n : Nat) {l : List cZ} {m : List Int} {i : Nat} (hl : l.length ≤ 200) (hi : i < l.length) {A B : Int} (hx : l.getD i (0, 0, 0) = (7, A, B)) (hr : dg (7, A, B) = true) {ret stk loc inp out rds : List Int} {set held flt stp : Int} {mem : dF} (hs : stk.length ≤ 16) (hd : 1 ≤ stk.length) {mt : Int} : eD n l m (7, A, B) mt ⟨ret, (i : Int), stk, loc, inp, out, set, rds, held, flt, stp⟩ mem := by
 have h0 : decide ((l.length : Int) > 0) = true := af (by omega)
 have hi2 : (decide (0 ≤ (i : Int)) && decide ((i : Int) < (l.length : Int))) = true := db hi
 have hx2 : l.getD ((i : Int)).toNat (0, 0, 0) = (7, A, B) := by rw [ag]; exact hx
 have hn := eC (show i < 1000000 by omega)
 have hb : nq n (pv stk) = some (if pv stk = 0 then 1 else 0) := by
  unfold nq gP
  by_cases h : pv stk = 0
  ·rw [if_pos (by simpa using h), if_pos h]; rfl
  ·rw [if_neg (by simpa using h), if_neg h]; rfl
 refine (QD n (v1 := l) (v2 := m) (v3 := ret) (v5 := (i : Int)) (v6 := stk) (v7 := loc) (v8 := inp) (v9 := out) (v10 := set) (v11 := rds) (v12 := held) (v13 := flt) (v14 := stp) (v15 := mem) h0 hi2 hx2).trans ?_
 rw [gg n _ _ _ _ _ (v6 := stk) _ _ _ _ _ _ _ _ (by omega) (by omega), ae]
 simp only []
 rw [hb, ae, if_pos (f8 (by rw [fv]; omega)), hn]
 kernel_rfl
theorem Ss (n : Nat) {l : List cZ} {m : List Int} {i : Nat} (hl : l.length ≤ 200) (hi : i < l.length) {A B : Int} (hx : l.getD i (0, 0, 0) = (8, A, B)) (hr : dg (8, A, B) = true) {ret stk loc inp out rds : List Int} {set held flt stp : Int} {mem : dF} (hs : stk.length ≤ 16) (hd : 2 ≤ stk.length) {mt : Int} : eD n l m (8, A, B) mt ⟨ret, (i : Int), stk, loc, inp, out, set, rds, held, flt, stp⟩ mem := by
 have h0 : decide ((l.length : Int) > 0) = true := af (by omega)
 have hi2 : (decide (0 ≤ (i : Int)) && decide ((i : Int) < (l.length : Int))) = true := db hi
 have hx2 : l.getD ((i : Int)).toNat (0, 0, 0) = (8, A, B) := by rw [ag]; exact hx
 have hn := eC (show i < 1000000 by omega)
 refine (QE n (v1 := l) (v2 := m) (v3 := ret) (v5 := (i : Int)) (v6 := stk) (v7 := loc) (v8 := inp) (v9 := out) (v10 := set) (v11 := rds) (v12 := held) (v13 := flt) (v14 := stp) (v15 := mem) h0 hi2 hx2).trans ?_
 rw [gg n _ _ _ _ _ (v6 := stk) _ _ _ _ _ _ _ _ (by omega) (by omega), ae, gg n _ _ _ _ _ (v6 := pr stk) _ _ _ _ _ _ _ _ (by rw [fv]; omega) (by rw [fv]; omega), ae]
 simp only []
 rw [if_pos (f8 (by rw [fv, fv]; omega)), hn]
 kernel_rfl
theorem Su (n : Nat) {l : List cZ} {m : List Int} {i : Nat} (hl : l.length ≤ 200) (hi : i < l.length) {A B : Int} (hx : l.getD i (0, 0, 0) = (9, A, B)) (hr : dg (9, A, B) = true) {ret stk loc inp out rds : List Int} {set held flt stp : Int} {mem : dF} (hs : stk.length ≤ 16) (hd : 2 ≤ stk.length) {mt : Int} : eD n l m (9, A, B) mt ⟨ret, (i : Int), stk, loc, inp, out, set, rds, held, flt, stp⟩ mem := by
 have h0 : decide ((l.length : Int) > 0) = true := af (by omega)
 have hi2 : (decide (0 ≤ (i : Int)) && decide ((i : Int) < (l.length : Int))) = true := db hi
 have hx2 : l.getD ((i : Int)).toNat (0, 0, 0) = (9, A, B) := by rw [ag]; exact hx
 have hn := eC (show i < 1000000 by omega)
 refine (QF n (v1 := l) (v2 := m) (v3 := ret) (v5 := (i : Int)) (v6 := stk) (v7 := loc) (v8 := inp) (v9 := out) (v10 := set) (v11 := rds) (v12 := held) (v13 := flt) (v14 := stp) (v15 := mem) h0 hi2 hx2).trans ?_
 rw [gg n _ _ _ _ _ (v6 := stk) _ _ _ _ _ _ _ _ (by omega) (by omega), ae, gg n _ _ _ _ _ (v6 := pr stk) _ _ _ _ _ _ _ _ (by rw [fv]; omega) (by rw [fv]; omega), ae]
 simp only []
 rw [if_pos (f8 (by rw [fv, fv]; omega)), hn]
 kernel_rfl
theorem QG (n : Nat) {l : List cZ} {m : List Int} {i : Nat} (hl : l.length ≤ 200) (hi : i < l.length) {A B : Int} (hx : l.getD i (0, 0, 0) = (10, A, B)) (hr : dg (10, A, B) = true) {ret stk loc inp out rds : List Int} {set held flt stp : Int} {mem : dF} (hs : stk.length ≤ 16) {mt : Int} : eD n l m (10, A, B) mt ⟨ret, (i : Int), stk, loc, inp, out, set, rds, held, flt, stp⟩ mem := by
 have h0 : decide ((l.length : Int) > 0) = true := af (by omega)
 have hi2 : (decide (0 ≤ (i : Int)) && decide ((i : Int) < (l.length : Int))) = true := db hi
 have hx2 : l.getD ((i : Int)).toNat (0, 0, 0) = (10, A, B) := by rw [ag]; exact hx
 have hn := eC (show i < 1000000 by omega)
 refine (P1 n (v1 := l) (v2 := m) (v3 := ret) (v5 := (i : Int)) (v6 := stk) (v7 := loc) (v8 := inp) (v9 := out) (v10 := set) (v11 := rds) (v12 := held) (v13 := flt) (v14 := stp) (v15 := mem) h0 hi2 hx2).trans ?_
 rw [hn]
 kernel_rfl
theorem QH (n : Nat) {l : List cZ} {m : List Int} {i : Nat} (hl : l.length ≤ 200) (hi : i < l.length) {A B : Int} (hx : l.getD i (0, 0, 0) = (11, A, B)) (hr : dg (11, A, B) = true) {ret stk loc inp out rds : List Int} {set held flt stp : Int} {mem : dF} (hs : stk.length ≤ 16) {mt : Int} : eD n l m (11, A, B) mt ⟨ret, (i : Int), stk, loc, inp, out, set, rds, held, flt, stp⟩ mem := by
 have h0 : decide ((l.length : Int) > 0) = true := af (by omega)
 have hi2 : (decide (0 ≤ (i : Int)) && decide ((i : Int) < (l.length : Int))) = true := db hi
 have hx2 : l.getD ((i : Int)).toNat (0, 0, 0) = (11, A, B) := by rw [ag]; exact hx
 have hn := eC (show i < 1000000 by omega)
 have ha := nw (by omega) hr
 refine (P2 n (v1 := l) (v2 := m) (v3 := ret) (v5 := (i : Int)) (v6 := stk) (v7 := loc) (v8 := inp) (v9 := out) (v10 := set) (v11 := rds) (v12 := held) (v13 := flt) (v14 := stp) (v15 := mem) h0 hi2 hx2).trans ?_
 rw [if_pos (jT (by omega)), if_pos (f8 (by omega)), hn]
 kernel_rfl
theorem QI (n : Nat) {l : List cZ} {m : List Int} {i : Nat} (hl : l.length ≤ 200) (hi : i < l.length) {A B : Int} (hx : l.getD i (0, 0, 0) = (13, A, B)) (hr : dg (13, A, B) = true) {ret stk loc inp out rds : List Int} {set held flt stp : Int} {mem : dF} (hs : stk.length ≤ 16) {mt : Int} : eD n l m (13, A, B) mt ⟨ret, (i : Int), stk, loc, inp, out, set, rds, held, flt, stp⟩ mem := by
 have h0 : decide ((l.length : Int) > 0) = true := af (by omega)
 have hi2 : (decide (0 ≤ (i : Int)) && decide ((i : Int) < (l.length : Int))) = true := db hi
 have hx2 : l.getD ((i : Int)).toNat (0, 0, 0) = (13, A, B) := by rw [ag]; exact hx
 have hn := eC (show i < 1000000 by omega)
 have ha := nw (by omega) hr
 refine (P4 n (v1 := l) (v2 := m) (v3 := ret) (v5 := (i : Int)) (v6 := stk) (v7 := loc) (v8 := inp) (v9 := out) (v10 := set) (v11 := rds) (v12 := held) (v13 := flt) (v14 := stp) (v15 := mem) h0 hi2 hx2).trans ?_
 rw [if_pos (jT (by omega)), if_pos (f8 (by omega)), hn]
 kernel_rfl
theorem QJ (n : Nat) {l : List cZ} {m : List Int} {i : Nat} (hl : l.length ≤ 200) (hi : i < l.length) {A B : Int} (hx : l.getD i (0, 0, 0) = (15, A, B)) (hr : dg (15, A, B) = true) {ret stk loc inp out rds : List Int} {set held flt stp : Int} {mem : dF} (hs : stk.length ≤ 16) {mt : Int} : eD n l m (15, A, B) mt ⟨ret, (i : Int), stk, loc, inp, out, set, rds, held, flt, stp⟩ mem := by
 have h0 : decide ((l.length : Int) > 0) = true := af (by omega)
 have hi2 : (decide (0 ≤ (i : Int)) && decide ((i : Int) < (l.length : Int))) = true := db hi
 have hx2 : l.getD ((i : Int)).toNat (0, 0, 0) = (15, A, B) := by rw [ag]; exact hx
 have hn := eC (show i < 1000000 by omega)
 have ha := we (by omega) hr
 refine (P6 n (v1 := l) (v2 := m) (v3 := ret) (v5 := (i : Int)) (v6 := stk) (v7 := loc) (v8 := inp) (v9 := out) (v10 := set) (v11 := rds) (v12 := held) (v13 := flt) (v14 := stp) (v15 := mem) h0 hi2 hx2).trans ?_
 rw [if_pos (jT (by omega)), if_pos (f8 (by omega)), hn]
 kernel_rfl
theorem QK (n : Nat) {l : List cZ} {m : List Int} {i : Nat} (hl : l.length ≤ 200) (hi : i < l.length) {A B : Int} (hx : l.getD i (0, 0, 0) = (17, A, B)) (hr : dg (17, A, B) = true) {ret stk loc inp out rds : List Int} {set held flt stp : Int} {mem : dF} (hs : stk.length ≤ 16) {mt : Int} : eD n l m (17, A, B) mt ⟨ret, (i : Int), stk, loc, inp, out, set, rds, held, flt, stp⟩ mem := by
 have h0 : decide ((l.length : Int) > 0) = true := af (by omega)
 have hi2 : (decide (0 ≤ (i : Int)) && decide ((i : Int) < (l.length : Int))) = true := db hi
 have hx2 : l.getD ((i : Int)).toNat (0, 0, 0) = (17, A, B) := by rw [ag]; exact hx
 have hn := eC (show i < 1000000 by omega)
 have ha := F3 (by omega) hr
 refine (P8 n (v1 := l) (v2 := m) (v3 := ret) (v5 := (i : Int)) (v6 := stk) (v7 := loc) (v8 := inp) (v9 := out) (v10 := set) (v11 := rds) (v12 := held) (v13 := flt) (v14 := stp) (v15 := mem) h0 hi2 hx2).trans ?_
 rw [if_pos (jT (by omega)), if_pos (jT (by omega)), if_pos (f8 (by omega)), hn]
 kernel_rfl
theorem QL (n : Nat) {l : List cZ} {m : List Int} {i : Nat} (hl : l.length ≤ 200) (hi : i < l.length) {A B : Int} (hx : l.getD i (0, 0, 0) = (12, A, B)) (hr : dg (12, A, B) = true) {ret stk loc inp out rds : List Int} {set held flt stp : Int} {mem : dF} (hs : stk.length ≤ 16) (hd : 1 ≤ stk.length) {mt : Int} : eD n l m (12, A, B) mt ⟨ret, (i : Int), stk, loc, inp, out, set, rds, held, flt, stp⟩ mem := by
 have h0 : decide ((l.length : Int) > 0) = true := af (by omega)
 have hi2 : (decide (0 ≤ (i : Int)) && decide ((i : Int) < (l.length : Int))) = true := db hi
 have hx2 : l.getD ((i : Int)).toNat (0, 0, 0) = (12, A, B) := by rw [ag]; exact hx
 have hn := eC (show i < 1000000 by omega)
 have ha := nw (by omega) hr
 refine (P3 n (v1 := l) (v2 := m) (v3 := ret) (v5 := (i : Int)) (v6 := stk) (v7 := loc) (v8 := inp) (v9 := out) (v10 := set) (v11 := rds) (v12 := held) (v13 := flt) (v14 := stp) (v15 := mem) h0 hi2 hx2).trans ?_
 rw [gg n _ _ _ _ _ (v6 := stk) _ _ _ _ _ _ _ _ (by omega) (by omega), ae, if_pos (jT (by omega)), hn]
 kernel_rfl
theorem QM (n : Nat) {l : List cZ} {m : List Int} {i : Nat} (hl : l.length ≤ 200) (hi : i < l.length) {A B : Int} (hx : l.getD i (0, 0, 0) = (14, A, B)) (hr : dg (14, A, B) = true) {ret stk loc inp out rds : List Int} {set held flt stp : Int} {mem : dF} (hs : stk.length ≤ 16) (hd : 1 ≤ stk.length) {mt : Int} : eD n l m (14, A, B) mt ⟨ret, (i : Int), stk, loc, inp, out, set, rds, held, flt, stp⟩ mem := by
 have h0 : decide ((l.length : Int) > 0) = true := af (by omega)
 have hi2 : (decide (0 ≤ (i : Int)) && decide ((i : Int) < (l.length : Int))) = true := db hi
 have hx2 : l.getD ((i : Int)).toNat (0, 0, 0) = (14, A, B) := by rw [ag]; exact hx
 have hn := eC (show i < 1000000 by omega)
 have ha := nw (by omega) hr
 refine (P5 n (v1 := l) (v2 := m) (v3 := ret) (v5 := (i : Int)) (v6 := stk) (v7 := loc) (v8 := inp) (v9 := out) (v10 := set) (v11 := rds) (v12 := held) (v13 := flt) (v14 := stp) (v15 := mem) h0 hi2 hx2).trans ?_
 rw [gg n _ _ _ _ _ (v6 := stk) _ _ _ _ _ _ _ _ (by omega) (by omega), ae, if_pos (jT (by omega)), hn]
 kernel_rfl
theorem QN (n : Nat) {l : List cZ} {m : List Int} {i : Nat} (hl : l.length ≤ 200) (hi : i < l.length) {A B : Int} (hx : l.getD i (0, 0, 0) = (16, A, B)) (hr : dg (16, A, B) = true) {ret stk loc inp out rds : List Int} {set held flt stp : Int} {mem : dF} (hs : stk.length ≤ 16) (hd : 1 ≤ stk.length) {mt : Int} : eD n l m (16, A, B) mt ⟨ret, (i : Int), stk, loc, inp, out, set, rds, held, flt, stp⟩ mem := by
 have h0 : decide ((l.length : Int) > 0) = true := af (by omega)
 have hi2 : (decide (0 ≤ (i : Int)) && decide ((i : Int) < (l.length : Int))) = true := db hi
 have hx2 : l.getD ((i : Int)).toNat (0, 0, 0) = (16, A, B) := by rw [ag]; exact hx
 have hn := eC (show i < 1000000 by omega)
 have ha := we (by omega) hr
 refine (P7 n (v1 := l) (v2 := m) (v3 := ret) (v5 := (i : Int)) (v6 := stk) (v7 := loc) (v8 := inp) (v9 := out) (v10 := set) (v11 := rds) (v12 := held) (v13 := flt) (v14 := stp) (v15 := mem) h0 hi2 hx2).trans ?_
 rw [gg n _ _ _ _ _ (v6 := stk) _ _ _ _ _ _ _ _ (by omega) (by omega), ae, if_pos (jT (by omega)), if_neg (by simp; omega), hn]
 kernel_rfl
theorem QO (n : Nat) {l : List cZ} {m : List Int} {i : Nat} (hl : l.length ≤ 200) (hi : i < l.length) {A B : Int} (hx : l.getD i (0, 0, 0) = (18, A, B)) (hr : dg (18, A, B) = true) {ret stk loc inp out rds : List Int} {set held flt stp : Int} {mem : dF} (hs : stk.length ≤ 16) (hd : 1 ≤ stk.length) {mt : Int} : eD n l m (18, A, B) mt ⟨ret, (i : Int), stk, loc, inp, out, set, rds, held, flt, stp⟩ mem := by
 have h0 : decide ((l.length : Int) > 0) = true := af (by omega)
 have hi2 : (decide (0 ≤ (i : Int)) && decide ((i : Int) < (l.length : Int))) = true := db hi
 have hx2 : l.getD ((i : Int)).toNat (0, 0, 0) = (18, A, B) := by rw [ag]; exact hx
 have hn := eC (show i < 1000000 by omega)
 have ha := F3 (by omega) hr
 refine (P9 n (v1 := l) (v2 := m) (v3 := ret) (v5 := (i : Int)) (v6 := stk) (v7 := loc) (v8 := inp) (v9 := out) (v10 := set) (v11 := rds) (v12 := held) (v13 := flt) (v14 := stp) (v15 := mem) h0 hi2 hx2).trans ?_
 rw [gg n _ _ _ _ _ (v6 := stk) _ _ _ _ _ _ _ _ (by omega) (by omega), ae, if_pos (jT (by omega)), if_pos (jT (by omega)), hn]
 kernel_rfl
theorem QP (n : Nat) {l : List cZ} {m : List Int} {i : Nat} (hl : l.length ≤ 200) (hi : i < l.length) {A B : Int} (hx : l.getD i (0, 0, 0) = (19, A, B)) (hr : dg (19, A, B) = true) {ret stk loc inp out rds : List Int} {set held flt stp : Int} {mem : dF} (hs : stk.length ≤ 16) {mt : Int} : eD n l m (19, A, B) mt ⟨ret, (i : Int), stk, loc, inp, out, set, rds, held, flt, stp⟩ mem := by
 have h0 : decide ((l.length : Int) > 0) = true := af (by omega)
 have hi2 : (decide (0 ≤ (i : Int)) && decide ((i : Int) < (l.length : Int))) = true := db hi
 have hx2 : l.getD ((i : Int)).toNat (0, 0, 0) = (19, A, B) := by rw [ag]; exact hx
 have hn := eC (show i < 1000000 by omega)
 have ha := oX (.inl rfl) hr
 refine (Qa n (v1 := l) (v2 := m) (v3 := ret) (v5 := (i : Int)) (v6 := stk) (v7 := loc) (v8 := inp) (v9 := out) (v10 := set) (v11 := rds) (v12 := held) (v13 := flt) (v14 := stp) (v15 := mem) h0 hi2 hx2).trans ?_
 rw [hn, dQ (show -9223372036854775808 ≤ (i : Int) + 1 + A by omega) (by omega)]
 kernel_rfl
theorem QQ (n : Nat) {l : List cZ} {m : List Int} {i : Nat} (hl : l.length ≤ 200) (hi : i < l.length) {A B : Int} (hx : l.getD i (0, 0, 0) = (20, A, B)) (hr : dg (20, A, B) = true) {ret stk loc inp out rds : List Int} {set held flt stp : Int} {mem : dF} (hs : stk.length ≤ 16) (hd : 1 ≤ stk.length) {mt : Int} : eD n l m (20, A, B) mt ⟨ret, (i : Int), stk, loc, inp, out, set, rds, held, flt, stp⟩ mem := by
 have h0 : decide ((l.length : Int) > 0) = true := af (by omega)
 have hi2 : (decide (0 ≤ (i : Int)) && decide ((i : Int) < (l.length : Int))) = true := db hi
 have hx2 : l.getD ((i : Int)).toNat (0, 0, 0) = (20, A, B) := by rw [ag]; exact hx
 have hn := eC (show i < 1000000 by omega)
 have ha := oX (.inr rfl) hr
 refine (Qb n (v1 := l) (v2 := m) (v3 := ret) (v5 := (i : Int)) (v6 := stk) (v7 := loc) (v8 := inp) (v9 := out) (v10 := set) (v11 := rds) (v12 := held) (v13 := flt) (v14 := stp) (v15 := mem) h0 hi2 hx2).trans ?_
 rw [gg n _ _ _ _ _ (v6 := stk) _ _ _ _ _ _ _ _ (by omega) (by omega), ae]
 simp only []
 rw [hn, dQ (show -9223372036854775808 ≤ (i : Int) + 1 + A by omega) (by omega)]
 by_cases h : pv stk = 0
 ·rw [if_pos (by simpa using h)]
  unfold eH
  rw [show eh (20, A, B) mt ⟨ret, (i : Int), stk, loc, inp, out, set, rds, held, flt, stp⟩ = (i : Int) + 1 + A by
   unfold eh
   rw [if_neg (show ¬ (20 : Int) = 19 by decide), if_pos rfl, if_pos h]]
  kernel_rfl
 ·rw [if_neg (by simpa using h)]
  unfold eH
  rw [show eh (20, A, B) mt ⟨ret, (i : Int), stk, loc, inp, out, set, rds, held, flt, stp⟩ = (i : Int) + 1 by
   unfold eh
   rw [if_neg (show ¬ (20 : Int) = 19 by decide), if_pos rfl, if_neg h]]
  kernel_rfl
theorem QS (n : Nat) {l : List cZ} {m : List Int} {i : Nat} (hl : l.length ≤ 200) (hi : i < l.length) {A B : Int} (hx : l.getD i (0, 0, 0) = (21, A, B)) (hr : dg (21, A, B) = true) {ret stk loc inp out rds : List Int} {set held flt stp : Int} {mem : dF} (hs : stk.length ≤ 16) (hd : rds.length ≤ 200) {mt : Int} : eD n l m (21, A, B) mt ⟨ret, (i : Int), stk, loc, inp, out, set, rds, held, flt, stp⟩ mem := by
 have h0 : decide ((l.length : Int) > 0) = true := af (by omega)
 have hi2 : (decide (0 ≤ (i : Int)) && decide ((i : Int) < (l.length : Int))) = true := db hi
 have hx2 : l.getD ((i : Int)).toNat (0, 0, 0) = (21, A, B) := by rw [ag]; exact hx
 have hn := eC (show i < 1000000 by omega)
 refine (Qc n (v1 := l) (v2 := m) (v3 := ret) (v5 := (i : Int)) (v6 := stk) (v7 := loc) (v8 := inp) (v9 := out) (v10 := set) (v11 := rds) (v12 := held) (v13 := flt) (v14 := stp) (v15 := mem) h0 hi2 hx2).trans ?_
 rw [if_pos (f8 (by omega)), hn]
 kernel_rfl
theorem QT (n : Nat) {l : List cZ} {m : List Int} {i : Nat} (hl : l.length ≤ 200) (hi : i < l.length) {A B : Int} (hx : l.getD i (0, 0, 0) = (22, A, B)) (hr : dg (22, A, B) = true) {ret stk loc inp out rds : List Int} {set held flt stp : Int} {mem : dF} (hs : stk.length ≤ 16) {r0 : List Int} {r : Int} (hrd : rds = r0 ++ [r]) (hr1 : 1 ≤ r ∧ r ≤ 1000) (hd : r0.length ≤ 200) (hm : m.length = l.length) {k : Nat} (hk : m.getD i 0 = (k : Int)) (hk2 : k < i) {mt : Int} (hmt : mt = m.getD i 0) : eD n l m (22, A, B) mt ⟨ret, (i : Int), stk, loc, inp, out, set, rds, held, flt, stp⟩ mem := by
 have h0 : decide ((l.length : Int) > 0) = true := af (by omega)
 have hi2 : (decide (0 ≤ (i : Int)) && decide ((i : Int) < (l.length : Int))) = true := db hi
 have hx2 : l.getD ((i : Int)).toNat (0, 0, 0) = (22, A, B) := by rw [ag]; exact hx
 have hn := eC (show i < 1000000 by omega)
 have hlen : (r0 ++ [r]).length = r0.length + 1 := by simp
 subst hrd
 have e1 : wrap .i64 (((r0 ++ [r]).length : Int) - 1) = (r0.length : Int) := by
  rw [dQ (by omega) (by omega)]; omega
 have e2 : (r0 ++ [r]).getD r0.length 0 = r := by
  have := fS r0 r
  unfold pv at this
  rw [hlen, cB] at this
  exact this
 have e3 : wrap .i64 (r - 1) = r - 1 := dQ (by omega) (by omega)
 have e4 : (r0 ++ [r - 1]).getD r0.length 0 = r - 1 := by
  have := fS r0 (r - 1)
  unfold pv at this
  rw [show (r0 ++ [r - 1]).length = r0.length + 1 by simp, cB] at this
  exact this
 have e5 : (r0 ++ [r - 1]).length = r0.length + 1 := by simp
 have e6 : (r0 ++ [r - 1]).take r0.length = r0 := by rw [List.take_left]
 have a1 : r - 1 > 0 → eh (22, A, B) mt ⟨ret, (i : Int), stk, loc, inp, out, set, r0 ++ [r], held, flt, stp⟩ = (k : Int) + 1 ∧ fT (22, A, B) ⟨ret, (i : Int), stk, loc, inp, out, set, r0 ++ [r], held, flt, stp⟩ = r0 ++ [r - 1] := fun h => by
  unfold eh fT
  simp only [fS, gT]
  simp only [if_true, if_pos h, hmt, hk]
  exact ⟨rfl, rfl⟩
 have a2 : ¬ r - 1 > 0 → eh (22, A, B) mt ⟨ret, (i : Int), stk, loc, inp, out, set, r0 ++ [r], held, flt, stp⟩ = (i : Int) + 1 ∧ fT (22, A, B) ⟨ret, (i : Int), stk, loc, inp, out, set, r0 ++ [r], held, flt, stp⟩ = r0 := fun h => by
  unfold eh fT
  simp only [fS, gT]
  simp only [if_true, if_neg h]
  exact ⟨rfl, rfl⟩
 refine (Qd n (v1 := l) (v2 := m) (v3 := ret) (v5 := (i : Int)) (v6 := stk) (v7 := loc) (v8 := inp) (v9 := out) (v10 := set) (v11 := r0 ++ [r]) (v12 := held) (v13 := flt) (v14 := stp) (v15 := mem) h0 hi2 hx2).trans ?_
 rw [e1]
 simp only [ag, e2, e3, LO, e4, bs, e6, hk]
 rw [if_pos (db (by omega)), if_pos (db (by omega)), if_pos (db (by omega)), hn, eC (show k < 1000000 by omega)]
 by_cases h : r - 1 > 0
 ·rw [if_pos (af h), if_pos (db (by omega))]
  unfold eH
  rw [(a1 h).1, (a1 h).2]
  kernel_rfl
 ·rw [if_neg (by simpa using h), if_pos (by simp only [e5, aj, av]; omega)]
  unfold eH
  rw [(a2 h).1, (a2 h).2]
  kernel_rfl
theorem QU (n : Nat) {l : List cZ} {m : List Int} {i : Nat} (hl : l.length ≤ 200) (hi : i < l.length) {A B : Int} (hx : l.getD i (0, 0, 0) = (23, A, B)) (hr : dg (23, A, B) = true) {ret stk loc inp out rds : List Int} {set held flt stp : Int} {mem : dF} (hs : stk.length ≤ 16) {mt : Int} : eD n l m (23, A, B) mt ⟨ret, (i : Int), stk, loc, inp, out, set, rds, held, flt, stp⟩ mem := by
 have h0 : decide ((l.length : Int) > 0) = true := af (by omega)
 have hi2 : (decide (0 ≤ (i : Int)) && decide ((i : Int) < (l.length : Int))) = true := db hi
 have hx2 : l.getD ((i : Int)).toNat (0, 0, 0) = (23, A, B) := by rw [ag]; exact hx
 have hn := eC (show i < 1000000 by omega)
 have ha := nw (by omega) hr
 refine (Qe n (v1 := l) (v2 := m) (v3 := ret) (v5 := (i : Int)) (v6 := stk) (v7 := loc) (v8 := inp) (v9 := out) (v10 := set) (v11 := rds) (v12 := held) (v13 := flt) (v14 := stp) (v15 := mem) h0 hi2 hx2).trans ?_
 rw [if_neg (by simp; omega), hn]
 kernel_rfl
theorem QV (n : Nat) {l : List cZ} {m : List Int} {i : Nat} (hl : l.length ≤ 200) (hi : i < l.length) {A B : Int} (hx : l.getD i (0, 0, 0) = (24, A, B)) (hr : dg (24, A, B) = true) {ret stk loc inp out rds : List Int} {set held flt stp : Int} {mem : dF} (hs : stk.length ≤ 16) {mt : Int} : eD n l m (24, A, B) mt ⟨ret, (i : Int), stk, loc, inp, out, set, rds, held, flt, stp⟩ mem := by
 have h0 : decide ((l.length : Int) > 0) = true := af (by omega)
 have hi2 : (decide (0 ≤ (i : Int)) && decide ((i : Int) < (l.length : Int))) = true := db hi
 have hx2 : l.getD ((i : Int)).toNat (0, 0, 0) = (24, A, B) := by rw [ag]; exact hx
 have hn := eC (show i < 1000000 by omega)
 have ha := nw (by omega) hr
 refine (Qf n (v1 := l) (v2 := m) (v3 := ret) (v5 := (i : Int)) (v6 := stk) (v7 := loc) (v8 := inp) (v9 := out) (v10 := set) (v11 := rds) (v12 := held) (v13 := flt) (v14 := stp) (v15 := mem) h0 hi2 hx2).trans ?_
 rw [if_neg (by simp; omega), hn]
 kernel_rfl
theorem QW (n : Nat) {l : List cZ} {m : List Int} {i : Nat} (hl : l.length ≤ 200) (hi : i < l.length) {A B : Int} (hx : l.getD i (0, 0, 0) = (25, A, B)) (hr : dg (25, A, B) = true) {ret stk loc inp out rds : List Int} {set held flt stp : Int} {mem : dF} (hs : stk.length ≤ 16) {mt : Int} : eD n l m (25, A, B) mt ⟨ret, (i : Int), stk, loc, inp, out, set, rds, held, flt, stp⟩ mem := by
 have h0 : decide ((l.length : Int) > 0) = true := af (by omega)
 have hi2 : (decide (0 ≤ (i : Int)) && decide ((i : Int) < (l.length : Int))) = true := db hi
 have hx2 : l.getD ((i : Int)).toNat (0, 0, 0) = (25, A, B) := by rw [ag]; exact hx
 have hn := eC (show i < 1000000 by omega)
 refine (Qg n (v1 := l) (v2 := m) (v3 := ret) (v5 := (i : Int)) (v6 := stk) (v7 := loc) (v8 := inp) (v9 := out) (v10 := set) (v11 := rds) (v12 := held) (v13 := flt) (v14 := stp) (v15 := mem) h0 hi2 hx2).trans ?_
 rw [hn]
 kernel_rfl
theorem Jz {x y : Int} (hx : x = 0 ∨ x = 1) (hy : y = 0 ∨ y = 1) : (bits .and .i64 y x = 0 ∨ bits .and .i64 y x = 1) ∧ (bits .or .i64 y x = 0 ∨ bits .or .i64 y x = 1) := by
 rcases hx with rfl | rfl <;> rcases hy with rfl | rfl
 ·exact ⟨.inl (by kernel_rfl), .inl (by kernel_rfl)⟩
 ·exact ⟨.inl (by kernel_rfl), .inr (by kernel_rfl)⟩
 ·exact ⟨.inl (by kernel_rfl), .inr (by kernel_rfl)⟩
 ·exact ⟨.inr (by kernel_rfl), .inr (by kernel_rfl)⟩
theorem Al {o A B : Int} {t : ByteArray} {S : MS} {mem : dF} (hr : dg (o, A, B) = true) (h : (dt (o, A, B) t).2 = 0) (hv : VT t S.stk) :
  VT (dt (o, A, B) t).1 (fz (o, A, B) S mem) ∧ (o = 2 ∨ o = 3 ∨ o = 6 ∨ o = 7 ∨ o = 12 ∨ o = 14 ∨ o = 16 ∨ o = 18 ∨ o = 20 → 1 ≤ S.stk.length) ∧ (o = 4 ∨ o = 5 ∨ o = 8 ∨ o = 9 → 2 ≤ S.stk.length) := by
 have hA := fun (h5 : o = 5) => D1 (h5 ▸ hr)
 have in_ : ∀ y, (o = 1 ∨ o = 11 ∨ o = 13 ∨ o = 15 ∨ o = 17) → fz (o, A, B) S mem = S.stk ++ [y] → VT (dt (o, A, B) t).1 (fz (o, A, B) S mem) ∧ (o = 2 ∨ o = 3 ∨ o = 6 ∨ o = 7 ∨ o = 12 ∨ o = 14 ∨ o = 16 ∨ o = 18 ∨ o = 20 → 1 ≤ S.stk.length) ∧ (o = 4 ∨ o = 5 ∨ o = 8 ∨ o = 9 → 2 ≤ S.stk.length) := fun y ho e => by
  rw [e]
  exact ⟨P0 h hv ho y, fun h => by omega, fun h => by omega⟩
 have out : (o = 2 ∨ o = 12 ∨ o = 14 ∨ o = 16 ∨ o = 18 ∨ o = 20) → VT (dt (o, A, B) t).1 (fz (o, A, B) S mem) ∧ (o = 2 ∨ o = 3 ∨ o = 6 ∨ o = 7 ∨ o = 12 ∨ o = 14 ∨ o = 16 ∨ o = 18 ∨ o = 20 → 1 ≤ S.stk.length) ∧ (o = 4 ∨ o = 5 ∨ o = 8 ∨ o = 9 → 2 ≤ S.stk.length) := fun ho => by
  obtain ⟨r, x, e1, e2⟩ := Pg h hv ho
  have e : fz (o, A, B) S mem = pr S.stk := by
   unfold fz
   rw [if_neg (by show ¬ o = 1; omega), if_pos (show o = 2 ∨ o = 12 ∨ o = 14 ∨ o = 16 ∨ o = 18 ∨ o = 20 from ho)]
  rw [e, e1, gT]
  exact ⟨e2, fun _ => by simp, fun h => by omega⟩
 have no : (o = 19 ∨ o = 21 ∨ o = 22 ∨ o = 23 ∨ o = 24 ∨ o = 25) → fz (o, A, B) S mem = S.stk → VT (dt (o, A, B) t).1 (fz (o, A, B) S mem) ∧ (o = 2 ∨ o = 3 ∨ o = 6 ∨ o = 7 ∨ o = 12 ∨ o = 14 ∨ o = 16 ∨ o = 18 ∨ o = 20 → 1 ≤ S.stk.length) ∧ (o = 4 ∨ o = 5 ∨ o = 8 ∨ o = 9 → 2 ≤ S.stk.length) := fun ho e => by
  rw [e]
  exact ⟨G9 h hv ho, fun h => by omega, fun h => by omega⟩
 rcases oZ (mC hr) with ho | ho | ho | ho | ho | ho | ho | ho | ho | ho | ho | ho | ho | ho | ho | ho | ho | ho | ho | ho | ho | ho | ho | ho | ho
 ·exact in_ A (by omega) (by subst ho; kernel_rfl)
 ·exact out (by omega)
 ·obtain ⟨r, x, e1, e2⟩ := Ph h hv ho
  have e : fz (o, A, B) S mem = S.stk ++ [pv S.stk] := by subst ho; kernel_rfl
  rw [e, e1, fS, aI]
  exact ⟨e2, fun _ => by simp, fun h => by omega⟩
 ·obtain ⟨r, x, y, e1, e2⟩ := MT h hv ho
  have e : fz (o, A, B) S mem = (pr (pr S.stk) ++ [pv S.stk]) ++ [pv (pr S.stk)] := by subst ho; kernel_rfl
  rw [e, e1, wb, wc, fS, gT, aI]
  exact ⟨e2, fun h => by omega, fun _ => by simp⟩
 ·obtain ⟨r, x, y, e1, e2⟩ := Pk h hv ho
  have e : fz (o, A, B) S mem = pr (pr S.stk) ++ [(sy A (pv (pr S.stk)) (pv S.stk)).1] := by subst ho; kernel_rfl
  rw [e, e1, wb, wc, fS, gT]
  exact ⟨e2 _ (Jy 0 (hA ho) _ _).2, fun h => by omega, fun _ => by simp⟩
 ·obtain ⟨r, x, e1, e2⟩ := Pi h hv ho
  have e : fz (o, A, B) S mem = pr S.stk ++ [wrap .i64 (0 - pv S.stk)] := by subst ho; kernel_rfl
  rw [e, e1, gT]
  exact ⟨e2 _, fun _ => by simp, fun h => by omega⟩
 ·obtain ⟨r, x, e1, e2, e3⟩ := Pj h hv ho
  have e : fz (o, A, B) S mem = pr S.stk ++ [if pv S.stk = 0 then 1 else 0] := by subst ho; kernel_rfl
  rw [e, e1, gT]
  exact ⟨e3 _ (by split; exact .inr rfl; exact .inl rfl), fun _ => by simp, fun h => by omega⟩
 ·obtain ⟨r, x, y, e1, e2, e3, e4⟩ := Jq h hv (.inl ho)
  have e : fz (o, A, B) S mem = pr (pr S.stk) ++ [bits .and .i64 (pv S.stk) (pv (pr S.stk))] := by subst ho; kernel_rfl
  rw [e, e1, wb, wc, fS, gT]
  exact ⟨e4 _ (Jz e2 e3).1, fun h => by omega, fun _ => by simp⟩
 ·obtain ⟨r, x, y, e1, e2, e3, e4⟩ := Jq h hv (.inr ho)
  have e : fz (o, A, B) S mem = pr (pr S.stk) ++ [bits .or .i64 (pv S.stk) (pv (pr S.stk))] := by subst ho; kernel_rfl
  rw [e, e1, wb, wc, fS, gT]
  exact ⟨e4 _ (Jz e2 e3).2, fun h => by omega, fun _ => by simp⟩
 ·have e : fz (o, A, B) S mem = S.stk := by subst ho; kernel_rfl
  rw [e]
  exact ⟨MQ h hv ho, fun h => by omega, fun h => by omega⟩
 ·exact in_ (S.loc.getD A.toNat 0) (by omega) (by subst ho; kernel_rfl)
 ·exact out (by omega)
 ·exact in_ (S.ret.getD A.toNat 0) (by omega) (by subst ho; kernel_rfl)
 ·exact out (by omega)
 ·exact in_ (S.inp.getD A.toNat 0) (by omega) (by subst ho; kernel_rfl)
 ·exact out (by omega)
 ·exact in_ ((mem.getD A.toNat z8).getD B.toNat 0) (by omega) (by subst ho; kernel_rfl)
 ·exact out (by omega)
 ·exact no (by omega) (by subst ho; kernel_rfl)
 ·exact out (by omega)
 ·exact no (by omega) (by subst ho; kernel_rfl)
 ·exact no (by omega) (by subst ho; kernel_rfl)
 ·exact no (by omega) (by subst ho; kernel_rfl)
 ·exact no (by omega) (by subst ho; kernel_rfl)
 ·exact no (by omega) (by subst ho; kernel_rfl)
theorem Ok.len {l : List cZ} {m h : List Int} {st : List ByteArray} (hR : Row l m h st) {s : MS} {i : Nat} {rs : List (Nat × Int)} (hO : Ok l m st s i rs) : s.stk.length ≤ 16 ∧ s.rds.length ≤ 200 ∧ l.length ≤ 200 := by
 have h1 := hO.vt.len
 have h2 := hR.stk.sz i
 have h3 := hR.fine.len
 have h4 : rs.length ≤ i := by
  have e : (rs.map (·.1)).length = rs.length := cd _
  rw [← e, hO.lps]
  unfold Go.Proofs.Dk.lps
  exact aT (List.length_filter_le _ _) (by rw [List.length_range]; exact ak _)
 have h5 := hO.lt
 rw [hO.rds, cd]
 omega
theorem MW {l : List cZ} {m h : List Int} {st : List ByteArray} (hR : Row l m h st) {s : MS} {i : Nat} {rs : List (Nat × Int)} (hO : Ok l m st s i rs) (n : Nat) (mem : dF) : eD n l m (l.getD i (0, 0, 0)) (m.getD i 0) s mem := by
 obtain ⟨hstk, hrl, hl⟩ := hO.len hR
 have hi := hO.lt
 have hF := hR.fine
 have hr := hF.right hi
 have hok := hR.stk.ok i hi
 have hlast : opAt l i = 22 → ∃ (k : Nat) (r0 : List Int) (r : Int), m.getD i 0 = (k : Int) ∧ k < i ∧ s.rds = r0 ++ [r] ∧ 1 ≤ r ∧ r ≤ 1000 ∧ r0.length ≤ 200 := fun h22 => by
  obtain ⟨k, a1, a2, a3, a4, a5, a6, a7⟩ := o8 hF hi h22
  have e := hO.lps
  rw [a5] at e
  obtain ⟨rs0, rs1, e1, e2, e3⟩ := List.map_eq_append_iff.1 e
  obtain ⟨q, e4, e5⟩ := List.map_eq_singleton_iff.1 e3
  have hb := hO.rnd q (by rw [e1, e4]; simp)
  have hA := zB (hF.right (show k < l.length by omega)) a3
  rw [e5] at hb
  refine ⟨k, rs0.map (·.2), q.2, a1, a2, by rw [hO.rds, e1, e4]; simp, hb.1, by omega, ?_⟩
  have := hrl
  rw [hO.rds, e1, e4] at this
  simp at this ⊢
  omega
 have hv := Al (o := (l.getD i (0, 0, 0)).1) (A := (l.getD i (0, 0, 0)).2.1) (B := (l.getD i (0, 0, 0)).2.2) (S := s) (mem := mem) hr hok hO.vt
 have d1 := hv.2.1
 have d2 := hv.2.2
 have hp := hO.place
 clear hv hok hO
 unfold opAt at hlast
 generalize hx : l.getD i (0, 0, 0) = x at hr d1 d2 hlast
 obtain ⟨o, A, B⟩ := x
 obtain ⟨ret, at_, stk, loc, inp, out, set, rds, held, flt, stp⟩ := s
 simp only at hstk hrl d1 d2 hp hlast
 subst hp
 rcases oZ (mC hr) with rfl | rfl | rfl | rfl | rfl | rfl | rfl | rfl | rfl | rfl | rfl | rfl | rfl | rfl | rfl | rfl | rfl | rfl | rfl | rfl | rfl | rfl | rfl | rfl | rfl
 ·exact Mk n hl hi hx hr hstk
 ·exact Ml n hl hi hx hr hstk (d1 (by decide))
 ·exact Sn n hl hi hx hr hstk (d1 (by decide))
 ·exact So n hl hi hx hr hstk (d2 (by decide))
 ·exact Sp n hl hi hx hr hstk (d2 (by decide))
 ·exact Sq n hl hi hx hr hstk (d1 (by decide))
 ·exact Sr n hl hi hx hr hstk (d1 (by decide))
 ·exact Ss n hl hi hx hr hstk (d2 (by decide))
 ·exact Su n hl hi hx hr hstk (d2 (by decide))
 ·exact QG n hl hi hx hr hstk
 ·exact QH n hl hi hx hr hstk
 ·exact QL n hl hi hx hr hstk (d1 (by decide))
 ·exact QI n hl hi hx hr hstk
 ·exact QM n hl hi hx hr hstk (d1 (by decide))
 ·exact QJ n hl hi hx hr hstk
 ·exact QN n hl hi hx hr hstk (d1 (by decide))
 ·exact QK n hl hi hx hr hstk
 ·exact QO n hl hi hx hr hstk (d1 (by decide))
 ·exact QP n hl hi hx hr hstk
 ·exact QQ n hl hi hx hr hstk (d1 (by decide))
 ·exact QS n hl hi hx hr hstk hrl
 ·obtain ⟨k, r0, r, e1, e2, e3, e4, e5, e6⟩ := hlast rfl
  exact QT n hl hi hx hr hstk e3 ⟨e4, e5⟩ e6 hF.nest.hm e1 e2 rfl
 ·exact QU n hl hi hx hr hstk
 ·exact QV n hl hi hx hr hstk
 ·exact QW n hl hi hx hr hstk
theorem wg {A : Int} {a : Nat} (h : A = (a : Int)) (ha : a ≤ 7) : mF A = ((2 ^ a : Nat) : Int) := by
 subst h
 exact A8 ha
theorem Bn (v a : Nat) (hv : v < 256) (ha : a ≤ 7) : ∃ w : Nat, bits .andNot .i64 (v : Int) ((2 ^ a : Nat) : Int) = (w : Int) ∧ w < 256 ∧ ∀ b, w.testBit b = (v.testBit b && decide (b ≠ a)) := by
 have h2 : 2 ^ a < 2 ^ 8 := Nat.pow_lt_pow_right (by omega) (by omega)
 have key : bits .andNot .i64 (v : Int) ((2 ^ a : Nat) : Int) = IntKind.i64.wrap (((BitVec.ofInt 64 (v : Int)) &&& ~~~ (BitVec.ofInt 64 ((2 ^ a : Nat) : Int))).toNat : Int) := rfl
 have hw : ∀ b, ((BitVec.ofInt 64 (v : Int)) &&& ~~~ (BitVec.ofInt 64 ((2 ^ a : Nat) : Int))).toNat.testBit b = (v.testBit b && decide (b ≠ a)) := fun b => by
  rw [BitVec.toNat_and, Nat.testBit_and, ofInt_u64 v (by omega)]
  by_cases hb : b < 64
  ·rw [BitVec.testBit_toNat, BitVec.getLsbD_not, ← BitVec.testBit_toNat, ofInt_u64 _ (by omega), Nat.testBit_two_pow, af hb, aU]
   congr 1
   by_cases hab : a = b
   ·rw [af hab, bg (by omega)]; rfl
   ·rw [bg hab, af (by omega)]; rfl
  ·have : v.testBit b = false := Nat.testBit_lt_two_pow (bb hv (by
    have := Nat.pow_le_pow_right (n := 2) (by decide) (show 8 ≤ b by omega)
    omega))
   rw [this, bB, bB]
 generalize hW : ((BitVec.ofInt 64 (v : Int)) &&& ~~~ (BitVec.ofInt 64 ((2 ^ a : Nat) : Int))).toNat = W at key hw
 have hlt : W < 256 := by
  have hle : W ≤ v := by
   rw [← hW, BitVec.toNat_and, ofInt_u64 v (by omega)]
   exact Nat.and_le_left
  omega
 refine ⟨W, ?_, hlt, hw⟩
 rw [key, dQ (by omega) (by omega)]
structure NextI (l : List cZ) (m : List Int) (st : List ByteArray) (i : Nat) (rs : List (Nat × Int)) (s' : MS) : Prop where
 ex : ∃ q rs', Ok l m st s' q rs' ∧ nL l m q rs' + 1 ≤ nL l m i rs
theorem ga {l : List cZ} {i : Nat} (h19 : opAt l i ≠ 19) (h25 : opAt l i ≠ 25) : i + 1 ∈ dA l i := by
 unfold dA
 rw [if_neg h19]
 split
 ·exact aD ..
 ·exact ao.2 rfl
theorem LP {l : List cZ} {m h : List Int} {st : List ByteArray} (hR : Row l m h st) {s s' : MS} {i : Nat} {rs : List (Nat × Int)} (hO : Ok l m st s i rs) (h21 : opAt l i ≠ 21) (h22 : opAt l i ≠ 22) (h23 : opAt l i ≠ 23) (h24 : opAt l i ≠ 24) {q : Nat} (hq : q ∈ dA l i)
  (e1 : s'.at_ = (q : Int)) (e2 : VT (dt (l.getD i (0, 0, 0)) (nK st i)).1 s'.stk) (e3 : s'.rds = s.rds) (e4 : s'.held = s.held) : NextI l m st i rs s' := by
 have hF := hR.fine
 have hi := hO.lt
 have hql := hF.next hi q hq
 have hlps : lps l m q = lps l m i ∧ ∀ v, HeldB l m i v → HeldB l m q v := by
  unfold dA at hq
  split at hq
  ·rename_i h19
   rw [ao] at hq
   subst hq
   exact ⟨sv hF hi (.inl h19), fun v hv => hv.jump hF hi (.inl h19)⟩
  ·split at hq
   ·rename_i h20
    rw [aB, ao] at hq
    rcases hq with rfl | rfl
    ·exact ⟨lh hF hi h21 h22 h24, fun v hv => hv.plain hF hi h23 h22 h24⟩
    ·exact ⟨sv hF hi (.inr h20), fun v hv => hv.jump hF hi (.inr h20)⟩
   ·split at hq
    ·cases hq
    ·rw [ao] at hq
     subst hq
     exact ⟨lh hF hi h21 h22 h24, fun v hv => hv.plain hF hi h23 h22 h24⟩
 refine ⟨q, rs, ⟨e1, hql, ?_, by rw [hlps.1]; exact hO.lps, by rw [e3]; exact hO.rds, hO.rnd, ?_⟩, qP hF hi (yb hq) hO.lps⟩
 ·rw [hR.stk.nx i hi q hq]
  exact e2
 ·obtain ⟨v, v1, v2⟩ := hO.held
  exact ⟨v, e4.trans v1, hlps.2 v v2⟩
theorem JA {l : List cZ} {m h : List Int} {st : List ByteArray} (hR : Row l m h st) {s : MS} {i : Nat} {rs : List (Nat × Int)} (hO : Ok l m st s i rs) (mem : dF) (h25 : opAt l i ≠ 25) : NextI l m st i rs (eH (l.getD i (0, 0, 0)) (m.getD i 0) s mem) := by
 have hi := hO.lt
 have hF := hR.fine
 have hr := hF.right hi
 have hok := hR.stk.ok i hi
 have hp := hO.place
 have hv := (Al (o := (l.getD i (0, 0, 0)).1) (A := (l.getD i (0, 0, 0)).2.1) (B := (l.getD i (0, 0, 0)).2.2) (S := s) (mem := mem) hr hok hO.vt).1
 have hx : l.getD i (0, 0, 0) = (opAt l i, dd l i, (l.getD i (0, 0, 0)).2.2) := rfl
 have hstk : VT (dt (l.getD i (0, 0, 0)) (nK st i)).1 (eH (l.getD i (0, 0, 0)) (m.getD i 0) s mem).stk := hv
 have hrds : opAt l i ≠ 21 → opAt l i ≠ 22 → (eH (l.getD i (0, 0, 0)) (m.getD i 0) s mem).rds = s.rds := fun h1 h2 => by
  show fT _ _ = _
  unfold fT
  rw [if_neg h1, if_neg h2]
 have hheld : opAt l i ≠ 23 → opAt l i ≠ 24 → (eH (l.getD i (0, 0, 0)) (m.getD i 0) s mem).held = s.held := fun h1 h2 => by
  show (if _ then _ else if _ then _ else _) = _
  rw [if_neg h1, if_neg h2]
 have hon : opAt l i ≠ 19 → opAt l i ≠ 20 → opAt l i ≠ 22 → (eH (l.getD i (0, 0, 0)) (m.getD i 0) s mem).at_ = ((i + 1 : Nat) : Int) := fun h1 h2 h3 => by
  show eh _ _ _ = _
  unfold eh
  rw [if_neg h1, if_neg h2, if_neg h3, hp]
  rfl
 by_cases h22 : opAt l i = 22
 ·obtain ⟨k, a1, a2, a3, a4, a5, a6, a7⟩ := o8 hF hi h22
  obtain ⟨k', b1, b2, b3⟩ : ∃ k' : Nat, m.getD i 0 = (k' : Int) ∧ (∀ v, HeldB l m i v → HeldB l m (k' + 1) v) ∧ (∀ v, HeldB l m i v → HeldB l m (i + 1) v) := by
   refine ⟨k, a1, fun v hv => ?_, fun v hv => ?_⟩
   ·obtain ⟨k2, c1, c2, c3⟩ := hv.next hF hi h22
    have : k = k2 := by rw [a1] at c1; omega
    rw [this]; exact c2
   ·obtain ⟨k2, c1, c2, c3⟩ := hv.next hF hi h22
    exact c3
  have hkk : k = k' := by rw [a1] at b1; omega
  subst hkk
  obtain ⟨v, v1, v2⟩ := hO.held
  have e := hO.lps
  rw [a5] at e
  obtain ⟨rs0, rs1, e1, e2, e3⟩ := List.map_eq_append_iff.1 e
  obtain ⟨q, e4, e5⟩ := List.map_eq_singleton_iff.1 e3
  obtain ⟨qk, qr⟩ := q
  simp only at e5
  subst e5
  subst e4
  subst e1
  have hsr : s.rds = rs0.map (·.2) ++ [qr] := by rw [hO.rds]; simp
  have hb := hO.rnd (qk, qr) (by simp)
  have hph := Ee hF hi a2 a3 a4 a5 e2 (r := qr)
  have hst22 := hR.stk.nt i hi h22
  rw [a1, ag] at hst22
  -- the types ahead of the loop's first instruction are those of its Next
  have hgo : nK st (qk + 1) = (dt (l.getD qk (0, 0, 0)) (nK st i)).1 := by
   rw [hR.stk.nx qk (by omega) (qk + 1) (ga (by rw [a3]; decide) (by rw [a3]; decide)), hst22]
  have hx22 : l.getD i (0, 0, 0) = (22, dd l i, (l.getD i (0, 0, 0)).2.2) := by rw [← h22]
  have hst : (eH (l.getD i (0, 0, 0)) (m.getD i 0) s mem).stk = s.stk := by
   have e : ∀ A B, fz (22, A, B) s mem = s.stk := fun A B => by kernel_rfl
   show fz (l.getD i (0, 0, 0)) s mem = _
   rw [hx22, e]
  by_cases hq : qr - 1 > 0
  ·refine ⟨qk + 1, rs0 ++ [(qk, qr - 1)], ⟨?_, by omega, ?_, ?_, ?_, ?_, v, (hheld (by omega) (by omega)).trans v1, b2 v v2⟩, hph.1⟩
   ·show eh _ _ _ = _
    unfold eh
    rw [if_neg (show ¬ opAt l i = 19 by omega), if_neg (show ¬ opAt l i = 20 by omega), if_pos h22, hsr, fS, if_pos hq, a1]
    rfl
   ·rw [hst, hgo]
    have hr2 := hF.right (show qk < l.length by omega)
    have hok2 := hR.stk.ok qk (by omega)
    rw [hst22] at hok2
    exact G9 (o := (l.getD qk (0, 0, 0)).1) (A := (l.getD qk (0, 0, 0)).2.1) (B := (l.getD qk (0, 0, 0)).2.2) hok2 hO.vt (.inr (.inl a3))
   ·rw [a6]; simp [e2]
   ·show fT _ _ = _
    unfold fT
    rw [if_neg (show ¬ opAt l i = 21 by omega), if_pos h22, hsr, fS, gT, if_pos hq]
    simp
   ·intro e he
    rw [aA, ao] at he
    rcases he with he | he
    ·exact hO.rnd e (aY _ he)
    ·subst he
     exact ⟨by show 1 ≤ qr - 1; omega, by have := hb.2; show qr - 1 ≤ dd l qk; simp only at this; omega⟩
  ·have hq1 : qr = 1 := by have := hb.1; simp only at this; omega
   have hnx := ga (l := l) (i := i) (by omega) h25
   refine ⟨i + 1, rs0, ⟨?_, hF.next hi _ hnx, ?_, ?_, ?_, fun e he => hO.rnd e (aY _ he), v, (hheld (by omega) (by omega)).trans v1, b3 v v2⟩, hph.2 hq1⟩
   ·show eh _ _ _ = _
    unfold eh
    rw [if_neg (show ¬ opAt l i = 19 by omega), if_neg (show ¬ opAt l i = 20 by omega), if_pos h22, hsr, fS, if_neg hq, hp]
    rfl
   ·rw [hR.stk.nx i hi _ hnx]
    exact hstk
   ·rw [a7]; exact e2
   ·show fT _ _ = _
    unfold fT
    rw [if_neg (show ¬ opAt l i = 21 by omega), if_pos h22, hsr, fS, gT, if_neg hq]
 by_cases h21 : opAt l i = 21
 ·have hnx := ga (l := l) (i := i) (by omega) h25
  obtain ⟨v, v1, v2⟩ := hO.held
  refine ⟨i + 1, rs ++ [(i, dd l i)], ⟨hon (by omega) (by omega) h22, hF.next hi _ hnx, ?_, ?_, ?_, ?_, v, (hheld (by omega) (by omega)).trans v1, v2.plain hF hi (by omega) h22 (by omega)⟩, Ed hF hi hO.lps⟩
  ·rw [hR.stk.nx i hi _ hnx]; exact hstk
  ·rw [sw hF hi h21]; simp [hO.lps]
  ·show fT _ _ = _
   unfold fT
   rw [if_pos h21, hO.rds, cA]
   rfl
  ·intro e he
   rw [aA, ao] at he
   rcases he with he | he
   ·exact hO.rnd e he
   ·subst he
    exact ⟨(zB hr h21).1, bi _⟩
 by_cases h23 : opAt l i = 23
 ·have hnx := ga (l := l) (i := i) (by omega) h25
  obtain ⟨v, v1, v2⟩ := hO.held
  obtain ⟨a, ha, ha7⟩ := sq hr (.inl h23)
  refine ⟨i + 1, rs, ⟨hon (by omega) (by omega) h22, hF.next hi _ hnx, ?_, ?_, ?_, hO.rnd, v ||| 2 ^ a, ?_, v2.lockS hF hi h23 ha ha7⟩, qP hF hi (by omega) hO.lps⟩
  ·rw [hR.stk.nx i hi _ hnx]; exact hstk
  ·rw [lh hF hi h21 h22 (by omega)]; exact hO.lps
  ·rw [hrds h21 h22]; exact hO.rds
  ·show (if _ then _ else if _ then _ else _) = _
   rw [if_pos h23, v1]
   show bits .or .i64 (v : Int) (mF (dd l i)) = _
   rw [wg ha ha7]
   exact DZ v (2 ^ a) v2.1 (by have := Nat.pow_lt_pow_right (a := 2) (by omega) (show a < 8 by omega); omega)
 by_cases h24 : opAt l i = 24
 ·have hnx := ga (l := l) (i := i) (by omega) h25
  obtain ⟨v, v1, v2⟩ := hO.held
  have h0 := nw (o := (l.getD i (0, 0, 0)).1) (A := (l.getD i (0, 0, 0)).2.1) (B := (l.getD i (0, 0, 0)).2.2) (by rw [show (l.getD i (0, 0, 0)).1 = 24 from h24]; omega) hr
  obtain ⟨a, ha, ha7⟩ : ∃ a : Nat, dd l i = (a : Int) ∧ a ≤ 7 := ⟨(dd l i).toNat, by unfold dd; omega, by unfold dd; omega⟩
  obtain ⟨w, w1, w2, w3⟩ := Bn v a v2.1 ha7
  refine ⟨i + 1, rs, ⟨hon (by omega) (by omega) h22, hF.next hi _ hnx, ?_, ?_, ?_, hO.rnd, w, ?_, v2.unlock hF hR.rise hi h24 ha w2 w3⟩, qP hF hi (by omega) hO.lps⟩
  ·rw [hR.stk.nx i hi _ hnx]; exact hstk
  ·rw [zy hF hi h24]; exact hO.lps
  ·rw [hrds h21 h22]; exact hO.rds
  ·show (if _ then _ else if _ then _ else _) = _
   rw [if_neg h23, if_pos h24, v1]
   show bits .andNot .i64 (v : Int) (mF (dd l i)) = _
   rw [wg ha ha7]
   exact w1
 have key := fun {q : Nat} (hq : q ∈ dA l i) (e1 : (eH (l.getD i (0, 0, 0)) (m.getD i 0) s mem).at_ = (q : Int)) => LP hR hO h21 h22 h23 h24 hq e1 hstk (hrds h21 h22) (hheld h23 h24)
 by_cases h19 : opAt l i = 19
 ·have hj := oX (o := (l.getD i (0, 0, 0)).1) (A := (l.getD i (0, 0, 0)).2.1) (B := (l.getD i (0, 0, 0)).2.2) (.inl h19) hr
  refine key (q := dp l i) (by unfold dA; rw [if_pos h19]; exact ao.2 rfl) ?_
  show eh _ _ _ = _
  unfold eh dp
  rw [if_pos h19, hp]
  omega
 by_cases h20 : opAt l i = 20
 ·have hj := oX (o := (l.getD i (0, 0, 0)).1) (A := (l.getD i (0, 0, 0)).2.1) (B := (l.getD i (0, 0, 0)).2.2) (.inr h20) hr
  by_cases hz : pv s.stk = 0
  ·refine key (q := dp l i) (by unfold dA; rw [if_neg h19, if_pos h20]; simp) ?_
   show eh _ _ _ = _
   unfold eh dp
   rw [if_neg h19, if_pos h20, if_pos hz, hp]
   omega
  ·refine key (q := i + 1) (by unfold dA; rw [if_neg h19, if_pos h20]; simp) ?_
   show eh _ _ _ = _
   unfold eh
   rw [if_neg h19, if_pos h20, if_neg hz, hp]
   rfl
 ·exact key (q := i + 1) (ga h19 h25) (hon h19 h20 h22)
structure Meas (b : Int → Int → Int) (P : Int → Int → Prop) (Q : Int → Int → Int → Prop) : Prop where
 bet : vf b
 zero : P 0 0
 one : ∀ t v, 0 ≤ t → 0 ≤ v ∧ v ≤ 1048577 → P t v → P (t + 1) (dY v 1)
 none_ : ∀ w, Q 0 0 w
 round : ∀ c n w t, 0 ≤ c → 0 ≤ n → 0 ≤ t → 0 ≤ w ∧ w ≤ 1048577 → Q c n w → P t w → Q (c + t + 1) (n + 1) w
 loop : ∀ t v c w A, 0 ≤ t → 0 ≤ v ∧ v ≤ 1048577 → 0 ≤ c → 0 ≤ w ∧ w ≤ 1048577 → 1 ≤ A → P t v → Q c A w → P (t + 1 + c) (dY v (fO w A))
 put : ∀ (D : Nat → Int) (k : Nat) (v t : Int), 0 ≤ v ∧ v ≤ 1048577 → (∀ j, StepsI (D j)) → P t v → P t (eN b D k v k)
 keep : ∀ (D : Nat → Int) (q k : Nat) (v t : Int), 0 ≤ v ∧ v ≤ 1048577 → (∀ j, StepsI (D j)) → D k ≠ -1 → P t (D k) → P t (eN b D q v k)
def s7 (t v : Int) : Prop := fM t ≤ v
def JB (c n w : Int) : Prop := w + 1 < 1048577 → c ≤ n * (w + 1)
theorem MX (v : Int) : fM v ≤ 1048577 := by unfold fM; split <;> omega
theorem JC {a b : Int} (h : a ≤ b) : fM a ≤ fM b := by unfold fM; split <;> split <;> omega
theorem Am : Meas bM s7 JB where
 bet := nu
 zero := by unfold s7 fM; decide
 one := fun t v ht hv h => by unfold s7 fM at *; unfold dY; split at h <;> split <;> split <;> omega
 none_ := fun w => by intro h; simp
 round := fun c n w t hc hn ht hw h1 h2 => by
  intro h
  have h3 := h1 h
  unfold s7 fM at h2
  rw [Int.add_mul, Int.one_mul]
  split at h2 <;> omega
 loop := fun t v c w A ht hv hc hw hA h1 h2 => by
  unfold s7 at *
  have hp : 0 ≤ A * (w + 1) := cn (by omega) (by omega)
  by_cases hs : w + 1 < 1048577
  ·have h3 := h2 hs
   have e : fO w A = fM (1 + A * (w + 1)) := by
    have := vq hw.1 hA
    rw [show fM w = w by unfold fM; rw [if_neg (by omega)]] at this
    exact this
   rw [e]
   have h4 : fM (t + 1 + c) ≤ dY (fM t) (fM (1 + A * (w + 1))) := by
    rw [LL ht (by omega)]
    exact JC (by omega)
   refine Int.le_trans h4 (FZ h1 (bi _))
  ·have e : fO w A = 1048577 := by
    unfold fO dY
    rw [if_pos (by split <;> omega)]
   rw [e]
   have := MX (t + 1 + c)
   unfold dY
   split <;> omega
 put := fun D k v t hv hD h => by
  unfold s7 eN at *
  rw [if_pos rfl]
  split
  ·exact h
  ·unfold bM
   split <;> omega
 keep := fun D q k v t hv hD hk h => by
  unfold s7 eN at *
  split
  ·rename_i e
   subst e
   rw [if_neg hk]
   unfold bM
   split <;> omega
  ·exact h
abbrev Dw (b : Int → Int → Int) (l : List cZ) (m : List Int) (f a z : Nat) : Nat → Int := fy b (er b l m f) l m (z - a) a (gS a)
theorem vr {b : Int → Int → Int} {P : Int → Int → Prop} {Q : Int → Int → Int → Prop} (hM : Meas b P Q) {v t : Int} (hv : 0 ≤ v ∧ v ≤ 1048577) : ∀ (ks : List Nat) {D : Nat → Int} {k : Nat}, (∀ j, StepsI (D j)) → D k ≠ -1 → P t (D k) → P t (ks.foldl (fun g k => eN b g k v) D k)
 | [], D, k, _, _, h => h
 | q :: ks, D, k, hD, hk, h => by
  refine vr hM hv ks (D := eN b D q v) (og hM.bet hD q hv) ?_ (hM.keep D q k v t hv hD hk h)
  exact jF hM.bet (by omega) [q] (.inl hk)
theorem F4 {b : Int → Int → Int} {P : Int → Int → Prop} {Q : Int → Int → Int → Prop} (hM : Meas b P Q) {v t : Int} (hv : 0 ≤ v ∧ v ≤ 1048577) (h : P t v) : ∀ (ks : List Nat) {D : Nat → Int} {k : Nat}, (∀ j, StepsI (D j)) → k ∈ ks → P t (ks.foldl (fun g k => eN b g k v) D k)
 | q :: ks, D, k, hD, hk => by
  by_cases e : k = q
  ·subst e
   refine vr hM hv ks (D := eN b D k v) (og hM.bet hD k hv) ?_ (hM.put D k v t hv hD h)
   exact jF hM.bet (by omega) [k] (.inr (aD ..))
  ·exact F4 hM hv h ks (D := eN b D q v) (og hM.bet hD q hv) ((aB.1 hk).resolve_left e)
theorem JD {b : Int → Int → Int} {P : Int → Int → Prop} {Q : Int → Int → Int → Prop} (hM : Meas b P Q) {W : Nat → Nat → Int} {l : List cZ} {m : List Int} {i : Nat} {D : Nat → Int} (hD : ∀ k, StepsI (D k)) (hr : dg (l.getD i (0, 0, 0)) = true) (hW : opAt l i = 21 → StepsI (W (i + 1) (mN m i))) {k : Nat} {t : Int} (hk : D k ≠ -1) (h : P t (D k)) : fa b W l m i D k ≠ -1 ∧ P t (fa b W l m i D k) := by
 unfold fa
 split
 ·exact ⟨hk, h⟩
 ·rename_i hi
  have hDi := (hD i).nn hi
  have hv := i0 hDi.1 (kH hr hW).1
  exact ⟨jF hM.bet (by omega) _ (.inl hk), vr hM hv _ hD hk h⟩
theorem Ef {b : Int → Int → Int} {P : Int → Int → Prop} {Q : Int → Int → Int → Prop} (hM : Meas b P Q) {W : Nat → Nat → Int} {l : List cZ} {m : List Int} (hr : ∀ i, i < l.length → dg (l.getD i (0, 0, 0)) = true) : ∀ (r i : Nat) {D : Nat → Int} {k : Nat} {t : Int}, (∀ k, StepsI (D k)) → r + i ≤ l.length → (∀ k, i ≤ k → k < r + i → opAt l k = 21 → StepsI (W (k + 1) (mN m k))) → D k ≠ -1 → P t (D k) → fy b W l m r i D k ≠ -1 ∧ P t (fy b W l m r i D k)
 | 0, i, D, k, t, hD, hl, hW, hk, h => ⟨hk, h⟩
 | r + 1, i, D, k, t, hD, hl, hW, hk, h => by
  have h1 := JD hM hD (hr i (by omega)) (hW i (ak _) (by omega)) hk h
  exact Ef hM hr r (i + 1) (kI hM.bet hD (hr i (by omega)) (hW i (ak _) (by omega))) (by omega) (fun k h1 h2 => hW k (by omega) (by omega)) h1.1 h1.2
theorem sC {b : Int → Int → Int} {v : Int} {k : Nat} : ∀ (ks : List Nat) {D : Nat → Int}, (∀ q ∈ ks, q ≠ k) → ks.foldl (fun g k => eN b g k v) D k = D k
 | [], D, h => rfl
 | q :: ks, D, h => by
  refine (sC ks (D := eN b D q v) fun p hp => h p (az _ hp)).trans ?_
  unfold eN
  rw [if_neg (fun e => h q (aD ..) e.symm)]
theorem Ao {b : Int → Int → Int} {W : Nat → Nat → Int} {l : List cZ} {m : List Int} {a z : Nat} (hR : Reg l m a z) : ∀ (r i : Nat) {D : Nat → Int} {k : Nat}, a ≤ i → i + r ≤ z → k ≤ i → fy b W l m r i D k = D k
 | 0, i, D, k, _, _, _ => rfl
 | r + 1, i, D, k, ha, hz, hk => by
  show fy b W l m r (i + 1) (fa b W l m i D) k = D k
  rw [Ao hR r (i + 1) (by omega) (by omega) (by omega)]
  unfold fa
  split
  ·rfl
  ·exact sC _ fun q hq e => by have := (hR.hop ha (by omega)).2 q hq; omega
theorem Eg {b : Int → Int → Int} {P : Int → Int → Prop} {Q : Int → Int → Int → Prop} (hM : Meas b P Q) {l : List cZ} {m h : List Int} (hF : Fine l m h) (f : Nat) {a z : Nat} (hR : Reg l m a z) {i q : Nat} (ha : a ≤ i) (hz : i < z) (hq : q ∈ gE l m i) (hDi : Dw b l m f a z i ≠ -1) {t : Int} (ht : P t (dY (Dw b l m f a z i) (fU (er b l m f) l m i))) :
  Dw b l m f a z q ≠ -1 ∧ P t (Dw b l m f a z q) := by
 have hlt := hR.lt
 have hrr : ∀ i, i < l.length → dg (l.getD i (0, 0, 0)) = true := fun i hi => hF.right hi
 have hWk : ∀ k, a ≤ k → k < z → opAt l k = 21 → StepsI (er b l m f (k + 1) (mN m k)) := fun k k1 k2 k3 => iD hM.bet hF f (hF.reg (by omega) (isOpen_iff.2 (.inl k3)))
 have e : ∀ k, Dw b l m f a z k = fy b (er b l m f) l m (z - i - 1) (i + 1) (fa b (er b l m f) l m i (fy b (er b l m f) l m (i - a) a (gS a))) k := fun k => by
  unfold Dw
  rw [show z - a = (i - a) + ((z - i - 1) + 1) by omega, Eb, show a + (i - a) = i by omega]
  rfl
 have hD0 := qM hM.bet hrr (W := er b l m f) (m := m) (i - a) a (iF a) (by omega) (fun k k1 k2 k3 => hWk k k1 (by omega) k3)
 have ei : Dw b l m f a z i = fy b (er b l m f) l m (i - a) a (gS a) i := by
  rw [e i, Ao hR (z - i - 1) (i + 1) (by omega) (by omega) (by omega)]
  unfold fa
  split
  ·rfl
  ·exact sC _ fun q hq e => by have := (hR.hop ha hz).2 q hq; omega
 rw [ei] at hDi ht
 have hDn := (hD0 i).nn hDi
 have hc := kH (W := er b l m f) (m := m) (hrr i (by omega)) (fun h21 => hWk i ha hz h21)
 have hv := i0 hDn.1 hc.1
 have hst : fa b (er b l m f) l m i (fy b (er b l m f) l m (i - a) a (gS a)) q ≠ -1 ∧ P t (fa b (er b l m f) l m i (fy b (er b l m f) l m (i - a) a (gS a)) q) := by
  unfold fa
  rw [if_neg hDi]
  exact ⟨jF hM.bet (by omega) _ (.inr hq), F4 hM hv ht _ hD0 hq⟩
 rw [e q]
 exact Ef hM hrr (z - i - 1) (i + 1) (kI hM.bet hD0 (hrr i (by omega)) (fun h21 => hWk i ha hz h21)) (by omega) (fun k k1 k2 k3 => hWk k (by omega) (by omega) k3) hst.1 hst.2
theorem mG {b : Int → Int → Int} {l : List cZ} {m : List Int} (f : Nat) {a z : Nat} (hR : Reg l m a z) : Dw b l m f a z a = 0 := by
 unfold Dw
 rw [Ao hR (z - a) a (ak _) (by have := hR.le; omega) (ak _)]
 unfold gS
 rw [if_pos rfl]
def InvP (b : Int → Int → Int) (P : Int → Int → Prop) (Q : Int → Int → Int → Prop) (l : List cZ) (m : List Int) (f : Nat) : Nat → Nat → Nat → List (Nat × Int) → Int → Prop
 | a, z, i, [], t => 0 ≤ t ∧ vi l m a z i ∧ Dw b l m f a z i ≠ -1 ∧ P t (Dw b l m f a z i)
 | a, z, i, (k, r) :: rs, t => ∃ t0 c t1, t = t0 + 1 + c + t1 ∧ 0 ≤ t0 ∧ 0 ≤ c ∧ vi l m a z k ∧ k < z ∧ opAt l k = 21 ∧ Dw b l m f a z k ≠ -1 ∧ P t0 (Dw b l m f a z k) ∧ r ≤ dd l k ∧ Q c (dd l k - r) (er b l m f (k + 1) (mN m k)) ∧ InvP b P Q l m f (k + 1) (mN m k) i rs t1
theorem InvP.nn {b : Int → Int → Int} {P : Int → Int → Prop} {Q : Int → Int → Int → Prop} {l : List cZ} {m : List Int} {f : Nat} : ∀ {rs : List (Nat × Int)} {a z i : Nat} {t : Int}, InvP b P Q l m f a z i rs t → 0 ≤ t
 | [], a, z, i, t, h => h.1
 | (k, r) :: rs, a, z, i, t, ⟨t0, c, t1, e, h1, h2, _, _, _, _, _, _, _, h⟩ => by
  have := InvP.nn h
  omega
theorem InvP.in_ {b : Int → Int → Int} {P : Int → Int → Prop} {Q : Int → Int → Int → Prop} {l : List cZ} {m h : List Int} (hF : Fine l m h) {f : Nat} : ∀ {rs : List (Nat × Int)} {a z i : Nat} {t : Int}, Reg l m a z → InvP b P Q l m f a z i rs t → a ≤ i ∧ i ≤ z
 | [], a, z, i, t, hR, hI => ⟨hI.2.1.1, hI.2.1.2.1⟩
 | (k, r) :: rs, a, z, i, t, hR, ⟨t0, c, t1, e, h1, h2, h3, h4, h5, _, _, _, _, hI⟩ => by
  have := hR.lt
  have hRk := hF.reg (show k < l.length by omega) (isOpen_iff.2 (.inl h5))
  obtain ⟨j, j1, j2, j3⟩ := hR.loop k h3.1 h4 (isOpen_iff.2 (.inl h5))
  have e2 : mN m k = j := by unfold mN; rw [j1]; rfl
  have := InvP.in_ hF hRk hI
  have := h3.1
  omega
theorem pb {l : List cZ} {m h : List Int} (hF : Fine l m h) {k : Nat} (hk : k < l.length) (ho : dj l k = true) : ∃ j : Nat, m.getD k 0 = (j : Int) ∧ mN m k = j ∧ k < j ∧ j < l.length ∧ m.getD j 0 = (k : Int) ∧ l.getD j (0, 0, 0) = ends (l.getD k (0, 0, 0)) := by
 obtain ⟨j, j1, j2, j3, j4, j5⟩ := hF.closed.op_ k hk ho
 exact ⟨j, j1, by unfold mN; rw [j1]; rfl, j2, j3, j5, j4⟩
theorem LS {l : List cZ} {m h : List Int} (hF : Fine l m h) {a z : Nat} (hR : Reg l m a z) {i q : Nat} (hI : vi l m a z i) (hz : i < z) (h21 : opAt l i ≠ 21) (hq : q ∈ dA l i) : vi l m a z q ∧ q ∈ gE l m i := by
 have hlt := hR.lt
 have hq2 : q ∈ gE l m i := by
  unfold dA at hq
  unfold gE
  rw [if_neg h21]
  split at hq
  ·rename_i h; rw [if_pos h]; exact hq
  ·rename_i h
   rw [if_neg h]
   split at hq
   ·rename_i h2
    rw [if_pos h2]
    rw [aB, ao] at hq
    rw [aB, ao]
    exact hq.symm
   ·rename_i h2
    rw [if_neg h2]
    split at hq
    ·cases hq
    ·exact hq
 have hb := (hR.hop hI.1 hz).2 q hq2
 refine ⟨⟨by have := hI.1; omega, hb.2, fun p h1 h2 h3 => ?_⟩, hq2⟩
 rcases am p i with hp | hp
 ·have := hI.2.2 p h1 hp h3; omega
 ·by_cases e : p = i
  ·subst e; exact absurd h3 h21
  ·-- a jump over the beginning of a loop does not end in it
   have ho := isOpen_iff.2 (.inl h3)
   obtain ⟨j, j1, j2, j3, j4, j5, j6⟩ := pb hF (show p < l.length by omega) ho
   rw [j2]
   rcases am j q with hj | hj
   ·exact hj
   ·exfalso
    have hjmp : (opAt l i = 19 ∨ opAt l i = 20) ∧ q = dp l i := by
     unfold dA at hq
     split at hq
     ·rename_i h; exact ⟨.inl h, ao.1 hq⟩
     ·split at hq
      ·rename_i h2
       rw [aB, ao] at hq
       rcases hq with h | h
       ·omega
       ·exact ⟨.inr h2, h⟩
      ·split at hq
       ·cases hq
       ·have := ao.1 hq; omega
    have e1 := hF.jump_enc (show i < l.length by omega) hjmp.1 p
    rw [← hjmp.2] at e1
    have e2 := (fu ho j1).2 (show p < q ∧ q ≤ j from ⟨h2, hj⟩)
    rw [e1] at e2
    have := (eu e2).1
    omega
def JE (m : List Int) (z : Nat) : List (Nat × Int) → Nat
 | [] => z
 | (k, _) :: rs => JE m (mN m k) rs
theorem InvP.on {b : Int → Int → Int} {P : Int → Int → Prop} {Q : Int → Int → Int → Prop} (hM : Meas b P Q) {l : List cZ} {m h : List Int} (hF : Fine l m h) {f : Nat} : ∀ {rs : List (Nat × Int)} {a z i q : Nat} {t : Int}, Reg l m a z → InvP b P Q l m f a z i rs t → i < JE m z rs → opAt l i ≠ 21 → q ∈ dA l i → InvP b P Q l m f a z q rs (t + 1)
 | [], a, z, i, q, t, hR, ⟨h1, h2, h3, h4⟩, hz, h21, hq => by
  have hlt := hR.lt
  have hz2 : i < z := hz
  obtain ⟨r1, r2⟩ := LS hF hR h2 hz2 h21 hq
  have hS := qM hM.bet (fun i hi => hF.right hi) (W := er b l m f) (m := m) (z - a) a (iF a) (by have := hR.le; omega) (fun k k1 k2 k3 => iD hM.bet hF f (hF.reg (by omega) (isOpen_iff.2 (.inl k3))))
  have hv := (hS i).nn h3
  have hc : fU (er b l m f) l m i = 1 := by unfold fU; rw [if_neg h21]
  obtain ⟨g1, g2⟩ := Eg hM hF f hR h2.1 hz2 r2 h3 (t := t + 1) (by rw [hc]; exact hM.one t _ h1 hv h4)
  exact ⟨by omega, r1, g1, g2⟩
 | (k, r) :: rs, a, z, i, q, t, hR, ⟨t0, c, t1, e, h1, h2, h3, h4, h5, h6, h7, h8, h9, hI⟩, hz, h21, hq => by
  have := hR.lt
  have hRk := hF.reg (show k < l.length by omega) (isOpen_iff.2 (.inl h5))
  exact ⟨t0, c, t1 + 1, by omega, h1, h2, h3, h4, h5, h6, h7, h8, h9, InvP.on hM hF hRk hI hz h21 hq⟩
theorem InvP.into {b : Int → Int → Int} {P : Int → Int → Prop} {Q : Int → Int → Int → Prop} (hM : Meas b P Q) {l : List cZ} {m h : List Int} (hF : Fine l m h) {f : Nat} : ∀ {rs : List (Nat × Int)} {a z i : Nat} {t : Int}, Reg l m a z → InvP b P Q l m f a z i rs t → i < JE m z rs → opAt l i = 21 → InvP b P Q l m f a z (i + 1) (rs ++ [(i, dd l i)]) (t + 1)
 | [], a, z, i, t, hR, ⟨h1, h2, h3, h4⟩, hz, h21 => by
  have hlt := hR.lt
  have hz2 : i < z := hz
  have hRk := hF.reg (show i < l.length by omega) (isOpen_iff.2 (.inl h21))
  refine ⟨t, 0, 0, by omega, h1, by omega, h2, hz2, h21, h3, h4, bi _, by rw [Int.sub_self]; exact hM.none_ _, by omega, ⟨ak _, hRk.le, fun q h1 h2 _ => by omega⟩, ?_, ?_⟩
  ·rw [mG f hRk]; decide
  ·rw [mG f hRk]; exact hM.zero
 | (k, r) :: rs, a, z, i, t, hR, ⟨t0, c, t1, e, h1, h2, h3, h4, h5, h6, h7, h8, h9, hI⟩, hz, h21 => by
  have := hR.lt
  have hRk := hF.reg (show k < l.length by omega) (isOpen_iff.2 (.inl h5))
  exact ⟨t0, c, t1 + 1, by omega, h1, h2, h3, h4, h5, h6, h7, h8, h9, InvP.into hM hF hRk hI hz h21⟩
theorem Eh {b : Int → Int → Int} {l : List cZ} {m h : List Int} (hF : Fine l m h) {f : Nat} (hf : l.length < f) {a z : Nat} (hR : Reg l m a z) : Dw b l m f a z z = er b l m f a z := by
 have h1 := hR.lt
 have := Bl (b := b) hF (f + 1) f hR (by omega) (by omega)
 exact this
theorem zE {b : Int → Int → Int} {P : Int → Int → Prop} {Q : Int → Int → Int → Prop} (hM : Meas b P Q) {l : List cZ} {m h : List Int} (hF : Fine l m h) {f : Nat} (hf : l.length < f) : ∀ {rs : List (Nat × Int)} {a z i k : Nat} {r t : Int}, Reg l m a z → InvP b P Q l m f a z i (rs ++ [(k, r)]) t → i = mN m k → InvP b P Q l m f a z (k + 1) (rs ++ [(k, r - 1)]) (t + 1)
 | [], a, z, i, k, r, t, hR, ⟨t0, c, t1, e, h1, h2, h3, h4, h5, h6, h7, h8, h9, g1, g2, g3, g4⟩, hi => by
  have hlt := hR.lt
  have hRk := hF.reg (show k < l.length by omega) (isOpen_iff.2 (.inl h5))
  subst hi
  rw [Eh hF hf hRk] at g3 g4
  have hw := (iD hM.bet hF f hRk).nn g3
  refine ⟨t0, c + t1 + 1, 0, by omega, h1, by omega, h3, h4, h5, h6, h7, by omega, ?_, by omega, ⟨ak _, hRk.le, fun q h1 h2 _ => by omega⟩, ?_, ?_⟩
  ·have := hM.round c (dd l k - r) _ t1 h2 (by omega) g1 hw h9 g4
   rw [show dd l k - r + 1 = dd l k - (r - 1) by omega] at this
   exact this
  ·rw [mG f hRk]; decide
  ·rw [mG f hRk]; exact hM.zero
 | (k0, r0) :: rs, a, z, i, k, r, t, hR, ⟨t0, c, t1, e, h1, h2, h3, h4, h5, h6, h7, h8, h9, hI⟩, hi => by
  have := hR.lt
  have hRk := hF.reg (show k0 < l.length by omega) (isOpen_iff.2 (.inl h5))
  exact ⟨t0, c, t1 + 1, by omega, h1, h2, h3, h4, h5, h6, h7, h8, h9, zE hM hF hf hRk hI hi⟩
theorem InvP.out {b : Int → Int → Int} {P : Int → Int → Prop} {Q : Int → Int → Int → Prop} (hM : Meas b P Q) {l : List cZ} {m h : List Int} (hF : Fine l m h) {f : Nat} (hf : l.length < f) : ∀ {rs : List (Nat × Int)} {a z i k : Nat} {t : Int}, Reg l m a z → InvP b P Q l m f a z i (rs ++ [(k, 1)]) t → i = mN m k → InvP b P Q l m f a z (i + 1) rs (t + 1)
 | [], a, z, i, k, t, hR, ⟨t0, c, t1, e, h1, h2, h3, h4, h5, h6, h7, h8, h9, g1, g2, g3, g4⟩, hi => by
  have hlt := hR.lt
  have hRk := hF.reg (show k < l.length by omega) (isOpen_iff.2 (.inl h5))
  subst hi
  rw [Eh hF hf hRk] at g3 g4
  have hw := (iD hM.bet hF f hRk).nn g3
  have hA := zB (hF.right (show k < l.length by omega)) h5
  have hq := hM.round c (dd l k - 1) _ t1 h2 (by omega) g1 hw h9 g4
  rw [show dd l k - 1 + 1 = dd l k by omega] at hq
  have hS := qM hM.bet (fun i hi => hF.right hi) (W := er b l m f) (m := m) (z - a) a (iF a) (by have := hR.le; omega) (fun k k1 k2 k3 => iD hM.bet hF f (hF.reg (by omega) (isOpen_iff.2 (.inl k3))))
  have hv := (hS k).nn h6
  have hl := hM.loop t0 _ (c + t1 + 1) _ (dd l k) h1 hv (by omega) hw hA.1 h7 hq
  have hc : fU (er b l m f) l m k = fO (er b l m f (k + 1) (mN m k)) (dd l k) := by unfold fU; rw [if_pos h5]
  have hhop : mN m k + 1 ∈ gE l m k := by unfold gE; rw [if_pos h5]; exact ao.2 rfl
  obtain ⟨b1, b2⟩ := Eg hM hF f hR h3.1 h4 hhop h6 (t := t0 + 1 + (c + t1 + 1)) (by rw [hc]; exact hl)
  have hbz := (hR.hop h3.1 h4).2 _ hhop
  obtain ⟨j, j1, j2, j3, j4, j5, j6⟩ := pb hF (show k < l.length by omega) (isOpen_iff.2 (.inl h5))
  refine ⟨by omega, ⟨by have := h3.1; omega, hbz.2, fun p p1 p2 p3 => ?_⟩, b1, ?_⟩
  ·have hpo := isOpen_iff.2 (.inl p3)
   obtain ⟨jp, w1, w2, w3, w4, w5, w6⟩ := pb hF (show p < l.length by omega) hpo
   rcases Nat.lt_trichotomy p k with hp | hp | hp
   ·have := h3.2.2 p p1 hp p3; omega
   ·subst hp; omega
   ·have hpj : p ≠ j := fun e => by
     have := qK (l.getD k (0, 0, 0))
     rw [← j6, ← e] at this
     unfold opAt at p3
     rw [p3] at this
     rcases this with h | h <;> cases h
    obtain ⟨x, x1, x2⟩ := hF.nest.cross k p j hp (by omega) (by omega) (isOpen_iff.2 (.inl h5)) hpo j1
    rw [w1] at x1
    omega
  ·rw [e]
   rw [show t0 + 1 + c + t1 + 1 = t0 + 1 + (c + t1 + 1) by omega]
   exact b2
 | (k0, r0) :: rs, a, z, i, k, t, hR, ⟨t0, c, t1, e, h1, h2, h3, h4, h5, h6, h7, h8, h9, hI⟩, hi => by
  have := hR.lt
  have hRk := hF.reg (show k0 < l.length by omega) (isOpen_iff.2 (.inl h5))
  exact ⟨t0, c, t1 + 1, by omega, h1, h2, h3, h4, h5, h6, h7, h8, h9, InvP.out hM hF hf hRk hI hi⟩
theorem InvP.start {b : Int → Int → Int} {P : Int → Int → Prop} {Q : Int → Int → Int → Prop} (hM : Meas b P Q) {l : List cZ} {m : List Int} {f a z : Nat} (hR : Reg l m a z) : InvP b P Q l m f a z a [] 0 :=
 ⟨bi _, ⟨ak _, hR.le, fun q h1 h2 _ => by omega⟩, by rw [mG f hR]; decide, by rw [mG f hR]; exact hM.zero⟩
def JF (l : List cZ) (m : List Int) (i : Nat) (rs : List (Nat × Int)) (q : Nat) (rs' : List (Nat × Int)) : Prop :=
 ∀ (b : Int → Int → Int) (P : Int → Int → Prop) (Q : Int → Int → Int → Prop) (f a z : Nat) (t : Int), Meas b P Q → l.length < f → Reg l m a z → InvP b P Q l m f a z i rs t → i ≠ z → InvP b P Q l m f a z q rs' (t + 1)
theorem Ei {b : Int → Int → Int} {P : Int → Int → Prop} {Q : Int → Int → Int → Prop} {l : List cZ} {m h : List Int} (hF : Fine l m h) {f : Nat} : ∀ {rs : List (Nat × Int)} {a z i : Nat} {t : Int}, Reg l m a z → InvP b P Q l m f a z i rs t → i ≠ z → opAt l i ≠ 22 → i < JE m z rs
 | [], a, z, i, t, hR, hI, hz, h22 => by
  have := (InvP.in_ hF hR hI).2
  show i < z
  omega
 | (k, r) :: rs, a, z, i, t, hR, ⟨t0, c, t1, e, h1, h2, h3, h4, h5, h6, h7, h8, h9, hI⟩, hz, h22 => by
  have := hR.lt
  have hRk := hF.reg (show k < l.length by omega) (isOpen_iff.2 (.inl h5))
  show i < JE m (mN m k) rs
  refine Ei hF hRk hI (fun e => h22 ?_) h22
  obtain ⟨j, j1, j2, j3, j4, j5, j6⟩ := pb hF (show k < l.length by omega) (isOpen_iff.2 (.inl h5))
  rw [j2] at e
  rw [e]
  unfold opAt
  rw [j6]
  unfold ends
  rw [if_pos h5]
theorem Ap {l : List cZ} {m h : List Int} (hF : Fine l m h) {i q : Nat} {rs : List (Nat × Int)} (h21 : opAt l i ≠ 21) (h22 : opAt l i ≠ 22) (hq : q ∈ dA l i) : JF l m i rs q rs :=
 fun b P Q f a z t hM hf hR hI hz => InvP.on hM hF hR hI (Ei hF hR hI hz h22) h21 hq
theorem JG {l : List cZ} {m h : List Int} (hF : Fine l m h) {i : Nat} {rs : List (Nat × Int)} (h21 : opAt l i = 21) : JF l m i rs (i + 1) (rs ++ [(i, dd l i)]) :=
 fun b P Q f a z t hM hf hR hI hz => InvP.into hM hF hR hI (Ei hF hR hI hz (by rw [h21]; decide)) h21
theorem Hc {l : List cZ} {m h : List Int} (hF : Fine l m h) {i k : Nat} {r : Int} {rs : List (Nat × Int)} (hi : i = mN m k) : JF l m i (rs ++ [(k, r)]) (k + 1) (rs ++ [(k, r - 1)]) :=
 fun b P Q f a z t hM hf hR hI hz => zE hM hF hf hR hI hi
theorem LT {l : List cZ} {m h : List Int} (hF : Fine l m h) {i k : Nat} {rs : List (Nat × Int)} (hi : i = mN m k) : JF l m i (rs ++ [(k, 1)]) (i + 1) rs :=
 fun b P Q f a z t hM hf hR hI hz => InvP.out hM hF hf hR hI hi
def Hd (l : List cZ) (m : List Int) (i q : Nat) : Prop := ∀ p, opAt l p = 23 → enc l m p q = true → (p = i ∧ opAt l i = 23) ∨ (enc l m p i = true ∧ i ≠ mN m p)
theorem yd {l : List cZ} {m h : List Int} (hF : Fine l m h) {p i : Nat} (hp : opAt l p = 23) (he : enc l m p i = true) (h24 : opAt l i ≠ 24) : i ≠ mN m p := by
 have ho := (eu he).2
 obtain ⟨j, j1, j2, j3, j4, j5, j6⟩ := pb hF (f7 ho) ho
 intro e
 rw [j2] at e
 subst e
 have h21 : ¬ (l.getD p (0, 0, 0)).1 = 21 := fun h => by unfold opAt at hp; rw [hp] at h; cases h
 unfold ends at j6
 rw [if_neg h21] at j6
 unfold opAt at h24
 rw [j6] at h24
 exact h24 rfl
theorem wh {l : List cZ} {m h : List Int} (hF : Fine l m h) {i q : Nat} (hi : i < l.length) (h22 : opAt l i ≠ 22) (hq : q ∈ dA l i) : Hd l m i q := fun p hp he => by
 by_cases h24 : opAt l i = 24
 ·obtain ⟨k0, a1, a2, a3, a4, a5, a6, a7⟩ := lf hF hi (.inr h24)
  have hq1 : q = i + 1 := by
   unfold dA at hq
   rw [if_neg (by omega), if_neg (by omega), if_neg (by omega)] at hq
   exact ao.1 hq
  subst hq1
  rw [a7] at he
  refine .inr ⟨by rw [a6, he, Bool.or_true], fun e => ?_⟩
  have hpo := (eu he).2
  obtain ⟨j, j1, j2, j3, j4, j5, j6⟩ := pb hF (f7 hpo) hpo
  rw [j2] at e
  subst e
  rw [a1] at j5
  have : p = k0 := by omega
  subst this
  have := (eu he).1
  omega
 ·have key : (p = i ∧ opAt l i = 23) ∨ enc l m p i = true := by
   have hsucc : q = i + 1 → (p = i ∧ opAt l i = 23) ∨ enc l m p i = true := fun e => by
    subst e
    rw [hZ hF hi h22 h24, aE, aj, av] at he
    rcases he with ⟨h1, _⟩ | h1
    ·exact .inl ⟨h1, h1 ▸ hp⟩
    ·exact .inr h1
   unfold dA at hq
   split at hq
   ·rename_i h
    have := ao.1 hq
    subst this
    rw [hF.jump_enc hi (.inl h)] at he
    exact .inr he
   ·split at hq
    ·rename_i h
     rw [aB, ao] at hq
     rcases hq with e | e
     ·exact hsucc e
     ·subst e
      rw [hF.jump_enc hi (.inr h)] at he
      exact .inr he
    ·split at hq
     ·cases hq
     ·exact hsucc (ao.1 hq)
  rcases key with h | h
  ·exact .inl h
  ·exact .inr ⟨h, yd hF hp h h24⟩
theorem Bo {l : List cZ} {m h : List Int} (hF : Fine l m h) {i k : Nat} (hi : i < l.length) (h22 : opAt l i = 22) (hk : m.getD i 0 = (k : Int)) : Hd l m i (k + 1) ∧ Hd l m i (i + 1) := by
 obtain ⟨k0, a1, a2, a3, a4, a5, a6, a7⟩ := lf hF hi (.inl h22)
 obtain ⟨k1, b1, b2, b3, b4, b5⟩ := o8 hF hi h22
 have e0 : k0 = k := by rw [a1] at hk; omega
 have e1 : k1 = k0 := by rw [a1] at b1; omega
 subst e0
 subst e1
 refine ⟨fun p hp he => ?_, fun p hp he => ?_⟩
 ·rw [hZ hF (by omega) (by rw [b3]; decide) (by rw [b3]; decide), aE, aj, av] at he
  rcases he with ⟨h1, _⟩ | h1
  ·subst h1; rw [b3] at hp; cases hp
  ·have he2 : enc l m p i = true := by rw [a6, h1, Bool.or_true]
   exact .inr ⟨he2, yd hF hp he2 (by omega)⟩
 ·rw [a7] at he
  have he2 : enc l m p i = true := by rw [a6, he, Bool.or_true]
  exact .inr ⟨he2, yd hF hp he2 (by omega)⟩
structure NextG (l : List cZ) (m : List Int) (st : List ByteArray) (i : Nat) (rs : List (Nat × Int)) (s' : MS) : Prop where
 ex : ∃ q rs', Ok l m st s' q rs' ∧ nL l m q rs' + 1 ≤ nL l m i rs ∧ JF l m i rs q rs' ∧ Hd l m i q
theorem JH {l : List cZ} {m h : List Int} {st : List ByteArray} (hR : Row l m h st) {s s' : MS} {i : Nat} {rs : List (Nat × Int)} (hO : Ok l m st s i rs) (h21 : opAt l i ≠ 21) (h22 : opAt l i ≠ 22) (h23 : opAt l i ≠ 23) (h24 : opAt l i ≠ 24) {q : Nat} (hq : q ∈ dA l i)
  (e1 : s'.at_ = (q : Int)) (e2 : VT (dt (l.getD i (0, 0, 0)) (nK st i)).1 s'.stk) (e3 : s'.rds = s.rds) (e4 : s'.held = s.held) : NextG l m st i rs s' := by
 have hF := hR.fine
 have hi := hO.lt
 have hql := hF.next hi q hq
 have hlps : lps l m q = lps l m i ∧ ∀ v, HeldB l m i v → HeldB l m q v := by
  unfold dA at hq
  split at hq
  ·rename_i h19
   rw [ao] at hq
   subst hq
   exact ⟨sv hF hi (.inl h19), fun v hv => hv.jump hF hi (.inl h19)⟩
  ·split at hq
   ·rename_i h20
    rw [aB, ao] at hq
    rcases hq with rfl | rfl
    ·exact ⟨lh hF hi h21 h22 h24, fun v hv => hv.plain hF hi h23 h22 h24⟩
    ·exact ⟨sv hF hi (.inr h20), fun v hv => hv.jump hF hi (.inr h20)⟩
   ·split at hq
    ·cases hq
    ·rw [ao] at hq
     subst hq
     exact ⟨lh hF hi h21 h22 h24, fun v hv => hv.plain hF hi h23 h22 h24⟩
 refine ⟨q, rs, ⟨e1, hql, ?_, by rw [hlps.1]; exact hO.lps, by rw [e3]; exact hO.rds, hO.rnd, ?_⟩, qP hF hi (yb hq) hO.lps, Ap hF h21 h22 hq, wh hF hi h22 hq⟩
 ·rw [hR.stk.nx i hi q hq]
  exact e2
 ·obtain ⟨v, v1, v2⟩ := hO.held
  exact ⟨v, e4.trans v1, hlps.2 v v2⟩
theorem F5 {l : List cZ} {m h : List Int} {st : List ByteArray} (hR : Row l m h st) {s : MS} {i : Nat} {rs : List (Nat × Int)} (hO : Ok l m st s i rs) (mem : dF) (h25 : opAt l i ≠ 25) : NextG l m st i rs (eH (l.getD i (0, 0, 0)) (m.getD i 0) s mem) := by
 have hi := hO.lt
 have hF := hR.fine
 have hr := hF.right hi
 have hok := hR.stk.ok i hi
 have hp := hO.place
 have hv := (Al (o := (l.getD i (0, 0, 0)).1) (A := (l.getD i (0, 0, 0)).2.1) (B := (l.getD i (0, 0, 0)).2.2) (S := s) (mem := mem) hr hok hO.vt).1
 have hx : l.getD i (0, 0, 0) = (opAt l i, dd l i, (l.getD i (0, 0, 0)).2.2) := rfl
 have hstk : VT (dt (l.getD i (0, 0, 0)) (nK st i)).1 (eH (l.getD i (0, 0, 0)) (m.getD i 0) s mem).stk := hv
 have hrds : opAt l i ≠ 21 → opAt l i ≠ 22 → (eH (l.getD i (0, 0, 0)) (m.getD i 0) s mem).rds = s.rds := fun h1 h2 => by
  show fT _ _ = _
  unfold fT
  rw [if_neg h1, if_neg h2]
 have hheld : opAt l i ≠ 23 → opAt l i ≠ 24 → (eH (l.getD i (0, 0, 0)) (m.getD i 0) s mem).held = s.held := fun h1 h2 => by
  show (if _ then _ else if _ then _ else _) = _
  rw [if_neg h1, if_neg h2]
 have hon : opAt l i ≠ 19 → opAt l i ≠ 20 → opAt l i ≠ 22 → (eH (l.getD i (0, 0, 0)) (m.getD i 0) s mem).at_ = ((i + 1 : Nat) : Int) := fun h1 h2 h3 => by
  show eh _ _ _ = _
  unfold eh
  rw [if_neg h1, if_neg h2, if_neg h3, hp]
  rfl
 by_cases h22 : opAt l i = 22
 ·obtain ⟨k, a1, a2, a3, a4, a5, a6, a7⟩ := o8 hF hi h22
  obtain ⟨k', b1, b2, b3⟩ : ∃ k' : Nat, m.getD i 0 = (k' : Int) ∧ (∀ v, HeldB l m i v → HeldB l m (k' + 1) v) ∧ (∀ v, HeldB l m i v → HeldB l m (i + 1) v) := by
   refine ⟨k, a1, fun v hv => ?_, fun v hv => ?_⟩
   ·obtain ⟨k2, c1, c2, c3⟩ := hv.next hF hi h22
    have : k = k2 := by rw [a1] at c1; omega
    rw [this]; exact c2
   ·obtain ⟨k2, c1, c2, c3⟩ := hv.next hF hi h22
    exact c3
  have hkk : k = k' := by rw [a1] at b1; omega
  subst hkk
  obtain ⟨v, v1, v2⟩ := hO.held
  have e := hO.lps
  rw [a5] at e
  obtain ⟨rs0, rs1, e1, e2, e3⟩ := List.map_eq_append_iff.1 e
  obtain ⟨q, e4, e5⟩ := List.map_eq_singleton_iff.1 e3
  obtain ⟨qk, qr⟩ := q
  simp only at e5
  subst e5
  subst e4
  subst e1
  have hsr : s.rds = rs0.map (·.2) ++ [qr] := by rw [hO.rds]; simp
  have hb := hO.rnd (qk, qr) (by simp)
  have hph := Ee hF hi a2 a3 a4 a5 e2 (r := qr)
  have hgm : i = mN m qk := by unfold mN; rw [a4]; rfl
  have hst22 := hR.stk.nt i hi h22
  rw [a1, ag] at hst22
  -- the types ahead of the loop's first instruction are those of its Next
  have hgo : nK st (qk + 1) = (dt (l.getD qk (0, 0, 0)) (nK st i)).1 := by
   rw [hR.stk.nx qk (by omega) (qk + 1) (ga (by rw [a3]; decide) (by rw [a3]; decide)), hst22]
  have hx22 : l.getD i (0, 0, 0) = (22, dd l i, (l.getD i (0, 0, 0)).2.2) := by rw [← h22]
  have hst : (eH (l.getD i (0, 0, 0)) (m.getD i 0) s mem).stk = s.stk := by
   have e : ∀ A B, fz (22, A, B) s mem = s.stk := fun A B => by kernel_rfl
   show fz (l.getD i (0, 0, 0)) s mem = _
   rw [hx22, e]
  by_cases hq : qr - 1 > 0
  ·refine ⟨qk + 1, rs0 ++ [(qk, qr - 1)], ⟨?_, by omega, ?_, ?_, ?_, ?_, v, (hheld (by omega) (by omega)).trans v1, b2 v v2⟩, hph.1, Hc hF hgm, (Bo hF hi h22 a1).1⟩
   ·show eh _ _ _ = _
    unfold eh
    rw [if_neg (show ¬ opAt l i = 19 by omega), if_neg (show ¬ opAt l i = 20 by omega), if_pos h22, hsr, fS, if_pos hq, a1]
    rfl
   ·rw [hst, hgo]
    have hr2 := hF.right (show qk < l.length by omega)
    have hok2 := hR.stk.ok qk (by omega)
    rw [hst22] at hok2
    exact G9 (o := (l.getD qk (0, 0, 0)).1) (A := (l.getD qk (0, 0, 0)).2.1) (B := (l.getD qk (0, 0, 0)).2.2) hok2 hO.vt (.inr (.inl a3))
   ·rw [a6]; simp [e2]
   ·show fT _ _ = _
    unfold fT
    rw [if_neg (show ¬ opAt l i = 21 by omega), if_pos h22, hsr, fS, gT, if_pos hq]
    simp
   ·intro e he
    rw [aA, ao] at he
    rcases he with he | he
    ·exact hO.rnd e (aY _ he)
    ·subst he
     exact ⟨by show 1 ≤ qr - 1; omega, by have := hb.2; show qr - 1 ≤ dd l qk; simp only at this; omega⟩
  ·have hq1 : qr = 1 := by have := hb.1; simp only at this; omega
   have hnx := ga (l := l) (i := i) (by omega) h25
   refine ⟨i + 1, rs0, ⟨?_, hF.next hi _ hnx, ?_, ?_, ?_, fun e he => hO.rnd e (aY _ he), v, (hheld (by omega) (by omega)).trans v1, b3 v v2⟩, hph.2 hq1, by rw [hq1]; exact LT hF hgm, (Bo hF hi h22 a1).2⟩
   ·show eh _ _ _ = _
    unfold eh
    rw [if_neg (show ¬ opAt l i = 19 by omega), if_neg (show ¬ opAt l i = 20 by omega), if_pos h22, hsr, fS, if_neg hq, hp]
    rfl
   ·rw [hR.stk.nx i hi _ hnx]
    exact hstk
   ·rw [a7]; exact e2
   ·show fT _ _ = _
    unfold fT
    rw [if_neg (show ¬ opAt l i = 21 by omega), if_pos h22, hsr, fS, gT, if_neg hq]
 by_cases h21 : opAt l i = 21
 ·have hnx := ga (l := l) (i := i) (by omega) h25
  obtain ⟨v, v1, v2⟩ := hO.held
  refine ⟨i + 1, rs ++ [(i, dd l i)], ⟨hon (by omega) (by omega) h22, hF.next hi _ hnx, ?_, ?_, ?_, ?_, v, (hheld (by omega) (by omega)).trans v1, v2.plain hF hi (by omega) h22 (by omega)⟩, Ed hF hi hO.lps, JG hF h21, wh hF hi h22 hnx⟩
  ·rw [hR.stk.nx i hi _ hnx]; exact hstk
  ·rw [sw hF hi h21]; simp [hO.lps]
  ·show fT _ _ = _
   unfold fT
   rw [if_pos h21, hO.rds, cA]
   rfl
  ·intro e he
   rw [aA, ao] at he
   rcases he with he | he
   ·exact hO.rnd e he
   ·subst he
    exact ⟨(zB hr h21).1, bi _⟩
 by_cases h23 : opAt l i = 23
 ·have hnx := ga (l := l) (i := i) (by omega) h25
  obtain ⟨v, v1, v2⟩ := hO.held
  obtain ⟨a, ha, ha7⟩ := sq hr (.inl h23)
  refine ⟨i + 1, rs, ⟨hon (by omega) (by omega) h22, hF.next hi _ hnx, ?_, ?_, ?_, hO.rnd, v ||| 2 ^ a, ?_, v2.lockS hF hi h23 ha ha7⟩, qP hF hi (by omega) hO.lps, Ap hF h21 h22 hnx, wh hF hi h22 hnx⟩
  ·rw [hR.stk.nx i hi _ hnx]; exact hstk
  ·rw [lh hF hi h21 h22 (by omega)]; exact hO.lps
  ·rw [hrds h21 h22]; exact hO.rds
  ·show (if _ then _ else if _ then _ else _) = _
   rw [if_pos h23, v1]
   show bits .or .i64 (v : Int) (mF (dd l i)) = _
   rw [wg ha ha7]
   exact DZ v (2 ^ a) v2.1 (by have := Nat.pow_lt_pow_right (a := 2) (by omega) (show a < 8 by omega); omega)
 by_cases h24 : opAt l i = 24
 ·have hnx := ga (l := l) (i := i) (by omega) h25
  obtain ⟨v, v1, v2⟩ := hO.held
  have h0 := nw (o := (l.getD i (0, 0, 0)).1) (A := (l.getD i (0, 0, 0)).2.1) (B := (l.getD i (0, 0, 0)).2.2) (by rw [show (l.getD i (0, 0, 0)).1 = 24 from h24]; omega) hr
  obtain ⟨a, ha, ha7⟩ : ∃ a : Nat, dd l i = (a : Int) ∧ a ≤ 7 := ⟨(dd l i).toNat, by unfold dd; omega, by unfold dd; omega⟩
  obtain ⟨w, w1, w2, w3⟩ := Bn v a v2.1 ha7
  refine ⟨i + 1, rs, ⟨hon (by omega) (by omega) h22, hF.next hi _ hnx, ?_, ?_, ?_, hO.rnd, w, ?_, v2.unlock hF hR.rise hi h24 ha w2 w3⟩, qP hF hi (by omega) hO.lps, Ap hF h21 h22 hnx, wh hF hi h22 hnx⟩
  ·rw [hR.stk.nx i hi _ hnx]; exact hstk
  ·rw [zy hF hi h24]; exact hO.lps
  ·rw [hrds h21 h22]; exact hO.rds
  ·show (if _ then _ else if _ then _ else _) = _
   rw [if_neg h23, if_pos h24, v1]
   show bits .andNot .i64 (v : Int) (mF (dd l i)) = _
   rw [wg ha ha7]
   exact w1
 have key := fun {q : Nat} (hq : q ∈ dA l i) (e1 : (eH (l.getD i (0, 0, 0)) (m.getD i 0) s mem).at_ = (q : Int)) => JH hR hO h21 h22 h23 h24 hq e1 hstk (hrds h21 h22) (hheld h23 h24)
 by_cases h19 : opAt l i = 19
 ·have hj := oX (o := (l.getD i (0, 0, 0)).1) (A := (l.getD i (0, 0, 0)).2.1) (B := (l.getD i (0, 0, 0)).2.2) (.inl h19) hr
  refine key (q := dp l i) (by unfold dA; rw [if_pos h19]; exact ao.2 rfl) ?_
  show eh _ _ _ = _
  unfold eh dp
  rw [if_pos h19, hp]
  omega
 by_cases h20 : opAt l i = 20
 ·have hj := oX (o := (l.getD i (0, 0, 0)).1) (A := (l.getD i (0, 0, 0)).2.1) (B := (l.getD i (0, 0, 0)).2.2) (.inr h20) hr
  by_cases hz : pv s.stk = 0
  ·refine key (q := dp l i) (by unfold dA; rw [if_neg h19, if_pos h20]; simp) ?_
   show eh _ _ _ = _
   unfold eh dp
   rw [if_neg h19, if_pos h20, if_pos hz, hp]
   omega
  ·refine key (q := i + 1) (by unfold dA; rw [if_neg h19, if_pos h20]; simp) ?_
   show eh _ _ _ = _
   unfold eh
   rw [if_neg h19, if_pos h20, if_neg hz, hp]
   rfl
 ·exact key (q := i + 1) (ga h19 h25) (hon h19 h20 h22)
theorem kz {X R : Type} {S : (X → Option R) → X → Option R} (Q : Nat → X → Prop) (P : R → Prop) (h0 : ∀ x, ¬ Q 0 x) (h : ∀ f x F, (∀ y, Q f y → ∃ r, F y = some r ∧ P r) → Q (f + 1) x → ∃ r, S F x = some r ∧ P r) : ∀ f x, Q f x → ∃ r, it S f x = some r ∧ P r
 | 0, x, hq => absurd hq (h0 x)
 | f + 1, x, hq => h f x (it S f) (kz Q P h0 h f) hq
abbrev z16 : List Int := [0, 0, 0, 0, 0, 0, 0, 0, 0, 0, 0, 0, 0, 0, 0, 0]
abbrev jG (ret inp : List Int) : MS := ⟨ret, 0, [], z8, inp, z16, 0, [], 0, 0, 0⟩
theorem Ej {l : List cZ} {m h : List Int} {st : List ByteArray} (hR : Row l m h st) (ret inp : List Int) : Ok l m st (jG ret inp) 0 [] := by
 have hl := hR.fine.len
 refine ⟨rfl, by omega, ?_, rfl, rfl, (fun e he => by cases he), 0, rfl, by omega, fun b => ?_⟩
 ·rw [hR.stk.z]
  exact trivial
 ·rw [Nat.zero_testBit]
  exact ⟨(fun h => by cases h), fun ⟨k, k1, _⟩ => by have := (eu k1).1; omega⟩
theorem LU (n : Nat) {l : List cZ} (hl : 0 < l.length) (m ret inp : List Int) (at_ : Int) (stk loc inp2 out : List Int) (set : Int) (rds : List Int) (held flt stp : Int) :
  gO n inp l m ret false at_ stk loc inp2 out set rds held flt stp = some (0, l, m, ret, true, 0, [], z8, inp, z16, 0, [], 0, 0, 0) := by
 unfold gO
 rw [af (show (l.length : Int) > 0 by omega), if_neg (by decide), if_neg (by decide)]
theorem Pq {l : List cZ} (h : l.length ≤ 200) : (decide (0 = 0) && decide (0 = 0) && decide (l.length * 24 ≤ 140737488355328) && decide (1 ≤ 24)) = true := by simp; omega
theorem Qh (a : List Int) (k : Nat) : Sh.eqT (.arr k (.int .i64)) a a = true := by
 show (List.range k).all (fun i => (a.getD i (0 : Int) == a.getD i 0)) = true
 rw [aN]
 intro i _
 exact bc _
def He (set : Int) (k : Nat) : Bool := bits .and .i64 (set.fdiv (2 ^ (min ((k : Int)).toNat 64))) 1 == 1
def n4 (out : List Int) (set : Int) : Nat → Nat → List (Int × Int)
 | 0, _ => []
 | r + 1, k => (if He set k = true then [((k : Int), out.getD k 0)] else []) ++ n4 out set r (k + 1)
def jl (out : List Int) (set : Int) : List (Int × Int) := n4 out set 16 0
theorem MY (n : Nat) (hn : 16 < n) (l : List cZ) (m ret : List Int) (on : Bool) (at_ : Int) (stk loc inp out : List Int) (set : Int) (rds : List Int) (held flt stp : Int) :
  zh n l m ret on at_ stk loc inp out set rds held flt stp = some (jl out set, l, m, ret, on, at_, stk, loc, inp, out, set, rds, held, flt, stp) := by
 unfold zh
 have key : ∃ r, uS n ([], out, 0, l, m, ret, on, at_, stk, loc, inp, out, set, rds, held, flt, stp) = some r ∧ r = (jl out set, l, m, ret, on, at_, stk, loc, inp, out, set, rds, held, flt, stp) := by
  show ∃ r, it _ n _ = some r ∧ _
  refine kz (fun f x => ∃ (k : Nat) (o : List (Int × Int)), k ≤ 16 ∧ 16 < f + k ∧ o.length ≤ k ∧ o ++ n4 out set (16 - k) k = jl out set ∧ x = (o, out, (k : Int), l, m, ret, on, at_, stk, loc, inp, out, set, rds, held, flt, stp)) _ (fun x ⟨k, o, h1, h2, _⟩ => by omega) ?_ n _ ⟨0, [], by omega, by omega, ay _, by unfold jl; rw [bI, bs], rfl⟩
  rintro f x F hF ⟨k, o, h1, h2, h3, h4, rfl⟩
  show ∃ r, vU n F o out (k : Int) l m ret on at_ stk loc inp out set rds held flt stp = some r ∧ _
  unfold vU
  rcases am k 16 with hk | hk
  ·rw [if_pos (af (by omega)), if_pos (by simp; omega), if_neg (by simp), dC (by omega)]
   rw [show 16 - k = (16 - (k + 1)) + 1 by omega] at h4
   unfold n4 He at h4
   rw [ag] at h4
   rw [ag]
   by_cases hb : (bits .and .i64 (set.fdiv (2 ^ (min k 64))) 1 == 1) = true
   ·rw [if_pos hb, if_pos (by simp; omega)]
    rw [if_pos hb] at h4
    exact hF _ ⟨k + 1, _, by omega, by omega, by simp; omega, by rw [aI]; exact h4, rfl⟩
   ·rw [if_neg hb]
    rw [if_neg hb, bI] at h4
    exact hF _ ⟨k + 1, o, by omega, by omega, by omega, h4, rfl⟩
  ·have : k = 16 := by omega
   subst this
   rw [if_neg (by decide)]
   rw [bq] at h4
   unfold n4 at h4
   rw [aG] at h4
   subst h4
   exact ⟨_, rfl, rfl⟩
 obtain ⟨r, e1, e2⟩ := key
 subst e2
 rw [e1]
 rfl
structure CS where
 on : Bool
 s : MS
 mem : dF
def em (l : List cZ) (m : List Int) (c : CS) : CS :=
 if c.on = true then ⟨decide ((l.getD c.s.at_.toNat (0, 0, 0)).1 ≠ 25), eH (l.getD c.s.at_.toNat (0, 0, 0)) (m.getD c.s.at_.toNat 0) c.s c.mem, lS (l.getD c.s.at_.toNat (0, 0, 0)) c.s c.mem⟩ else c
def px (l : List cZ) (m : List Int) (st : List ByteArray) (c : CS) : Prop := c.on = true → ∃ i rs, Ok l m st c.s i rs
abbrev QX (l : List cZ) (m : List Int) (c : CS) := LN l m c.on c.s c.mem
theorem zF {l : List cZ} {m h : List Int} {st : List ByteArray} (hR : Row l m h st) {c : CS} (hc : px l m st c) (n : Nat) : (∃ ev e, zD n l m c.on c.s c.mem = some (ev, e, QX l m (em l m c))) ∧ px l m st (em l m c) := by
 obtain ⟨on, s, mem⟩ := c
 cases on with
 | false =>
  refine ⟨⟨(0, 0), 16, ?_⟩, fun h => by cases h⟩
  have hl := hR.fine.len
  unfold zD dG ef
  dsimp only
  rw [af (show (l.length : Int) > 0 by omega), if_neg (by decide), if_pos (by decide)]
  rfl
 | true =>
  obtain ⟨i, rs, hO⟩ := hc rfl
  have hp : s.at_ = (i : Int) := hO.place
  have e : s.at_.toNat = i := by rw [hp]; exact ag i
  have e1 : em l m ⟨true, s, mem⟩ = ⟨decide ((l.getD i (0, 0, 0)).1 ≠ 25), eH (l.getD i (0, 0, 0)) (m.getD i 0) s mem, lS (l.getD i (0, 0, 0)) s mem⟩ := by
   unfold em
   rw [if_pos rfl]
   dsimp only
   rw [e]
  rw [e1]
  refine ⟨⟨_, 0, MW hR hO n mem⟩, fun h => ?_⟩
  have h25 : opAt l i ≠ 25 := aR h
  obtain ⟨q, rs', hq, _⟩ := (JA hR hO mem h25).ex
  exact ⟨q, rs', hq⟩
def eI (l : List cZ) (m : List Int) : Nat → CS → CS
 | 0, c => c
 | k + 1, c => eI l m k (em l m c)
theorem Bp {l : List cZ} {m : List Int} {c : CS} (h : c.on = false) : ∀ k, eI l m k c = c
 | 0 => rfl
 | k + 1 => by
  have e : em l m c = c := by unfold em; rw [if_neg (by rw [h]; decide)]
  show eI l m k (em l m c) = c
  rw [e]
  exact Bp h k
theorem Bq {l : List cZ} {m : List Int} : ∀ (a b : Nat) (c : CS), eI l m (a + b) c = eI l m b (eI l m a c)
 | 0, b, c => by rw [bw]; rfl
 | a + 1, b, c => by
  rw [show a + 1 + b = (a + b) + 1 by omega]
  exact Bq a b (em l m c)
theorem Br (out : List Int) (set : Int) : ∀ r k, (n4 out set r k).length ≤ r
 | 0, k => ak _
 | r + 1, k => by
  have := Br out set r (k + 1)
  unfold n4
  rw [aF]
  split <;> simp <;> omega
theorem Bs (out : List Int) (set : Int) : (jl out set).length ≤ 16 := Br out set 16 0
theorem Ek (n : Nat) {x : List (Int × Int)} (h : x.length ≤ 16) (hn : 16 < n) : se n x = some x := by
 unfold se
 have key : ∃ r, xT n (x, [], 0) = some r ∧ r = x := by
  show ∃ r, it _ n _ = some r ∧ _
  refine kz (fun f y => ∃ k : Nat, k ≤ x.length ∧ x.length < f + k ∧ y = (x, x.take k, (k : Int))) _ (fun y ⟨k, h1, h2, _⟩ => by omega) ?_ n _ ⟨0, by omega, by omega, rfl⟩
  rintro f y F hF ⟨k, h1, h2, rfl⟩
  show ∃ r, zj n F x (x.take k) (k : Int) = some r ∧ _
  unfold zj
  rcases am k x.length with hk | hk
  ·have e : x.take k ++ [((x.getD k (0, 0)).1, (x.getD k (0, 0)).2)] = x.take (k + 1) := by
    rw [cM, ax hk, aq, ax hk]
    rfl
   rw [if_pos (af (by omega)), if_pos (db hk), if_pos (db hk), if_pos (by simp; omega), dC (by omega), ag, e]
   exact hF _ ⟨k + 1, by omega, by omega, rfl⟩
  ·rw [if_neg (by simp; omega)]
   exact ⟨_, rfl, aQ hk⟩
 obtain ⟨r, e1, e2⟩ := key
 subst e2
 first
  | exact e1
  | (rw [e1]; rfl)
theorem El (n : Nat) {x : List (Int × Int)} (h : x.length ≤ 16) (hn : 16 < n) : uY n x x = some true := by
 unfold uY
 have key : ∃ r, uX n (x, x, 0) = some r ∧ r = .inr ((), ()) := by
  show ∃ r, it _ n _ = some r ∧ _
  refine kz (fun f y => ∃ k : Nat, k ≤ x.length ∧ x.length < f + k ∧ y = (x, x, (k : Int))) _ (fun y ⟨k, h1, h2, _⟩ => by omega) ?_ n _ ⟨0, by omega, by omega, rfl⟩
  rintro f y F hF ⟨k, h1, h2, rfl⟩
  show ∃ r, vV n F x x (k : Int) = some r ∧ _
  unfold vV
  rcases am k x.length with hk | hk
  ·rw [if_pos (af (by omega)), if_pos (db hk), if_pos (db hk), bc, bc, if_neg (by decide), dC (by omega)]
   exact hF _ ⟨k + 1, by omega, by omega, rfl⟩
  ·rw [if_neg (by simp; omega)]
   exact ⟨_, rfl, rfl⟩
 obtain ⟨r, e1, e2⟩ := key
 subst e2
 rw [e1]
 simp
structure Within (l l' : List cZ) (m m' : List Int) (p a z : Nat) : Prop where
 ins : ∀ i, a ≤ i → i < z → l'.getD (i + p) (0, 0, 0) = l.getD i (0, 0, 0)
 mat : ∀ i, a ≤ i → i < z → opAt l i = 21 → mN m' (i + p) = mN m i + p
theorem Fine.mat {l : List cZ} {m h : List Int} (hF : Fine l m h) {i : Nat} (hi : i < l.length) (e : opAt l i = 21) : m.getD i 0 = ((mN m i : Nat) : Int) ∧ m.getD i 0 ≠ -1 := by
 obtain ⟨j, j1, j2, j3⟩ := hF.nest.open_ i hi (isOpen_iff.2 (.inl e))
 unfold mN
 rw [j1]
 exact ⟨rfl, by omega⟩
structure Both (a b c : List cZ) (p : Nat) (ma mb mc : List Int) : Prop where
 len : c.length = p + b.length
 pa : a.length = p + 1
 ia : ∀ i, i < p → c.getD i (0, 0, 0) = a.getD i (0, 0, 0)
 ib : ∀ i, i < b.length → c.getD (i + p) (0, 0, 0) = b.getD i (0, 0, 0)
 mma : ∀ i, i < p → ma.getD i 0 ≠ -1 → mc.getD i 0 = ma.getD i 0
 mmb : ∀ i, i < b.length → mb.getD i 0 ≠ -1 → mc.getD (i + p) 0 = mb.getD i 0 + p
theorem zG {l : List cZ} {m h : List Int} (hF : Fine l m h) {i : Nat} (hi : i < l.length) : opAt l i = 25 ↔ i + 1 = l.length := by
 constructor
 ·intro h25
  have h1 := hF.ends i hi
  unfold sm at h1
  rw [show ((l.getD i (0, 0, 0)).1 == 25) = true from ai.2 h25] at h1
  cases h4 : ((i : Int) == ((l.length - 1 : Nat) : Int))
  ·rw [h4] at h1; cases h1
  ·have := eq_of_beq h4; omega
 ·intro h
  have := hF.last
  rw [show l.length - 1 = i by omega] at this
  exact this
theorem Both.opb {a b c : List cZ} {p : Nat} {ma mb mc : List Int} (hB : Both a b c p ma mb mc) {i : Nat} (hi : i < b.length) : opAt c (i + p) = opAt b i ∧ dd c (i + p) = dd b i ∧ dp c (i + p) = dp b i + p ∧ dj c (i + p) = dj b i := by
 have e := hB.ib i hi
 unfold opAt dd dp dj
 rw [e]
 exact ⟨rfl, rfl, by omega, rfl⟩
abbrev py : dF := [[0, 0, 0, 0, 0, 0, 0, 0], [0, 0, 0, 0, 0, 0, 0, 0], [0, 0, 0, 0, 0, 0, 0, 0], [0, 0, 0, 0, 0, 0, 0, 0], [0, 0, 0, 0, 0, 0, 0, 0], [0, 0, 0, 0, 0, 0, 0, 0], [0, 0, 0, 0, 0, 0, 0, 0], [0, 0, 0, 0, 0, 0, 0, 0]]
def jU (l : List cZ) (m : List Int) (c : CS) : CS := ⟨(em l m ⟨c.on, c.s, py⟩).on, (em l m ⟨c.on, c.s, py⟩).s, py⟩
theorem Pr {l : List cZ} {m h : List Int} {st : List ByteArray} (hR : Row l m h st) {c : CS} (hc : px l m st c) (n : Nat) : (∃ ev e mem, zD n l m c.on c.s py = some (ev, e, LN l m (jU l m c).on (jU l m c).s mem)) ∧ px l m st (jU l m c) := by
 obtain ⟨⟨ev, e, a1⟩, a2⟩ := zF hR (c := ⟨c.on, c.s, py⟩) hc n
 exact ⟨⟨ev, e, _, a1⟩, a2⟩
def Em (l : List cZ) (m : List Int) : Nat → CS → CS
 | 0, c => c
 | k + 1, c => jU l m (Em l m k c)
theorem vu {l : List cZ} {m : List Int} {c : CS} (h : c.on = false) : (jU l m c).on = false ∧ (jU l m c).s = c.s := by
 unfold jU em
 rw [if_neg (show ¬ c.on = true by rw [h]; decide)]
 exact ⟨h, rfl⟩
theorem Bt {l : List cZ} {m h : List Int} {st : List ByteArray} (hR : Row l m h st) {c : CS} (hc : px l m st c) : ∀ k, px l m st (Em l m k c)
 | 0 => hc
 | k + 1 => (Pr hR (Bt hR hc k) 0).2
theorem ye {l : List cZ} {m : List Int} {c : CS} {i : Nat} (h : c.on = true) (hp : c.s.at_ = (i : Int)) : (jU l m c).on = decide (opAt l i ≠ 25) ∧ (jU l m c).s = eH (l.getD i (0, 0, 0)) (m.getD i 0) c.s py := by
 unfold jU em
 rw [if_pos (show c.on = true from h)]
 dsimp only
 rw [show c.s.at_.toNat = i by rw [hp]; exact ag i]
 exact ⟨rfl, rfl⟩
theorem En (a b : Nat) (ha : a < 65536) (hb : b < 65536) : bits .or .i64 (a : Int) (b : Int) = ((a ||| b : Nat) : Int) := by
 have hx : a ||| b < 2 ^ 16 := Nat.or_lt_two_pow (by omega) (by omega)
 show IntKind.i64.wrap ((BitVec.ofInt 64 (a : Int) ||| BitVec.ofInt 64 (b : Int)).toNat : Int) = _
 rw [BitVec.toNat_or, ofInt_u64 a (by omega), ofInt_u64 b (by omega), dQ (by omega) (by omega)]
theorem F6 {A : Int} {a : Nat} (h : A = (a : Int)) (ha : a ≤ 15) : mF A = ((2 ^ a : Nat) : Int) ∧ 2 ^ a < 65536 := by
 subst h
 have h1 : min ((a : Int)).toNat 64 = a := by rw [ag]; omega
 have h2 : 2 ^ a ≤ 2 ^ 15 := Nat.pow_le_pow_right (by omega) ha
 have h3 : ((2 ^ a : Nat) : Int) = (2 : Int) ^ a := by rw [Int.natCast_pow]; rfl
 refine ⟨?_, by omega⟩
 unfold mF
 rw [h1, Int.one_mul, ← h3]
 generalize 2 ^ a = w at h2 ⊢
 rw [dQ (by omega) (by omega)]
theorem MZ {x k : Nat} (hx : x < 65536) (hk : k < 16) : He (x : Int) k = x.testBit k := by
 unfold He
 have h1 : min ((k : Int)).toNat 64 = k := by rw [ag]; omega
 have h3 : (2 : Int) ^ k = ((2 ^ k : Nat) : Int) := by rw [Int.natCast_pow]; rfl
 have h4 : ((x : Int)).fdiv ((2 ^ k : Nat) : Int) = ((x / 2 ^ k : Nat) : Int) := by
  rw [Int.fdiv_eq_ediv_of_nonneg _ (Int.natCast_nonneg _)]
  rfl
 have h5 : x / 2 ^ k < 65536 := Nat.lt_of_le_of_lt (Nat.div_le_self _ _) hx
 have h6 : bits .and .i64 ((x / 2 ^ k : Nat) : Int) 1 = ((x / 2 ^ k % 2 : Nat) : Int) := by
  have hx : (x / 2 ^ k) &&& 1 = x / 2 ^ k % 2 := nat_mask1 _
  show IntKind.i64.wrap ((BitVec.ofInt 64 ((x / 2 ^ k : Nat) : Int) &&& BitVec.ofInt 64 ((1 : Nat) : Int)).toNat : Int) = _
  rw [BitVec.toNat_and, ofInt_u64 _ (by omega), ofInt_u64 1 (by omega), hx, dQ (by omega) (by omega)]
 rw [h1, h3, h4, h6, Nat.testBit_eq_decide_div_mod_eq]
 apply o6
 rw [ai, av]
 omega
structure RunI (inp : List Int) (t : Nat) (s : MS) : Prop where
 inp : s.inp = inp
 stp : 0 ≤ s.stp ∧ s.stp ≤ (t : Int)
 set : ∃ x : Nat, s.set = (x : Int) ∧ x < 65536
theorem Eo {x : cZ} {mt : Int} {s : MS} {mem : dF} (hr : dg x = true) {v : Nat} (hv : s.set = (v : Int)) (hv2 : v < 65536) : ∃ b : Nat, b < 65536 ∧ (∀ s' : MS, ∀ w : Nat, s'.set = (w : Int) → w < 65536 → ∀ mt' mem', (eH x mt' s' mem').set = ((w ||| b : Nat) : Int)) := by
 by_cases h16 : x.1 = 16
 ·have ha := we (o := x.1) (A := x.2.1) (B := x.2.2) (.inr h16) hr
  obtain ⟨b1, b2⟩ := F6 (A := x.2.1) (a := x.2.1.toNat) (by omega) (by omega)
  refine ⟨2 ^ x.2.1.toNat, b2, fun s' w hw hw2 mt' mem' => ?_⟩
  show (if x.1 = 16 then bits .or .i64 s'.set (mF x.2.1) else s'.set) = _
  rw [if_pos h16, hw, b1, En w _ hw2 b2]
 ·refine ⟨0, by omega, fun s' w hw hw2 mt' mem' => ?_⟩
  show (if x.1 = 16 then bits .or .i64 s'.set (mF x.2.1) else s'.set) = _
  rw [if_neg h16, hw, Nat.or_zero]
theorem RunI.step {l : List cZ} {m h : List Int} {st : List ByteArray} (hR : Row l m h st) {inp : List Int} {t : Nat} {c : CS} (hc : px l m st c) (hI : RunI inp t c.s) (ht : t < 1000000) : RunI inp (t + 1) (jU l m c).s := by
 cases hon : c.on with
 | false =>
  rw [(vu (l := l) (m := m) hon).2]
  exact ⟨hI.inp, ⟨hI.stp.1, by have := hI.stp.2; omega⟩, hI.set⟩
 | true =>
  obtain ⟨i, rs, hO⟩ := hc hon
  rw [(ye (l := l) (m := m) hon hO.place).2]
  have hs := hI.stp
  obtain ⟨x, x1, x2⟩ := hI.set
  obtain ⟨b, b1, b2⟩ := Eo (mt := 0) (mem := py) (hR.fine.right hO.lt) x1 x2
  refine ⟨hI.inp, ?_, x ||| b, b2 c.s x x1 x2 _ _, Nat.or_lt_two_pow (n := 16) x2 b1⟩
  show 0 ≤ wrap .i64 (c.s.stp + 1) ∧ wrap .i64 (c.s.stp + 1) ≤ _
  rw [dQ (by omega) (by omega)]
  omega
theorem RunI.run {l : List cZ} {m h : List Int} {st : List ByteArray} (hR : Row l m h st) {inp : List Int} {c : CS} (hc : px l m st c) (hI : RunI inp 0 c.s) : ∀ t, t < 1000000 → RunI inp t (Em l m t c).s
 | 0, _ => hI
 | t + 1, ht => (RunI.run hR hc hI t (by omega)).step hR (Bt hR hc t) (by omega)
structure RelB (p : Nat) (S : MS) (T U : CS) : Prop where
 on : U.on = T.on
 at_ : U.s.at_ = T.s.at_ + p
 stk : U.s.stk = T.s.stk
 rds : U.s.rds = T.s.rds
 held : U.s.held = T.s.held
 inp : U.s.inp = T.s.inp
 stp : U.s.stp = S.stp + T.s.stp
 set : ∃ x y : Nat, S.set = (x : Int) ∧ T.s.set = (y : Int) ∧ U.s.set = ((x ||| y : Nat) : Int) ∧ x < 65536 ∧ y < 65536
theorem RelB.step {a b c : List cZ} {p : Nat} {ma mb mc hb : List Int} {sb : List ByteArray} (hB : Both a b c p ma mb mc) (hR : Row b mb hb sb) (h11 : ∀ k, k < b.length → opAt b k ≠ 11 ∧ opAt b k ≠ 13) {S : MS} {T U : CS} (hT : px b mb sb T) (h : RelB p S T U) (hs : 0 ≤ S.stp ∧ S.stp ≤ 1000000) (ht : 0 ≤ T.s.stp ∧ T.s.stp ≤ 1000000) : RelB p S (jU b mb T) (jU c mc U) := by
 cases hon : T.on with
 | false =>
  have e1 := vu (l := b) (m := mb) hon
  have e2 := vu (l := c) (m := mc) (h.on.trans hon)
  refine ⟨e2.1.trans e1.1.symm, ?_, ?_, ?_, ?_, ?_, ?_, ?_⟩ <;> rw [e1.2, e2.2]
  ·exact h.at_
  ·exact h.stk
  ·exact h.rds
  ·exact h.held
  ·exact h.inp
  ·exact h.stp
  ·exact h.set
 | true =>
  obtain ⟨i, rs, hO⟩ := hT hon
  have hi := hO.lt
  have hp := hO.place
  have hpU : U.s.at_ = ((i + p : Nat) : Int) := by rw [h.at_, hp]; omega
  have e1 := ye (l := b) (m := mb) hon hp
  have e2 := ye (l := c) (m := mc) (h.on.trans hon) hpU
  have hr := hR.fine.right hi
  have hm : opAt b i = 22 → mc.getD (i + p) 0 = mb.getD i 0 + p := fun h22 => by
   obtain ⟨k, k1, _⟩ := hR.fine.closed.cl i hi (.inl h22)
   exact hB.mmb i hi (by rw [k1]; omega)
  rw [hB.ib i hi] at e2
  obtain ⟨x, y, s1, s2, s3, s4, s5⟩ := h.set
  obtain ⟨w, w1, w2⟩ := Eo (mt := 0) (mem := py) hr s2 s5
  obtain ⟨n11, n13⟩ := h11 i hi
  unfold opAt at hm n11 n13
  have eop := (hB.opb hi).1
  unfold opAt at eop
  refine ⟨?_, ?_, ?_, ?_, ?_, ?_, ?_, x, y ||| w, s1, ?_, ?_, s4, Nat.or_lt_two_pow (n := 16) s5 w1⟩
  ·rw [e1.1, e2.1]
   unfold opAt
   rw [eop]
  all_goals try rw [e1.2]
  all_goals try rw [e2.2]
  ·show eh _ _ _ = eh _ _ _ + _
   unfold eh
   rw [h.at_, h.stk, h.rds]
   split
   ·omega
   ·split
    ·split <;> omega
    ·split
     ·rename_i h22
      rw [hm h22]
      split <;> omega
     ·omega
  ·show fz _ _ _ = fz _ _ _
   unfold fz
   rw [h.stk, h.inp, if_neg n11, if_neg n13, if_neg n11, if_neg n13]
  ·show fT _ _ = fT _ _
   unfold fT
   rw [h.rds]
  ·show (if _ then _ else if _ then _ else _) = (if _ then _ else if _ then _ else _)
   rw [h.held]
  ·exact h.inp
  ·show wrap .i64 (U.s.stp + 1) = S.stp + wrap .i64 (T.s.stp + 1)
   have := h.stp
   rw [dQ (by omega) (by omega), dQ (by omega) (by omega)]
   omega
  ·exact w2 _ _ s2 s5 _ _
  ·rw [w2 _ _ s3 (Nat.or_lt_two_pow (n := 16) s4 s5) _ _, Nat.or_assoc]
theorem M0 {l : List cZ} {m h : List Int} (hF : Fine l m h) {i : Nat} (hi : i < l.length) (h25 : opAt l i = 25) : lps l m i = [] := by
 cases hl : lps l m i with
 | nil => rfl
 | cons k r =>
  exfalso
  have hk : k ∈ lps l m i := by rw [hl]; exact aD ..
  obtain ⟨k1, k2⟩ := qN hk
  have ho := (eu k1).2
  obtain ⟨j, j1, j2, j3, j4, j5, j6⟩ := pb hF (f7 ho) ho
  have h1 := (fu ho j1).1 k1
  have h2 := (zG hF hi).1 h25
  have hji : j = i := by omega
  subst hji
  have := qK (l.getD k (0, 0, 0))
  rw [← j6] at this
  unfold opAt at h25
  rw [h25] at this
  rcases this with h | h <;> cases h
theorem Ps {rs : List (Nat × Int)} (h : rs.map (·.1) = []) : rs = [] := List.map_eq_nil_iff.1 h
theorem F7 {l : List cZ} {m h : List Int} {st : List ByteArray} (hR : Row l m h st) {f : Nat} (hf : l.length < f) (hw : er bM l m f 0 (l.length - 1) < 1048577) : ∀ (N : Nat) {s : MS} {i : Nat} {rs : List (Nat × Int)} {k : Int}, nL l m i rs ≤ (N : Int) → Ok l m st s i rs → InvP bM s7 JB l m f 0 (l.length - 1) i rs k → k ≤ er bM l m f 0 (l.length - 1)
 | N, s, i, rs, k, hN, hO, hI => by
  have hF := hR.fine
  have hA := hF.all
  by_cases h25 : opAt l i = 25
  ·have e := hO.lps
   rw [M0 hF hO.lt h25] at e
   have := Ps e
   subst this
   have hi : i = l.length - 1 := by have := (zG hF hO.lt).1 h25; omega
   subst hi
   obtain ⟨h1, h2, h3, h4⟩ := hI
   rw [Eh hF hf hA] at h4
   unfold s7 fM at h4
   split at h4 <;> omega
  ·obtain ⟨q, rs', hq, hp, hg, _⟩ := (F5 hR hO py h25).ex
   have hz : i ≠ l.length - 1 := fun e => h25 ((zG hF hO.lt).2 (by have := hO.lt; omega))
   have hI2 := hg bM s7 JB f 0 (l.length - 1) k Am hf hA hI hz
   have hnn := Pn hF (i := q) (rs := rs') (fun e he => (hq.rnd e he).1)
   cases N with
   | zero => omega
   | succ N =>
    have := F7 hR hf hw N (by omega) hq hI2
    omega
theorem iT {X R : Type} {S : (X → Option R) → X → Option R} (Q : Nat → X → R → Prop) (h0 : ∀ x r, ¬ Q 0 x r) (h : ∀ f x F, (∀ y r, Q f y r → F y = some r) → ∀ r, Q (f + 1) x r → S F x = some r) : ∀ f x r, Q f x r → it S f x = some r
 | 0, x, r, hq => absurd hq (h0 x r)
 | f + 1, x, r, hq => h f x (it S f) (iT Q h0 h f) r hq
abbrev Tsk := Int × Int × Int × Int × List Int × List Int × List cZ
abbrev Img := Int × Int × Int × Int × List Int × List (List Int) × List Tsk
abbrev Tsk.blocks (t : Tsk) : List Int := t.2.2.2.2.1
abbrev Tsk.outs (t : Tsk) : List Int := t.2.2.2.2.2.1
abbrev Tsk.code (t : Tsk) : List cZ := t.2.2.2.2.2.2
abbrev Img.inputs (m : Img) : Int := m.2.2.2.1
abbrev Img.safe (m : Img) : List Int := m.2.2.2.2.1
abbrev Img.blocks (m : Img) : List (List Int) := m.2.2.2.2.2.1
abbrev Img.tasks (m : Img) : List Tsk := m.2.2.2.2.2.2
theorem en {α : Type} {l : List α} {i : Nat} {d : α} (h : i < l.length) : l.drop i = l.getD i d :: l.drop (i + 1) := by
 rw [cb h, aq, ax h]
 rfl
theorem M1 (n : Nat) (t : Tsk) (m : Img) (p : Int) (hl : t.outs.length < n) (hn : n < 1000000) : uN n (t, m) p = some (t.outs.contains p) := by
 unfold uN uM
 have := iT (S := fun F => (d8 q_) (qp n F)) (fun f x r => ∃ i : Nat, x = (p, t.outs, (t.outs.length : Int), (i : Int)) ∧ i ≤ t.outs.length ∧ t.outs.length < f + i ∧ r = if (t.outs.drop i).contains p = true then .inl ((true, ()), ()) else .inr ((), ())) (fun x r ⟨i, _, h1, h2, _⟩ => by omega) (fun f x F hF r => ?_) n (p, t.outs, (t.outs.length : Int), 0) _ ⟨0, rfl, ay _, by omega, rfl⟩
 ·rw [this, bx]
  cases h : t.outs.contains p <;> rfl
 ·rintro ⟨i, rfl, h1, h2, rfl⟩
  show qp n F p t.outs (t.outs.length : Int) (i : Int) = _
  unfold qp
  rcases am i t.outs.length with hlt | hge
  ·rw [if_pos (af (by omega)), if_pos (db hlt), ag, dC (by omega), en (d := (0 : Int)) hlt, List.contains_cons]
   by_cases e : t.outs.getD i 0 = p
   ·rw [if_pos (ai.2 e), e, bc, Bool.true_or, if_pos rfl]
   ·rw [if_neg (fun h => e (ai.1 h))]
    have e2 : (p == t.outs.getD i 0) = false := by rw [aX]; exact fun h => e h.symm
    rw [e2, bX]
    exact hF _ _ ⟨i + 1, rfl, by omega, by omega, rfl⟩
  ·have : i = t.outs.length := by omega
   subst this
   rw [if_neg (by simp), bj]
   rfl
def lT (m : Img) (t : Tsk) (i : cZ) : Bool :=
 if i.1 = 15 then decide (i.2.1 < m.inputs) else if i.1 = 16 then t.outs.contains i.2.1 else if i.1 = 17 then decide (i.2.2 < ((m.blocks.getD i.2.1.toNat []).length : Int)) else if i.1 = 18 then decide (i.2.2 < ((m.blocks.getD i.2.1.toNat []).length : Int)) else true
theorem M2 (n : Nat) (t : Tsk) (m : Img) (i : cZ) (ho : t.outs.length < n) (hn : n < 1000000) (hb : i.1 = 17 ∨ i.1 = 18 → 0 ≤ i.2.1 ∧ i.2.1 < (m.blocks.length : Int)) (l : List cZ) (v k : Int) :
  zb n true l v k t.1 t.2.1 t.2.2.1 t.2.2.2.1 t.2.2.2.2.1 t.2.2.2.2.2.1 t.2.2.2.2.2.2 m.1 m.2.1 m.2.2.1 m.2.2.2.1 m.2.2.2.2.1 m.2.2.2.2.2.1 m.2.2.2.2.2.2 i.1 i.2.1 i.2.2 = some (lT m t i, l, v, k, t.1, t.2.1, t.2.2.1, t.2.2.2.1, t.2.2.2.2.1, t.2.2.2.2.2.1, t.2.2.2.2.2.2, m.1, m.2.1, m.2.2.1, m.2.2.2.1, m.2.2.2.2.1, m.2.2.2.2.2.1, m.2.2.2.2.2.2, i.1, i.2.1, i.2.2) := by
 unfold zb lT
 by_cases h15 : i.1 = 15
 ·rw [if_pos (ai.2 h15), if_pos h15]
 rw [if_neg (fun h => h15 (ai.1 h)), if_neg h15]
 by_cases h16 : i.1 = 16
 ·rw [if_pos (ai.2 h16), if_pos h16]
  have := M1 n t m i.2.1 ho hn
  show ((uN n (t, m) i.2.1).bind _) = _
  rw [this]; rfl
 rw [if_neg (fun h => h16 (ai.1 h)), if_neg h16]
 by_cases h17 : i.1 = 17
 ·have := hb (.inl h17)
  rw [if_pos (ai.2 h17), if_pos h17, if_pos (by rw [af this.1, af this.2]; rfl)]
 rw [if_neg (fun h => h17 (ai.1 h)), if_neg h17]
 by_cases h18 : i.1 = 18
 ·have := hb (.inr h18)
  rw [if_pos (ai.2 h18), if_pos h18, if_pos (by rw [af this.1, af this.2]; rfl)]
 rw [if_neg (fun h => h18 (ai.1 h)), if_neg h18]
theorem LV (n : Nat) (t : Tsk) (m : Img) (hl : t.code.length < n) (ho : t.outs.length < n) (hn : n < 1000000) (hb : ∀ i ∈ t.code, i.1 = 17 ∨ i.1 = 18 → 0 ≤ i.2.1 ∧ i.2.1 < (m.blocks.length : Int)) : zc n (t, m) = some (if t.code.all (lT m t) = true then 0 else 12) := by
 unfold zc xL
 have := iT (S := fun F => (fg (ew (d8 (C_ q_)))) (uP n F))
  (fun f x r => ∃ i : Nat, x = (t.code, (t.code.length : Int), (i : Int), t.1, t.2.1, t.2.2.1, t.2.2.2.1, t.2.2.2.2.1, t.2.2.2.2.2.1, t.2.2.2.2.2.2, m) ∧ i ≤ t.code.length ∧ t.code.length < f + i ∧ r = if (t.code.drop i).all (lT m t) = true then .inr ((), ((t.1, t.2.1, t.2.2.1, t.2.2.2.1, t.2.2.2.2.1, t.2.2.2.2.2.1, t.2.2.2.2.2.2, m.1, m.2.1, m.2.2.1, m.2.2.2.1, m.2.2.2.2.1, m.2.2.2.2.2.1, m.2.2.2.2.2.2, ()), ())) else .inl ((12, ()), ((t.1, t.2.1, t.2.2.1, t.2.2.2.1, t.2.2.2.2.1, t.2.2.2.2.2.1, t.2.2.2.2.2.2, m.1, m.2.1, m.2.2.1, m.2.2.2.1, m.2.2.2.2.1, m.2.2.2.2.2.1, m.2.2.2.2.2.2, ()), ()))) (fun x r ⟨i, _, h1, h2, _⟩ => by omega) (fun f x F hF r => ?_) n (t.code, (t.code.length : Int), 0, t.1, t.2.1, t.2.2.1, t.2.2.2.1, t.2.2.2.2.1, t.2.2.2.2.2.1, t.2.2.2.2.2.2, m) _ ⟨0, rfl, ay _, by omega, rfl⟩
 ·try dsimp only at this ⊢
  rw [this, bx]
  cases h : t.code.all (lT m t) <;> rfl
 ·rintro ⟨i, rfl, h1, h2, rfl⟩
  show uP n F t.code (t.code.length : Int) (i : Int) t.1 t.2.1 t.2.2.1 t.2.2.2.1 t.2.2.2.2.1 t.2.2.2.2.2.1 t.2.2.2.2.2.2 m.1 m.2.1 m.2.2.1 m.2.2.2.1 m.2.2.2.2.1 m.2.2.2.2.2.1 m.2.2.2.2.2.2 = _
  unfold uP
  rcases am i t.code.length with hlt | hge
  ·have hm : t.code.getD i (0, 0, 0) ∈ t.code := by rw [aq, ax hlt]; exact bA hlt
   rw [if_pos (af (by omega)), if_pos (db hlt), ag, M2 n t m _ ho hn (hb _ hm), en (d := ((0 : Int), (0 : Int), (0 : Int))) hlt, b8]
   simp only [ae]
   cases e : lT m t (t.code.getD i (0, 0, 0)) with
   | true =>
    rw [if_neg (by simp), dC (by omega), aU]
    exact hF _ _ ⟨i + 1, rfl, by omega, by omega, rfl⟩
   | false => rfl
  ·have : i = t.code.length := by omega
   subst this
   rw [if_neg (by simp), bj]
   rfl
theorem JI (l : List cZ) (i : Nat) : (mV l i).length ≤ 1 := by unfold mV; split <;> simp
theorem Bu (l : List cZ) : ∀ (r i : Nat), (jk l r i).length ≤ r
 | 0, i => by simp [jk]
 | r + 1, i => by
  have := Bu l r (i + 1)
  have h1 := JI l i
  rw [show jk l (r + 1) i = mV l i ++ jk l r (i + 1) from rfl, aF]
  omega
theorem JJ (l : List cZ) : (f5 l).length ≤ l.length := by
 unfold f5
 split
 ·exact Bu l _ _
 ·simp
theorem JK (n : Nat) (t : Tsk) (m : Img) (hl : t.code.length < n) (hn3 : 3 < n) (hn : n < 1000000) : uK n (t, m) = some (if eb t.code ≠ 0 then eb t.code else if f5 t.code = t.blocks then 0 else 11) := by
 unfold uK
 rw [show nh n ((t, m) : Tsk × Img).1.2.2.2.2.2.2 = some (f5 t.code, eb t.code) from vd n t.code hl hn]
 simp only [ae]
 by_cases h0 : eb t.code ≠ 0
 ·rw [if_pos (aw.2 h0), if_pos h0]
 rw [if_neg (fun h => h0 (aw.1 h)), if_neg h0]
 by_cases hlen : (f5 t.code).length ≠ t.blocks.length
 ·rw [if_pos (show ((((f5 t.code).length : Nat) : Int) != ((t.2.2.2.2.1.length : Nat) : Int)) = true from aw.2 (fun h => hlen (Int.ofNat.inj h))), if_neg (fun h => hlen (by rw [h]))]
 have hlen : (f5 t.code).length = t.blocks.length := Decidable.not_not.1 hlen
 rw [if_neg (show ¬ ((((f5 t.code).length : Nat) : Int) != ((t.2.2.2.2.1.length : Nat) : Int)) = true from fun h => aw.1 h (congrArg Int.ofNat hlen))]
 unfold uJ
 have hk : (f5 t.code).length ≤ t.code.length := JJ t.code
 generalize f5 t.code = L at hlen hk
 have := iT (S := fun F => (fg (ew (d8 (C_ q_)))) (qo n F))
  (fun f x r => ∃ i : Nat, x = (L, (L.length : Int), (i : Int), t.1, t.2.1, t.2.2.1, t.2.2.2.1, t.2.2.2.2.1, t.2.2.2.2.2.1, t.2.2.2.2.2.2, m) ∧ i ≤ L.length ∧ L.length < f + i ∧ r = if L.drop i = t.blocks.drop i then .inr ((), ((t.1, t.2.1, t.2.2.1, t.2.2.2.1, t.2.2.2.2.1, t.2.2.2.2.2.1, t.2.2.2.2.2.2, m.1, m.2.1, m.2.2.1, m.2.2.2.1, m.2.2.2.2.1, m.2.2.2.2.2.1, m.2.2.2.2.2.2, ()), ())) else .inl ((11, ()), ((t.1, t.2.1, t.2.2.1, t.2.2.2.1, t.2.2.2.2.1, t.2.2.2.2.2.1, t.2.2.2.2.2.2, m.1, m.2.1, m.2.2.1, m.2.2.2.1, m.2.2.2.2.1, m.2.2.2.2.2.1, m.2.2.2.2.2.2, ()), ()))) (fun x r ⟨i, _, h1, h2, _⟩ => by omega) (fun f x F hF r => ?_) n (L, (L.length : Int), 0, t.1, t.2.1, t.2.2.1, t.2.2.2.1, t.2.2.2.2.1, t.2.2.2.2.2.1, t.2.2.2.2.2.2, m) _ ⟨0, rfl, ay _, by omega, rfl⟩
 ·try dsimp only at this ⊢
  rw [this, bx, bx]
  by_cases h : L = t.blocks
  ·rw [if_pos h, if_pos h]; rfl
  ·rw [if_neg h, if_neg h]; rfl
 ·rintro ⟨i, rfl, h1, h2, rfl⟩
  show qo n F L (L.length : Int) (i : Int) t.1 t.2.1 t.2.2.1 t.2.2.2.1 t.2.2.2.2.1 t.2.2.2.2.2.1 t.2.2.2.2.2.2 m.1 m.2.1 m.2.2.1 m.2.2.2.1 m.2.2.2.2.1 m.2.2.2.2.2.1 m.2.2.2.2.2.2 = _
  unfold qo
  rcases am i L.length with hlt | hge
  ·have hlt2 : i < t.2.2.2.2.1.length := by have : t.blocks.length = t.2.2.2.2.1.length := rfl; omega
   rw [if_pos (af (by omega)), if_pos (db hlt), if_pos (db hlt2), ag, en (d := (0 : Int)) hlt, show t.blocks.drop i = t.2.2.2.2.1.getD i 0 :: t.blocks.drop (i + 1) from en (d := (0 : Int)) hlt2]
   by_cases e : L.getD i 0 = t.2.2.2.2.1.getD i 0
   ·rw [if_neg (fun h => aw.1 h e), dC (by omega), e]
    refine hF _ _ ⟨i + 1, rfl, by omega, by omega, ?_⟩
    simp only [bm, true_and]
   ·rw [if_pos (aw.2 e), if_neg (fun h => e (List.cons.inj h).1)]
  ·have : i = L.length := by omega
   subst this
   rw [if_neg (by simp), bj, hlen, bj]
   rfl
theorem sD (n : Int) : IntKind.u64.wrap n = n % 18446744073709551616 := by simp [IntKind.wrap, IntKind.bits, IntKind.signed]
theorem M3 (n : Nat) (a : Int) : ∃ y, mT n a = some y ∧ 0 ≤ y ∧ y < 18446744073709551616 := by
 unfold mT
 refine ⟨_, rfl, ?_, ?_⟩
 ·unfold bits
  rw [sD]
  exact Int.emod_nonneg _ (by decide)
 ·unfold bits
  rw [sD]
  exact Int.emod_lt_of_pos _ (by decide)
theorem Ep (n : Nat) : ∀ (f g : Nat) (o : List Int) (v : Int), 0 ≤ v → v < 128 ^ g → g < f → o.length + g < 1000 → ∃ o' v', it (fun F => q_ (iY n F)) f (o, v) = some (o', v') ∧ o'.length ≤ o.length + g
 | 0, g, o, v, h0, h1, hg, h2 => by omega
 | f + 1, g, o, v, h0, h1, hg, h2 => by
  have ih := Ep n f
  show ∃ o' v', iY n (it _ f) o v = some (o', v') ∧ _
  generalize it (fun F => q_ (iY n F)) f = F at ih ⊢
  unfold iY
  by_cases h : 128 ≤ v
  ·obtain _ | g := g
   ·rw [Int.pow_zero] at h1
    omega
   rw [if_pos (af h), if_pos (by rw [af (by omega), af (by omega)]; rfl)]
   have hd : v.tdiv 128 = v / 128 := cN h0
   have hv : v / 128 < 128 ^ g := by
    rw [Int.pow_succ] at h1
    exact Int.ediv_lt_of_lt_mul (by decide) h1
   obtain ⟨o', v', h3, h4⟩ := ih g (o ++ [(IntKind.wrap .u8 (IntKind.wrap .u64 ((v.tmod 128) + 128)))]) ((IntKind.wrap .u64 (v.tdiv 128))) (by rw [sD]; exact Int.emod_nonneg _ (by decide)) (by
    rw [sD, hd]
    exact Int.lt_of_le_of_lt (by omega) hv) (by omega) (by rw [aF]; show _ + 1 + g < 1000; omega)
   rw [aF] at h4
   exact ⟨o', v', h3, by have : [IntKind.u8.wrap (IntKind.u64.wrap (v.tmod 128 + 128))].length = 1 := rfl; omega⟩
  ·rw [if_neg (by simpa using h)]
   exact ⟨o, v, rfl, by omega⟩
theorem vv (l : List Int) : (fc l).size = l.length := by
 unfold fc ByteArray.size
 simp
theorem JL (n : Nat) (hn : 10 < n) (a : Int) : ∃ y, jP n a = some y ∧ y.size ≤ 11 := by
 obtain ⟨u, h1, h2, h3⟩ := M3 n a
 unfold jP nG
 rw [h1, ae]
 obtain ⟨o, v, h4, h5⟩ := Ep n n 10 [] u h2 (Int.lt_trans h3 (by decide)) hn (by decide)
 have h5 : o.length ≤ 10 := by simpa using h5
 rw [h4, ae]
 dsimp only
 rw [if_pos (by rw [af (by omega), af (by omega)]; rfl)]
 refine ⟨_, rfl, ?_⟩
 rw [vv, aF]
 show _ + 1 ≤ 11
 omega
theorem M4 (n : Nat) (x : cZ) : ∃ y, mn n x.1 = some y := by
 have h := eZ n x
 unfold dc at h
 match h2 : mn n x.1 with
 | some y => exact ⟨y, rfl⟩
 | none => rw [h2] at h; cases h
theorem Er (y : ByteArray) : ∀ (k i : Nat) (r : List UInt8), y.size - i = k → r.length ≤ (ByteArray.toList.loop y i r).length
 | 0, i, r, h => by
  unfold ByteArray.toList.loop
  rw [if_neg (by omega), List.length_reverse]
  exact ak _
 | k + 1, i, r, h => by
  unfold ByteArray.toList.loop
  rw [if_pos (by omega)]
  have := Er y k (i + 1) (y.get! i :: r) (by omega)
  rw [aH] at this
  omega
theorem Es : (ByteArray.mk #[]).toList = [] := by
 unfold ByteArray.toList ByteArray.toList.loop
 rw [if_neg (by decide)]
 rfl
theorem qQ {y : ByteArray} (h : 0 < y.size) : (y.toList == (ByteArray.mk #[]).toList) = false := by
 rw [Es, aX]
 intro h1
 have : (ByteArray.toList.loop y 0 []).length = 0 := by
  have : y.toList = ByteArray.toList.loop y 0 [] := rfl
  rw [← this, h1]
  rfl
 unfold ByteArray.toList.loop at this
 rw [if_pos h] at this
 have h2 := Er y _ (0 + 1) [y.get! 0] rfl
 rw [this] at h2
 exact absurd h2 (Nat.not_succ_le_zero 0)
theorem Bv (n : Nat) (hn : 10 < n) (x : cZ) : ∃ y, fD n x = some y ∧ y.size ≤ 30 ∧ (y.toList == (ByteArray.mk #[]).toList) = !dg x := by
 obtain ⟨o, ho⟩ := M4 n x
 obtain ⟨p, hp1, hp2⟩ := JL n hn x.2.1
 obtain ⟨q, hq1, hq2⟩ := JL n hn x.2.2
 have hs : (fc ([(IntKind.wrap .u8 x.1)])).size = 1 := vv _
 unfold fD nl
 have hr : dc n (x.1, x.2.1, x.2.2) = some (dg x) := eZ n x
 rw [hr, ae]
 cases hb : dg x with
 | false => exact ⟨_, rfl, by decide, by rw [bc]; rfl⟩
 | true =>
  rw [if_neg (by simp), ho, hp1, hq1]
  simp only [ae]
  split
  ·rw [if_pos (af (by omega))]
   split
   ·have : (fc ([(IntKind.wrap .u8 x.1)]) ++ p).size = 1 + p.size := by rw [bS, hs]
    rw [if_pos (af (by omega))]
    refine ⟨_, rfl, ?_, ?_⟩
    ·rw [bS, this]; omega
    ·exact qQ (by rw [bS, this]; omega)
   ·have : (fc ([(IntKind.wrap .u8 x.1)]) ++ p).size = 1 + p.size := by rw [bS, hs]
    exact ⟨_, rfl, by omega, qQ (by omega)⟩
  ·split
   ·rw [if_pos (af (by omega))]
    have : (fc ([(IntKind.wrap .u8 x.1)]) ++ q).size = 1 + q.size := by rw [bS, hs]
    exact ⟨_, rfl, by omega, qQ (by omega)⟩
   ·exact ⟨_, rfl, by omega, qQ (by omega)⟩
def Says (o : Option Bool) (p : Prop) : Prop := ∃ b, o = some b ∧ (b = true ↔ p)
theorem Says.dec {p : Prop} [Decidable p] : Says (some (decide p)) p := ⟨_, rfl, ce⟩
theorem Says.and {o : Option Bool} {f : Bool → Option Bool} {p q : Prop} (h : Says o p) (k : Says (f true) q) (g : f false = some false) : Says (o.bind f) (p ∧ q) := by
 obtain ⟨b, h1, h2⟩ := h
 obtain ⟨c, k1, k2⟩ := k
 rw [h1]
 cases b with
 | true => exact ⟨c, k1, by rw [k2]; exact ⟨fun e => ⟨h2.1 rfl, e⟩, fun e => e.2⟩⟩
 | false => exact ⟨false, g, ⟨fun e => absurd e (by decide), fun e => absurd (h2.2 e.1) (by decide)⟩⟩
theorem Says.iff {o : Option Bool} {p q : Prop} (h : Says o p) (k : p ↔ q) : Says o q := by
 obtain ⟨b, h1, h2⟩ := h
 exact ⟨b, h1, h2.trans k⟩
theorem Says.no {p : Prop} (h : ¬ p) : Says (some false) p := ⟨false, rfl, fun e => absurd e (by decide), fun e => absurd e h⟩
def Rises (e : Int) : Int → List Int → Prop
 | _, [] => True
 | b, x :: l => b < x ∧ x < e ∧ Rises e x l
theorem Et (n : Nat) (l : List Int) (e : Int) (he : 0 ≤ e) (hen : e + 1 < n) (hn : n < 1000000) : Says (iQ n l e) (Rises e (-1) l) := by
 unfold iQ kF
 have := iT (S := fun F => (d8 (C_ q_)) (iB n F)) (fun f x r => ∃ (i : Nat) (b : Int) (c : Bool), x = (e, b, l, (l.length : Int), (i : Int)) ∧ (i ≤ l.length ∧ (i : Int) ≤ b + 1 ∧ b < e) ∧ e < b + f ∧ (c = true ↔ Rises e b (l.drop i)) ∧ r = if c = true then .inr ((), ()) else .inl ((false, ()), ())) (fun x r ⟨i, b, c, _, h1, h2, _⟩ => by omega) (fun f x F hF r => ?_) n (e, -1, l, (l.length : Int), 0)
 ·classical
  refine ⟨decide (Rises e (-1) l), ?_, ce⟩
  rw [this _ ⟨0, -1, decide (Rises e (-1) l), rfl, ⟨ay _, by omega, by omega⟩, by omega, ce, rfl⟩]
  cases decide (Rises e (-1) l) <;> rfl
 ·rintro ⟨i, b, c, rfl, h1, h2, hc, rfl⟩
  show iB n F e b l (l.length : Int) (i : Int) = _
  unfold iB
  rcases am i l.length with hlt | hge
  ·rw [en (d := (0 : Int)) hlt] at hc
   rw [if_pos (af (by omega)), if_pos (db hlt), ag, dC (by omega)]
   have hno : ∀ (h : ¬ (b < l.getD i 0 ∧ l.getD i 0 < e)), c = false := fun h => by
    cases c with
    | false => rfl
    | true => exact absurd ⟨(hc.1 rfl).1, (hc.1 rfl).2.1⟩ h
   by_cases g1 : l.getD i 0 ≤ b
   ·rw [if_pos (af g1), hno (by omega)]; rfl
   rw [if_neg (by simpa using g1)]
   by_cases g2 : l.getD i 0 ≥ e
   ·rw [if_pos (af g2), hno (by omega)]; rfl
   rw [if_neg (by simpa using g2)]
   exact hF _ _ ⟨i + 1, l.getD i 0, c, rfl, by omega, by omega, hc.trans ⟨fun h => h.2.2, fun h => ⟨by omega, by omega, h⟩⟩, rfl⟩
  ·have : i = l.length := by omega
   subst this
   rw [bj] at hc
   rw [if_neg (by simp), if_pos (hc.2 trivial)]
theorem Rises.len {e : Int} : ∀ {l : List Int} {b : Int}, Rises e b l → b < e → (l.length : Int) ≤ e - 1 - b
 | [], b, _, h => by simp; omega
 | x :: l, b, h, h1 => by
  have := Rises.len h.2.2 h.2.1
  have := h.1
  rw [aH]
  omega
theorem Rises.mem {e : Int} : ∀ {l : List Int} {b : Int}, Rises e b l → ∀ x ∈ l, b < x ∧ x < e
 | x :: l, b, h, y, hy => by
  rcases aB.1 hy with rfl | hy
  ·exact ⟨h.1, h.2.1⟩
  ·have := Rises.mem h.2.2 y hy
   have := h.1
   omega
theorem EZ {y : ByteArray} (h : y.size = 0) : y.toList = [] := by
 unfold ByteArray.toList ByteArray.toList.loop
 rw [if_neg (by omega)]
 rfl
def yf (n : Nat) (s : ByteArray) (l : List cZ) : ByteArray := l.foldl (fun s x => s ++ (fD n x).getD (ByteArray.mk #[])) s
theorem E0 (n : Nat) (hn : 10 < n) {x : cZ} (hx : dg x = true) : ∃ y, fD n x = some y ∧ 1 ≤ y.size ∧ y.size ≤ 30 := by
 obtain ⟨y, h1, h2, h3⟩ := Bv n hn x
 refine ⟨y, h1, ?_, h2⟩
 rcases bZ y.size with h | h
 ·rw [EZ h, Es, hx] at h3
  exact absurd h3 (by decide)
 ·exact h
theorem Bw (n : Nat) (hn : 10 < n) : ∀ (l : List cZ) (s : ByteArray), (∀ x ∈ l, dg x = true) → s.size + l.length ≤ (yf n s l).size
 | [], s, _ => ak _
 | x :: l, s, h => by
  obtain ⟨y, h1, h2, _⟩ := E0 n hn (h x aD)
  have := Bw n hn l (s ++ (fD n x).getD (ByteArray.mk #[])) fun y hy => h y (az _ hy)
  rw [bS, h1, bW] at this
  show _ ≤ (yf n (s ++ (fD n x).getD (ByteArray.mk #[])) l).size
  rw [h1, bW, aH]
  omega
def Eu (l : List cZ) : Prop := 1 ≤ l.length ∧ l.length ≤ 200 ∧ ∀ x ∈ l, dg x = true
theorem M5 (n : Nat) (hn : 200 < n) (l : List cZ) : Says ((pp n l).bind fun y4 => some (!(y4.toList == (ByteArray.mk #[]).toList))) (Eu l) := by
 unfold pp oU
 by_cases hl : ¬ l.length ≤ 200
 ·rw [if_pos (af (by omega)), ae, bc]
  exact Says.no (fun h => hl h.2.1)
 have hl : l.length ≤ 200 := Decidable.not_not.1 hl
 rw [if_neg (by simp; omega)]
 have := iT (S := fun F => (d8 q_) (lG n F)) (fun f x r => ∃ (i : Nat) (s : ByteArray), x = (s, l, (l.length : Int), (i : Int)) ∧ i ≤ l.length ∧ l.length < f + i ∧ s.size ≤ 30 * i ∧ r = if (l.drop i).all dg = true then .inr ((yf n s (l.drop i), ()), ()) else .inl ((ByteArray.mk #[], ()), ())) (fun x r ⟨i, s, _, h1, h2, _⟩ => by omega) (fun f x F hF r => ?_) n (ByteArray.mk #[], l, (l.length : Int), 0) _ ⟨0, _, rfl, ay _, by omega, by decide, rfl⟩
 ·rw [this, bx, ae]
  cases h : l.all dg with
  | true =>
   have hr : ∀ x ∈ l, dg x = true := aN.1 h
   have hs := Bw n (by omega) l (ByteArray.mk #[]) hr
   refine Says.iff (p := 1 ≤ l.length) ?_ ⟨fun h => ⟨h, hl, hr⟩, fun h => h.1⟩
   refine ⟨_, rfl, ?_⟩
   show (!((yf n (ByteArray.mk #[]) l).toList == (ByteArray.mk #[]).toList)) = true ↔ _
   by_cases h1 : 1 ≤ l.length
   ·rw [qQ (by omega)]
    exact ⟨fun _ => h1, fun _ => rfl⟩
   ·have : l = [] := List.length_eq_zero_iff.1 (by omega)
    subst this
    rw [show yf n (ByteArray.mk #[]) [] = ByteArray.mk #[] from rfl, bc]
    exact ⟨fun h => absurd h (by decide), fun h => absurd h h1⟩
  | false =>
   rw [if_neg (by decide)]
   show Says (some (!((ByteArray.mk #[]).toList == (ByteArray.mk #[]).toList))) _
   rw [bc]
   exact Says.no (fun k => by rw [aN.2 k.2.2] at h; cases h)
 ·rintro ⟨i, s, rfl, h1, h2, hs, rfl⟩
  show lG n F s l (l.length : Int) (i : Int) = _
  unfold lG
  rcases am i l.length with hlt | hge
  ·obtain ⟨y, e1, e2, e3⟩ := Bv n (by omega) (l.getD i (0, 0, 0))
   rw [if_pos (af (by omega)), if_pos (db hlt), ag, dC (by omega), show fD n ((l.getD i (0, 0, 0)).1, (l.getD i (0, 0, 0)).2.1, (l.getD i (0, 0, 0)).2.2) = some y from e1, ae, e3, en (d := ((0 : Int), (0 : Int), (0 : Int))) hlt, b8]
   cases hb : dg (l.getD i (0, 0, 0)) with
   | false => rfl
   | true =>
    rw [if_neg (by decide), if_pos (af (by omega)), aU]
    refine hF _ _ ⟨i + 1, _, rfl, by omega, by omega, by rw [bS]; omega, ?_⟩
    rw [show yf n s (l.getD i (0, 0, 0) :: l.drop (i + 1)) = yf n (s ++ (fD n (l.getD i (0, 0, 0))).getD (ByteArray.mk #[])) (l.drop (i + 1)) from rfl, e1, bW]
  ·have : i = l.length := by omega
   subst this
   rw [if_neg (by simp), bj]
   rfl
def zH (t : Tsk) : Prop := (1 ≤ t.1 ∧ t.1 ≤ 100) ∧ (1 ≤ t.2.1 ∧ t.2.1 ≤ 1048576) ∧ (1 ≤ t.2.2.1 ∧ t.2.2.1 ≤ t.2.1) ∧ (0 ≤ t.2.2.2.1 ∧ t.2.2.2.1 ≤ 1048576)
def lU (m : Img) (t : Tsk) : Prop := zH t ∧ Rises m.blocks.length (-1) t.blocks ∧ Rises m.safe.length (-1) t.outs ∧ Eu t.code
theorem Hf (n : Nat) (t : Tsk) : Says ((eG n t).bind fun y1 => some (Sh.eqT (.arr 4 (.int .i64)) y1 [t.1, t.2.1, t.2.2.1, t.2.2.2.1])) (zH t) := by
 obtain ⟨a, b, c, d, t⟩ := t
 unfold eG zH
 refine ⟨_, rfl, ?_⟩
 dsimp only
 rw [show ∀ x1 x2 x3 x4 y1 y2 y3 y4 : Int, Sh.eqT (.arr 4 (.int .i64)) [x1, x2, x3, x4] [y1, y2, y3, y4] = (x1 == y1 && (x2 == y2 && (x3 == y3 && (x4 == y4 && true)))) from fun _ _ _ _ _ _ _ _ => rfl]
 simp only [aj, ai, aZ]
 constructor
 ·rintro ⟨h1, h2, h3, h4⟩
  repeat' split at h1
  all_goals (repeat' split at h4)
  all_goals (rw [h2] at h3; repeat' split at h2)
  all_goals (repeat' split at h3)
  all_goals omega
 ·rintro ⟨⟨h1, h2⟩, ⟨h3, h4⟩, ⟨h5, h6⟩, h7, h8⟩
  have e : (if (if 1048576 < b then 1048576 else b) > 1 then (if 1048576 < b then 1048576 else b) else 1) = b := by
   rw [if_neg (show ¬ 1048576 < b by omega)]; split <;> omega
  rw [e, if_neg (show ¬ 100 < a by omega), if_neg (show ¬ b < c by omega), if_neg (show ¬ 1048576 < d by omega)]
  refine ⟨?_, rfl, ?_, ?_⟩ <;> (split <;> omega)
theorem Cd (n : Nat) (hn : 200 < n) (hn2 : n < 1000000) (m : Img) (t : Tsk) (hb : m.blocks.length + 1 < n) (ho : m.safe.length + 1 < n) : Says (fX n t m) (lU m t) := by
 obtain ⟨b, h1, h2⟩ := Hf n t
 unfold fX
 unfold Option.bind at h1
 rw [show eG n (t.1, t.2.1, t.2.2.1, t.2.2.2.1, t.2.2.2.2.1, t.2.2.2.2.2.1, t.2.2.2.2.2.2) = eG n t from rfl]
 match hy : eG n t with
 | none => rw [hy] at h1; cases h1
 | some y =>
  rw [hy] at h1
  have h1 : Sh.eqT (.arr 4 (.int .i64)) y [t.1, t.2.1, t.2.2.1, t.2.2.2.1] = b := au h1
  rw [ae, h1]
  cases b with
  | false => exact Says.no (fun h => by have := h2.2 h.1; cases this)
  | true =>
   rw [if_neg (by decide)]
   have hN : zH t := h2.1 rfl
   by_cases h0 : t.code.length = 0
   ·rw [if_pos (show (((t.2.2.2.2.2.2.length : Nat) : Int) == 0) = true from ai.2 (by have : t.code.length = t.2.2.2.2.2.2.length := rfl; omega))]
    exact Says.no (fun h => by have := h.2.2.2.1; omega)
   ·rw [if_neg (show ¬ (((t.2.2.2.2.2.2.length : Nat) : Int) == 0) = true from fun h => h0 (by have h := ai.1 h; have : t.code.length = t.2.2.2.2.2.2.length := rfl; omega))]
    refine Says.iff (p := Rises m.blocks.length (-1) t.blocks ∧ Rises m.safe.length (-1) t.outs ∧ Eu t.code) ?_ ⟨fun h => ⟨hN, h⟩, fun h => h.2⟩
    exact Says.and (Et n t.blocks (m.blocks.length : Int) (by omega) (by omega) hn2) (Says.and (Et n t.outs (m.safe.length : Int) (by omega) (by omega) hn2) (M5 n hn t.code) rfl) rfl
def apart : List Int → List Int → Bool
 | _, [] => true
 | s, x :: l => !s.contains x && apart (s ++ [x]) l
def mX : List Int → List Int → List Int
 | s, [] => s
 | s, x :: l => if s.contains x = true then s else mX (s ++ [x]) l
theorem Bx : ∀ {l s : List Int}, apart s l = true → mX s l = s ++ l
 | [], s, _ => by simp [mX]
 | x :: l, s, h => by
  unfold apart at h
  rw [aj, bJ] at h
  unfold mX
  rw [if_neg (by rw [h.1]; decide), Bx h.2, aI]
  rfl
theorem vw : ∀ {l k s : List Int}, apart s (l ++ k) = (apart s l && apart (s ++ l) k)
 | [], k, s => by simp [apart]
 | x :: l, k, s => by
  rw [List.cons_append, show apart s (x :: (l ++ k)) = (!s.contains x && apart (s ++ [x]) (l ++ k)) from rfl, show apart s (x :: l) = (!s.contains x && apart (s ++ [x]) l) from rfl, vw, Bool.and_assoc, aI]
  rfl
def own (s : List Int) : List Bool := (List.range 16).map fun i => s.contains ((i : Nat) : Int)
theorem M6 (s : List Int) {o : Int} (h0 : 0 ≤ o) (h1 : o < 16) : (own s).getD o.toNat false = s.contains o := by
 unfold own
 rw [aq, bN, List.getElem?_range (by omega)]
 simp [Int.toNat_of_nonneg h0]
theorem M7 (s : List Int) {o : Int} (h0 : 0 ≤ o) (h1 : o < 16) : (own s).set o.toNat true = own (s ++ [o]) := by
 apply List.ext_getElem
 ·simp [own]
 ·intro i h2 h3
  have hi : i < 16 := by simpa [own] using h3
  rw [List.getElem_set]
  unfold own
  simp only [List.getElem_map, List.getElem_range, List.contains_append]
  by_cases h : o.toNat = i
  ·rw [if_pos h]
   have : ((i : Nat) : Int) = o := by omega
   rw [this]
   simp
  ·rw [if_neg h]
   have : ((i : Nat) : Int) ≠ o := by omega
   simp [this]
theorem Hg (n : Nat) (m : Img) (T : List Tsk) (a k : Int) (l : List Int) (hl : l.length < n) (hn : n < 1000000) (hb : ∀ x ∈ l, 0 ≤ x ∧ x < 16) (s : List Int) : rU n (T, a, k, l, (l.length : Int), 0, m.1, m.2.1, m.2.2.1, m.2.2.2.1, m.2.2.2.2.1, m.2.2.2.2.2.1, m.2.2.2.2.2.2, own s) = some (if apart s l = true then .inr ((T, a, k, ()), ((m.1, m.2.1, m.2.2.1, m.2.2.2.1, m.2.2.2.2.1, m.2.2.2.2.2.1, m.2.2.2.2.2.2, ()), (own (mX s l), ()), ())) else .inl ((false, ()), ((m.1, m.2.1, m.2.2.1, m.2.2.2.1, m.2.2.2.2.1, m.2.2.2.2.2.1, m.2.2.2.2.2.2, ()), (own (mX s l), ()), ()))) := by
 unfold rU
 refine iT (S := fun F => (fg (ew q_)) (uH n F))
  (fun f x r => ∃ (i : Nat) (s : List Int), x = (T, a, k, l, (l.length : Int), (i : Int), m.1, m.2.1, m.2.2.1, m.2.2.2.1, m.2.2.2.2.1, m.2.2.2.2.2.1, m.2.2.2.2.2.2, own s) ∧ i ≤ l.length ∧ l.length < f + i ∧ r = if apart s (l.drop i) = true then .inr ((T, a, k, ()), ((m.1, m.2.1, m.2.2.1, m.2.2.2.1, m.2.2.2.2.1, m.2.2.2.2.2.1, m.2.2.2.2.2.2, ()), (own (mX s (l.drop i)), ()), ())) else .inl ((false, ()), ((m.1, m.2.1, m.2.2.1, m.2.2.2.1, m.2.2.2.2.1, m.2.2.2.2.2.1, m.2.2.2.2.2.2, ()), (own (mX s (l.drop i)), ()), ()))) (fun x r ⟨i, s, _, h1, h2, _⟩ => by omega) (fun f x F hF r => ?_) n _ _ ⟨0, s, rfl, ay _, by omega, rfl⟩
 rintro ⟨i, s, rfl, h1, h2, rfl⟩
 show uH n F T a k l (l.length : Int) (i : Int) m.1 m.2.1 m.2.2.1 m.2.2.2.1 m.2.2.2.2.1 m.2.2.2.2.2.1 m.2.2.2.2.2.2 (own s) = _
 unfold uH
 rcases am i l.length with hlt | hge
 ·have hm : l.getD i 0 ∈ l := by rw [aq, ax hlt]; exact bA hlt
  obtain ⟨h3, h4⟩ := hb _ hm
  have h5 : (decide (0 ≤ l.getD i 0) && decide (l.getD i 0 < 16)) = true := by rw [af h3, af h4]; rfl
  rw [if_pos (af (by omega)), if_pos (db hlt), ag, if_pos h5, M6 s h3 h4, en (d := (0 : Int)) hlt, dC (by omega)]
  unfold apart mX
  cases h : s.contains (l.getD i 0) with
  | true => rfl
  | false =>
   rw [if_neg (show ¬ (false = true) by decide), if_neg (show ¬ (false = true) by decide), if_pos h5, M7 s h3 h4, Bool.not_false, aU]
   exact hF _ _ ⟨i + 1, _, rfl, by omega, by omega, rfl⟩
 ·have : i = l.length := by omega
  subst this
  rw [if_neg (by simp), bj]
  rfl
def TasksOk (m : Img) : List Int → List Tsk → Prop
 | _, [] => True
 | s, t :: l => lU m t ∧ apart s t.outs = true ∧ TasksOk m (s ++ t.outs) l
theorem TasksOk.all {m : Img} : ∀ {l : List Tsk} {s : List Int}, TasksOk m s l ↔ (∀ t ∈ l, lU m t) ∧ apart s (l.flatMap Tsk.outs) = true
 | [], s => by simp [TasksOk, apart]
 | t :: l, s => by
  unfold TasksOk
  rw [TasksOk.all, cG, vw, aj, List.forall_mem_cons]
  exact ⟨fun ⟨h1, h2, h3, h4⟩ => ⟨⟨h1, h3⟩, h2, h4⟩, fun ⟨⟨h1, h3⟩, h2, h4⟩ => ⟨h1, h2, h3, h4⟩⟩
open Classical in
def zI (m : Img) : List Int → List Tsk → List Int
 | s, [] => s
 | s, t :: l => if lU m t then (if apart s t.outs = true then zI m (s ++ t.outs) l else mX s t.outs) else s
theorem Hh (n : Nat) (hn : 200 < n) (hn2 : n < 1000000) (m : Img) (hbl : m.blocks.length + 1 < n) (hs : m.safe.length ≤ 16) (hT : m.tasks.length < n) :
  Says ((rV n (m.tasks, (m.tasks.length : Int), 0, m.1, m.2.1, m.2.2.1, m.2.2.2.1, m.2.2.2.2.1, m.2.2.2.2.2.1, m.2.2.2.2.2.2, own [])).bind fun y => Sum.elim (fun z => some z.1.1) (fun z => some true) y) (TasksOk m [] m.tasks) := by
 unfold rV
 have hit := iT (S := fun F => (fg (C_ q_)) (uI n F))
  (fun f x r => ∃ (i : Nat) (s : List Int) (c : Bool), x = (m.tasks, (m.tasks.length : Int), (i : Int), m.1, m.2.1, m.2.2.1, m.2.2.2.1, m.2.2.2.2.1, m.2.2.2.2.2.1, m.2.2.2.2.2.2, own s) ∧ i ≤ m.tasks.length ∧ m.tasks.length < f + i ∧ (c = true ↔ TasksOk m s (m.tasks.drop i)) ∧ r = if c = true then .inr ((), ((m.1, m.2.1, m.2.2.1, m.2.2.2.1, m.2.2.2.2.1, m.2.2.2.2.2.1, m.2.2.2.2.2.2, ()), (own (zI m s (m.tasks.drop i)), ()), ())) else .inl ((false, ()), ((m.1, m.2.1, m.2.2.1, m.2.2.2.1, m.2.2.2.2.1, m.2.2.2.2.2.1, m.2.2.2.2.2.2, ()), (own (zI m s (m.tasks.drop i)), ()), ()))) (fun x r ⟨i, s, c, _, h1, h2, _⟩ => by omega) (fun f x F hF r => ?_) n (m.tasks, (m.tasks.length : Int), 0, m.1, m.2.1, m.2.2.1, m.2.2.2.1, m.2.2.2.2.1, m.2.2.2.2.2.1, m.2.2.2.2.2.2, own [])
 ·have := Classical.propDecidable (TasksOk m [] m.tasks)
  refine ⟨decide (TasksOk m [] m.tasks), ?_, ce⟩
  rw [hit _ ⟨0, [], decide (TasksOk m [] m.tasks), rfl, ay _, by omega, ce, rfl⟩, ae]
  cases decide (TasksOk m [] m.tasks) <;> rfl
 ·rintro ⟨i, s, c, rfl, h1, h2, hc, rfl⟩
  show uI n F m.tasks (m.tasks.length : Int) (i : Int) m.1 m.2.1 m.2.2.1 m.2.2.2.1 m.2.2.2.2.1 m.2.2.2.2.2.1 m.2.2.2.2.2.2 (own s) = _
  unfold uI
  rcases am i m.tasks.length with hlt | hge
  ·rw [en (d := ((0 : Int), (0 : Int), (0 : Int), (0 : Int), ([] : List Int), ([] : List Int), ([] : List cZ))) hlt] at hc ⊢
   rw [if_pos (af (by omega)), if_pos (db hlt), ag]
   generalize m.tasks.getD i (0, 0, 0, 0, [], [], []) = t at hc ⊢
   obtain ⟨b, e1, e2⟩ := Cd n hn hn2 m t hbl (by omega)
   rw [show fX n (t.1, t.2.1, t.2.2.1, t.2.2.2.1, t.2.2.2.2.1, t.2.2.2.2.2.1, t.2.2.2.2.2.2) (m.1, m.2.1, m.2.2.1, m.2.2.2.1, m.2.2.2.2.1, m.2.2.2.2.2.1, m.2.2.2.2.2.2) = some b from e1, ae]
   cases b with
   | false =>
    have ht : ¬ lU m t := fun h => by have := e2.2 h; cases this
    have hc0 : c = false := by cases c with
     | false => rfl
     | true => exact absurd (hc.1 rfl).1 ht
    rw [hc0]
    unfold zI
    rw [if_neg ht]
    rfl
   | true =>
    have ht : lU m t := e2.1 rfl
    have hr := ht.2.2.1
    have hlen := hr.len (by omega)
    have hmem := hr.mem
    rw [if_neg (by decide), Hg n m m.tasks _ _ t.outs (by omega) hn2 (fun x hx => by have := hmem x hx; omega) s, ae]
    unfold zI
    rw [if_pos ht]
    cases ha : apart s t.outs with
    | false =>
     have hc0 : c = false := by cases c with
      | false => rfl
      | true => have := (hc.1 rfl).2.1; rw [ha] at this; cases this
     rw [hc0]
     rfl
    | true =>
     rw [if_pos rfl, Bx ha, if_pos rfl]
     dsimp only [Sum.elim_inr]
     rw [dC (by omega)]
     exact hF _ _ ⟨i + 1, s ++ t.outs, c, rfl, by omega, by omega, hc.trans ⟨fun h => h.2.2, fun h => ⟨ht, ha, h⟩⟩, rfl⟩
  ·have : i = m.tasks.length := by omega
   subst this
   rw [bj] at hc ⊢
   rw [if_neg (by simp), if_pos (hc.2 trivial)]
   rfl
def Aq (m : Img) : Prop := (0 ≤ m.1 ∧ m.1 ≤ 100) ∧ (1 ≤ m.2.1 ∧ m.2.1 ≤ 100) ∧ (1 ≤ m.2.2.1 ∧ m.2.2.1 ≤ 100) ∧ (0 ≤ m.2.2.2.1 ∧ m.2.2.2.1 ≤ 16) ∧ m.safe.length ≤ 16 ∧ m.blocks.length ≤ 8 ∧ (1 ≤ m.tasks.length ∧ m.tasks.length ≤ 8)
def mH (l : List (List Int)) : Prop := ∀ b ∈ l, 1 ≤ b.length ∧ b.length ≤ 8
def RightP (m : Img) : Prop := Aq m ∧ mH m.blocks ∧ TasksOk m [] m.tasks
theorem Hi (n : Nat) (hn2 : n < 1000000) (m : Img) (hT : m.blocks.length < n) (F : Option Bool) :
  ∃ c, (c = true ↔ mH m.blocks) ∧ rT n (m.blocks, (m.blocks.length : Int), 0, m.1, m.2.1, m.2.2.1, m.2.2.2.1, m.2.2.2.2.1, m.2.2.2.2.2.1, m.2.2.2.2.2.2) = some (if c = true then .inr ((), ((m.1, m.2.1, m.2.2.1, m.2.2.2.1, m.2.2.2.2.1, m.2.2.2.2.2.1, m.2.2.2.2.2.2, ()), ())) else .inl ((false, ()), ((m.1, m.2.1, m.2.2.1, m.2.2.2.1, m.2.2.2.2.1, m.2.2.2.2.2.1, m.2.2.2.2.2.2, ()), ()))) := by
 unfold rT
 have := Classical.propDecidable (mH m.blocks)
 refine ⟨decide (mH m.blocks), ce, ?_⟩
 refine iT (S := fun F => (fg q_) (uG n F))
  (fun f x r => ∃ (i : Nat) (c : Bool), x = (m.blocks, (m.blocks.length : Int), (i : Int), m.1, m.2.1, m.2.2.1, m.2.2.2.1, m.2.2.2.2.1, m.2.2.2.2.2.1, m.2.2.2.2.2.2) ∧ i ≤ m.blocks.length ∧ m.blocks.length < f + i ∧ (c = true ↔ mH (m.blocks.drop i)) ∧ r = if c = true then .inr ((), ((m.1, m.2.1, m.2.2.1, m.2.2.2.1, m.2.2.2.2.1, m.2.2.2.2.2.1, m.2.2.2.2.2.2, ()), ())) else .inl ((false, ()), ((m.1, m.2.1, m.2.2.1, m.2.2.2.1, m.2.2.2.2.1, m.2.2.2.2.2.1, m.2.2.2.2.2.2, ()), ()))) (fun x r ⟨i, c, _, h1, h2, _⟩ => by omega) (fun f x F hF r => ?_) n _ _ ⟨0, decide (mH m.blocks), rfl, ay _, by omega, ce, rfl⟩
 rintro ⟨i, c, rfl, h1, h2, hc, rfl⟩
 show uG n F m.blocks (m.blocks.length : Int) (i : Int) m.1 m.2.1 m.2.2.1 m.2.2.2.1 m.2.2.2.2.1 m.2.2.2.2.2.1 m.2.2.2.2.2.2 = _
 unfold uG
 rcases am i m.blocks.length with hlt | hge
 ·rw [en (d := ([] : List Int)) hlt] at hc
  rw [if_pos (af (by omega)), if_pos (db hlt), ag]
  generalize m.blocks.getD i [] = b at hc ⊢
  have hc : c = true ↔ (1 ≤ b.length ∧ b.length ≤ 8) ∧ mH (m.blocks.drop (i + 1)) := hc.trans List.forall_mem_cons
  have hno : ∀ (h : ¬ (1 ≤ b.length ∧ b.length ≤ 8)), c = false := fun h => by
   cases c with
   | false => rfl
   | true => exact absurd (hc.1 rfl).1 h
  by_cases g1 : b.length = 0
  ·rw [if_pos (ai.2 (by omega)), hno (by omega)]; rfl
  rw [if_neg (fun h => g1 (by have := ai.1 h; omega))]
  by_cases g2 : b.length ≤ 8
  ·rw [if_neg (by simp; omega), dC (by omega)]
   exact hF _ _ ⟨i + 1, c, rfl, by omega, by omega, hc.trans ⟨fun h => h.2, fun h => ⟨by omega, h⟩⟩, rfl⟩
  ·rw [if_pos (af (by omega)), hno (by omega)]; rfl
 ·have : i = m.blocks.length := by omega
  subst this
  rw [bj] at hc
  rw [if_neg (by simp), if_pos (hc.2 (fun b hb => by cases hb))]
theorem QY {a b c d e f g : Bool} {A B C D E F G : Prop} (ha : a = true ↔ A) (hb : b = true ↔ B) (hc : c = true ↔ C) (hd : d = true ↔ D) (he : e = true ↔ E) (hf : f = true ↔ F) (hg : g = true ↔ G) : (a && (b && (c && (d && (e && (f && g)))))) = true ↔ A ∧ B ∧ C ∧ D ∧ E ∧ F ∧ G := by
 simp only [aj, ha, hb, hc, hd, he, hf, hg]
theorem vx (n : Nat) (hn : 200 < n) (hn2 : n < 1000000) (m : Img) : Says (rW n m) (RightP m) := by
 unfold rW
 have hN : ∀ {b : Bool}, (b = true ↔ Aq m) → ∀ {o : Option Bool}, (Aq m → Says o (RightP m)) → Says (if (!b) = true then some false else o) (RightP m) := fun {b} hb {o} ho => by
  cases b with
  | false => exact Says.no (fun h => by have := hb.2 h.1; cases this)
  | true => exact ho (hb.1 rfl)
 refine hN ?_ ?_
 ·refine QY ?_ ?_ ?_ ?_ ?_ ?_ ?_
  all_goals (rw [ai])
  ·generalize m.1 = a; constructor <;> intro h <;> (repeat' split at *) <;> omega
  ·generalize m.2.1 = a; constructor <;> intro h <;> (repeat' split at *) <;> omega
  ·generalize m.2.2.1 = a; constructor <;> intro h <;> (repeat' split at *) <;> omega
  ·generalize m.2.2.2.1 = a; constructor <;> intro h <;> (repeat' split at *) <;> omega
  ·show (m.safe.length : Int) = _ ↔ _
   generalize m.safe.length = a; constructor <;> intro h <;> (repeat' split at *) <;> omega
  ·show (m.blocks.length : Int) = _ ↔ _
   generalize m.blocks.length = a; constructor <;> intro h <;> (repeat' split at *) <;> omega
  ·show (m.tasks.length : Int) = _ ↔ _
   generalize m.tasks.length = a; constructor <;> intro h <;> (repeat' split at *) <;> omega
 ·intro hI
  obtain ⟨_, _, _, _, h5, h6, h7⟩ := id hI
  obtain ⟨c, hc, e⟩ := Hi n hn2 m (by omega) none
  rw [e, ae]
  cases c with
  | false => exact Says.no (fun h => by have := hc.2 h.2.1; cases this)
  | true => exact (Hh n hn hn2 m (by omega) h5 (by omega)).iff ⟨fun h => ⟨hI, hc.1 rfl, h⟩, fun h => h.2.2⟩
def Ev (m : Img) : Prop := m.safe.length + m.blocks.length + m.tasks.length ≤ 80 ∧ ∀ t ∈ m.tasks, t.code.length ≤ 4019
end Go.Proofs.Dk
