/- CheckTells: for every input the call returns true, and each argument reads afterwards as it read before. No condition. -/
import Derived.Test.YtmacohlmfghffaaMB6
import Derived.Test.YtmacohlmfghffaaMB5
import Derived.Test.YtmacohlmfghffaaRows
import Derived.WalkKit
import Derived.ProofKit
import Derived.OpenShut
import Derived.ShutString
import Derived.ChangeOld
import Derived.Below
import Derived.SizedLaws
/- Plain: whether an instruction has bytes. -/
namespace Go.Proofs.Dk
open Go
set_option maxRecDepth 100000
set_option linter.unusedVariables false
set_option linter.unusedSimpArgs false
theorem wrap_u64 (n : Int) : IntKind.u64.wrap n = n % 18446744073709551616 := by simp [IntKind.wrap, IntKind.bits, IntKind.signed]
theorem turn_in (n : Nat) (a : Int) : ∃ y, code_turn.f n a = some y ∧ 0 ≤ y ∧ y < 18446744073709551616 := by
  unfold code_turn.f
  refine ⟨_, rfl, ?_, ?_⟩
  · unfold bits
    rw [wrap_u64]
    exact Int.emod_nonneg _ (by decide)
  · unfold bits
    rw [wrap_u64]
    exact Int.emod_lt_of_pos _ (by decide)
theorem put_loop (n : Nat) : ∀ (f g : Nat) (o : List Int) (v : Int), 0 ≤ v → v < 128 ^ g → g < f → o.length + g < 1000 → ∃ o' v', it (fun F (x : List Int × Int) => code_Put.b0 n F x.1 x.2) f (o, v) = some (o', v') ∧ o'.length ≤ o.length + g
  | 0, g, o, v, h0, h1, hg, h2 => by omega
  | f + 1, g, o, v, h0, h1, hg, h2 => by
    have ih := put_loop n f
    show ∃ o' v', code_Put.b0 n (it _ f) o v = some (o', v') ∧ _
    generalize it (fun F (x : List Int × Int) => code_Put.b0 n F x.1 x.2) f = F at ih ⊢
    unfold code_Put.b0
    by_cases h : 128 ≤ v
    · obtain _ | g := g
      · rw [Int.pow_zero] at h1
        omega
      rw [if_pos (decide_eq_true h), if_pos (by rw [decide_eq_true (by omega), decide_eq_true (by omega)]; rfl)]
      have hd : v.tdiv 128 = v / 128 := Int.tdiv_eq_ediv_of_nonneg h0
      have hv : v / 128 < 128 ^ g := by
        rw [Int.pow_succ] at h1
        exact Int.ediv_lt_of_lt_mul (by decide) h1
      obtain ⟨o', v', h3, h4⟩ := ih g (o ++ [(IntKind.wrap .u8 (IntKind.wrap .u64 ((v.tmod 128) + 128)))]) ((IntKind.wrap .u64 (v.tdiv 128))) (by rw [wrap_u64]; exact Int.emod_nonneg _ (by decide)) (by
        rw [wrap_u64, hd]
        exact Int.lt_of_le_of_lt (by omega) hv) (by omega) (by rw [List.length_append]; show _ + 1 + g < 1000; omega)
      rw [List.length_append] at h4
      exact ⟨o', v', h3, by have : [IntKind.u8.wrap (IntKind.u64.wrap (v.tmod 128 + 128))].length = 1 := rfl; omega⟩
    · rw [if_neg (by simpa using h)]
      exact ⟨o, v, rfl, by omega⟩
theorem strNums_size (l : List Int) : (strNums l).size = l.length := by
  unfold strNums ByteArray.size
  simp
theorem put_is (n : Nat) (hn : 10 < n) (a : Int) : ∃ y, code_Put.f n a = some y ∧ y.size ≤ 11 := by
  obtain ⟨u, h1, h2, h3⟩ := turn_in n a
  unfold code_Put.f code_Put.b0.l
  rw [h1, Option.bind_some]
  obtain ⟨o, v, h4, h5⟩ := put_loop n n 10 [] u h2 (Int.lt_trans h3 (by decide)) hn (by decide)
  have h5 : o.length ≤ 10 := by simpa using h5
  rw [h4, Option.bind_some]
  dsimp only
  rw [if_pos (by rw [decide_eq_true (by omega), decide_eq_true (by omega)]; rfl)]
  refine ⟨_, rfl, ?_⟩
  rw [strNums_size, List.length_append]
  show _ + 1 ≤ 11
  omega
theorem of_some (n : Nat) (x : Ins) : ∃ y, op_of.f n x.1 = some y := by
  have h := right_is n x
  unfold op_Right.f at h
  match h2 : op_of.f n x.1 with
  | some y => exact ⟨y, rfl⟩
  | none => rw [h2] at h; cases h
theorem loop_len (y : ByteArray) : ∀ (k i : Nat) (r : List UInt8), y.size - i = k → r.length ≤ (ByteArray.toList.loop y i r).length
  | 0, i, r, h => by
    unfold ByteArray.toList.loop
    rw [if_neg (by omega), List.length_reverse]
    exact Nat.le_refl _
  | k + 1, i, r, h => by
    unfold ByteArray.toList.loop
    rw [if_pos (by omega)]
    have := loop_len y k (i + 1) (y.get! i :: r) (by omega)
    rw [List.length_cons] at this
    omega
theorem nil_list : (ByteArray.mk #[]).toList = [] := by
  unfold ByteArray.toList ByteArray.toList.loop
  rw [if_neg (by decide)]
  rfl
theorem list_ne {y : ByteArray} (h : 0 < y.size) : (y.toList == (ByteArray.mk #[]).toList) = false := by
  rw [nil_list, beq_eq_false_iff_ne]
  intro h1
  have : (ByteArray.toList.loop y 0 []).length = 0 := by
    have : y.toList = ByteArray.toList.loop y 0 [] := rfl
    rw [← this, h1]
    rfl
  unfold ByteArray.toList.loop at this
  rw [if_pos h] at this
  have h2 := loop_len y _ (0 + 1) [y.get! 0] rfl
  rw [this] at h2
  exact absurd h2 (Nat.not_succ_le_zero 0)
theorem encode_is (n : Nat) (hn : 10 < n) (x : Ins) : ∃ y, op_Encode.f n x = some y ∧ y.size ≤ 30 ∧ (y.toList == (ByteArray.mk #[]).toList) = !rightI x := by
  obtain ⟨o, ho⟩ := of_some n x
  obtain ⟨p, hp1, hp2⟩ := put_is n hn x.2.1
  obtain ⟨q, hq1, hq2⟩ := put_is n hn x.2.2
  have hs : (strNums ([(IntKind.wrap .u8 x.1)])).size = 1 := strNums_size _
  unfold op_Encode.f op_Args.f
  have hr : op_Right.f n (x.1, x.2.1, x.2.2) = some (rightI x) := right_is n x
  rw [hr, Option.bind_some]
  cases hb : rightI x with
  | false => exact ⟨_, rfl, by decide, by rw [beq_self_eq_true]; rfl⟩
  | true =>
    rw [if_neg (by simp), ho, hp1, hq1]
    simp only [Option.bind_some]
    split
    · rw [if_pos (decide_eq_true (by omega))]
      split
      · have : (strNums ([(IntKind.wrap .u8 x.1)]) ++ p).size = 1 + p.size := by rw [ByteArray.size_append, hs]
        rw [if_pos (decide_eq_true (by omega))]
        refine ⟨_, rfl, ?_, ?_⟩
        · rw [ByteArray.size_append, this]; omega
        · exact list_ne (by rw [ByteArray.size_append, this]; omega)
      · have : (strNums ([(IntKind.wrap .u8 x.1)]) ++ p).size = 1 + p.size := by rw [ByteArray.size_append, hs]
        exact ⟨_, rfl, by omega, list_ne (by omega)⟩
    · split
      · rw [if_pos (decide_eq_true (by omega))]
        have : (strNums ([(IntKind.wrap .u8 x.1)]) ++ q).size = 1 + q.size := by rw [ByteArray.size_append, hs]
        exact ⟨_, rfl, by omega, list_ne (by omega)⟩
      · exact ⟨_, rfl, by omega, list_ne (by omega)⟩
end Go.Proofs.Dk

/- Plain: whether a task of an image can be. -/
namespace Go.Proofs.Dk
open Go
set_option maxRecDepth 100000
set_option linter.unusedVariables false
set_option linter.unusedSimpArgs false
def Says (o : Option Bool) (p : Prop) : Prop := ∃ b, o = some b ∧ (b = true ↔ p)
theorem Says.dec {p : Prop} [Decidable p] : Says (some (decide p)) p := ⟨_, rfl, decide_eq_true_iff⟩
theorem Says.and {o : Option Bool} {f : Bool → Option Bool} {p q : Prop} (h : Says o p) (k : Says (f true) q) (g : f false = some false) : Says (o.bind f) (p ∧ q) := by
  obtain ⟨b, h1, h2⟩ := h
  obtain ⟨c, k1, k2⟩ := k
  rw [h1]
  cases b with
  | true => exact ⟨c, k1, by rw [k2]; exact ⟨fun e => ⟨h2.1 rfl, e⟩, fun e => e.2⟩⟩
  | false => exact ⟨false, g, ⟨fun e => absurd e (by decide), fun e => absurd (h2.2 e.1) (by decide)⟩⟩
theorem Says.iff {o : Option Bool} {p q : Prop} (h : Says o p) (k : p ↔ q) : Says o q := by
  obtain ⟨b, h1, h2⟩ := h
  exact ⟨b, h1, h2.trans k⟩
theorem Says.no {p : Prop} (h : ¬ p) : Says (some false) p := ⟨false, rfl, fun e => absurd e (by decide), fun e => absurd e h⟩
def Rises (e : Int) : Int → List Int → Prop
  | _, [] => True
  | b, x :: l => b < x ∧ x < e ∧ Rises e x l
theorem rises_is (n : Nat) (l : List Int) (e : Int) (he : 0 ≤ e) (hen : e + 1 < n) (hn : n < 1000000) : Says (image_rises.f n l e) (Rises e (-1) l) := by
  unfold image_rises.f image_rises.b0.l
  have := it_all (S := fun F (x : Int × Int × List Int × Int × Int) => image_rises.b0 n F x.1 x.2.1 x.2.2.1 x.2.2.2.1 x.2.2.2.2) (fun f x r => ∃ (i : Nat) (b : Int) (c : Bool), x = (e, b, l, (l.length : Int), (i : Int)) ∧ (i ≤ l.length ∧ (i : Int) ≤ b + 1 ∧ b < e) ∧ e < b + f ∧ (c = true ↔ Rises e b (l.drop i)) ∧ r = if c = true then .inr ((), ()) else .inl ((false, ()), ())) (fun x r ⟨i, b, c, _, h1, h2, _⟩ => by omega) (fun f x F hF r => ?_) n (e, -1, l, (l.length : Int), 0)
  · classical
    refine ⟨decide (Rises e (-1) l), ?_, decide_eq_true_iff⟩
    rw [this _ ⟨0, -1, decide (Rises e (-1) l), rfl, ⟨Nat.zero_le _, by omega, by omega⟩, by omega, decide_eq_true_iff, rfl⟩]
    cases decide (Rises e (-1) l) <;> rfl
  · rintro ⟨i, b, c, rfl, h1, h2, hc, rfl⟩
    show image_rises.b0 n F e b l (l.length : Int) (i : Int) = _
    unfold image_rises.b0
    rcases Nat.lt_or_ge i l.length with hlt | hge
    · rw [drop_eq_cons (d := (0 : Int)) hlt] at hc
      rw [if_pos (decide_eq_true (by omega)), if_pos (in_ix hlt), Int.toNat_natCast, next_ix (by omega)]
      have hno : ∀ (h : ¬ (b < l.getD i 0 ∧ l.getD i 0 < e)), c = false := fun h => by
        cases c with
        | false => rfl
        | true => exact absurd ⟨(hc.1 rfl).1, (hc.1 rfl).2.1⟩ h
      by_cases g1 : l.getD i 0 ≤ b
      · rw [if_pos (decide_eq_true g1), hno (by omega)]; rfl
      rw [if_neg (by simpa using g1)]
      by_cases g2 : l.getD i 0 ≥ e
      · rw [if_pos (decide_eq_true g2), hno (by omega)]; rfl
      rw [if_neg (by simpa using g2)]
      exact hF _ _ ⟨i + 1, l.getD i 0, c, rfl, by omega, by omega, hc.trans ⟨fun h => h.2.2, fun h => ⟨by omega, by omega, h⟩⟩, rfl⟩
    · have : i = l.length := by omega
      subst this
      rw [List.drop_length] at hc
      rw [if_neg (by simp), if_pos (hc.2 trivial)]
theorem Rises.len {e : Int} : ∀ {l : List Int} {b : Int}, Rises e b l → b < e → (l.length : Int) ≤ e - 1 - b
  | [], b, _, h => by simp; omega
  | x :: l, b, h, h1 => by
    have := Rises.len h.2.2 h.2.1
    have := h.1
    rw [List.length_cons]
    omega
theorem Rises.mem {e : Int} : ∀ {l : List Int} {b : Int}, Rises e b l → ∀ x ∈ l, b < x ∧ x < e
  | x :: l, b, h, y, hy => by
    rcases List.mem_cons.1 hy with rfl | hy
    · exact ⟨h.1, h.2.1⟩
    · have := Rises.mem h.2.2 y hy
      have := h.1
      omega
end Go.Proofs.Dk

/- Plain: places that rise, as the document says; instructions' bytes. -/
namespace Go.Proofs.Dk
open Go
set_option maxRecDepth 100000
set_option linter.unusedVariables false
set_option linter.unusedSimpArgs false
theorem ref_rises_is (n : Nat) (l : List Int) (e : Int) (he : 0 ≤ e) (hen : e + 1 < n) (hn : n < 1000000) : Says (camshaftref11_rises.f n l e) (Rises e (-1) l) := by
  unfold camshaftref11_rises.f camshaftref11_rises.b0.l
  have := it_all (S := fun F (x : List Int × Int × Int) => camshaftref11_rises.b0 n F x.1 x.2.1 x.2.2) (fun f x r => ∃ (i : Nat) (b : Int) (c : Bool), x = (l, e, (i : Int)) ∧ (i ≤ l.length ∧ (i : Int) ≤ b + 1 ∧ b < e) ∧ e < b + f ∧ (i = 0 ∧ b = -1 ∨ 0 < i ∧ b = l.getD (i - 1) 0 ∧ 0 ≤ b) ∧ (c = true ↔ Rises e b (l.drop i)) ∧ r = if c = true then .inr ((), ()) else .inl ((false, ()), ())) (fun x r ⟨i, b, c, _, h1, h2, _⟩ => by omega) (fun f x F hF r => ?_) n (l, e, 0)
  · classical
    refine ⟨decide (Rises e (-1) l), ?_, decide_eq_true_iff⟩
    rw [this _ ⟨0, -1, decide (Rises e (-1) l), rfl, ⟨Nat.zero_le _, by omega, by omega⟩, by omega, .inl ⟨rfl, rfl⟩, decide_eq_true_iff, rfl⟩]
    cases decide (Rises e (-1) l) <;> rfl
  · rintro ⟨i, b, c, rfl, h1, h2, hb, hc, rfl⟩
    show camshaftref11_rises.b0 n F l e (i : Int) = _
    unfold camshaftref11_rises.b0
    rcases Nat.lt_or_ge i l.length with hlt | hge
    · rw [drop_eq_cons (d := (0 : Int)) hlt] at hc
      rw [if_pos (decide_eq_true (by omega)), if_pos (in_ix hlt), Int.toNat_natCast, next_ix (by omega)]
      have hno : ∀ (h : ¬ (b < l.getD i 0 ∧ l.getD i 0 < e)), c = false := fun h => by
        cases c with
        | false => rfl
        | true => exact absurd ⟨(hc.1 rfl).1, (hc.1 rfl).2.1⟩ h
      by_cases g1 : l.getD i 0 < 0
      · rw [if_pos (decide_eq_true g1), hno (by omega)]; rfl
      rw [if_neg (by simpa using g1), if_pos (in_ix hlt)]
      by_cases g2 : l.getD i 0 ≥ e
      · rw [if_pos (decide_eq_true g2), hno (by omega)]; rfl
      rw [if_neg (by simpa using g2)]
      have hgo : b < l.getD i 0 → F (l, e, ((i + 1 : Nat) : Int)) = some (if c = true then .inr ((), ()) else .inl ((false, ()), ())) := fun h => hF _ _ ⟨i + 1, l.getD i 0, c, rfl, by omega, by omega, .inr ⟨by omega, rfl, by omega⟩, hc.trans ⟨fun h => h.2.2, fun k => ⟨h, by omega, k⟩⟩, rfl⟩
      by_cases g3 : 0 < i
      · have hb : b = l.getD (i - 1) 0 := by rcases hb with h | h; omega; exact h.2.1
        rw [if_pos (decide_eq_true (by omega)), len1_ix g3 (by omega), if_pos (in_ix (by omega)), if_pos (in_ix hlt), Int.toNat_natCast]
        by_cases g4 : l.getD (i - 1) 0 ≥ l.getD i 0
        · rw [if_pos (decide_eq_true g4), hno (by omega)]; rfl
        · rw [if_neg (by simpa using g4)]
          exact hgo (by omega)
      · rw [if_neg (by simp; omega)]
        exact hgo (by omega)
    · have : i = l.length := by omega
      subst this
      rw [List.drop_length] at hc
      rw [if_neg (by simp), if_pos (hc.2 trivial)]
theorem in_is (n : Nat) (a b c : Int) : Says (camshaftref11_in.f n a b c) (b ≤ a ∧ a ≤ c) := by
  unfold camshaftref11_in.f
  by_cases h : a ≥ b
  · rw [if_pos (decide_eq_true h)]
    exact Says.dec.iff ⟨fun k => ⟨h, k⟩, fun k => k.2⟩
  · rw [if_neg (by simpa using h)]
    exact Says.no (fun k => h k.1)
theorem nil_of_size {y : ByteArray} (h : y.size = 0) : y.toList = [] := by
  unfold ByteArray.toList ByteArray.toList.loop
  rw [if_neg (by omega)]
  rfl
noncomputable def catE (n : Nat) (s : ByteArray) (l : List Ins) : ByteArray := l.foldl (fun s x => s ++ (op_Encode.f n x).getD (ByteArray.mk #[])) s
theorem encode_size (n : Nat) (hn : 10 < n) {x : Ins} (hx : rightI x = true) : ∃ y, op_Encode.f n x = some y ∧ 1 ≤ y.size ∧ y.size ≤ 30 := by
  obtain ⟨y, h1, h2, h3⟩ := encode_is n hn x
  refine ⟨y, h1, ?_, h2⟩
  rcases Nat.eq_zero_or_pos y.size with h | h
  · rw [nil_of_size h, nil_list, hx] at h3
    exact absurd h3 (by decide)
  · exact h
theorem catE_size (n : Nat) (hn : 10 < n) : ∀ (l : List Ins) (s : ByteArray), (∀ x ∈ l, rightI x = true) → s.size + l.length ≤ (catE n s l).size
  | [], s, _ => Nat.le_refl _
  | x :: l, s, h => by
    obtain ⟨y, h1, h2, _⟩ := encode_size n hn (h x List.mem_cons_self)
    have := catE_size n hn l (s ++ (op_Encode.f n x).getD (ByteArray.mk #[])) fun y hy => h y (List.mem_cons_of_mem _ hy)
    rw [ByteArray.size_append, h1, Option.getD_some] at this
    show _ ≤ (catE n (s ++ (op_Encode.f n x).getD (ByteArray.mk #[])) l).size
    rw [h1, Option.getD_some, List.length_cons]
    omega
def CodeOk (l : List Ins) : Prop := 1 ≤ l.length ∧ l.length ≤ 200 ∧ ∀ x ∈ l, rightI x = true
theorem code_is (n : Nat) (hn : 200 < n) (l : List Ins) : Says ((op_Code.f n l).bind fun y4 => some (!(y4.toList == (ByteArray.mk #[]).toList))) (CodeOk l) := by
  unfold op_Code.f op_Code.b0.l
  by_cases hl : ¬ l.length ≤ 200
  · rw [if_pos (decide_eq_true (by omega)), Option.bind_some, beq_self_eq_true]
    exact Says.no (fun h => hl h.2.1)
  have hl : l.length ≤ 200 := Decidable.not_not.1 hl
  rw [if_neg (by simp; omega)]
  have := it_all (S := fun F (x : ByteArray × List Ins × Int × Int) => op_Code.b0 n F x.1 x.2.1 x.2.2.1 x.2.2.2) (fun f x r => ∃ (i : Nat) (s : ByteArray), x = (s, l, (l.length : Int), (i : Int)) ∧ i ≤ l.length ∧ l.length < f + i ∧ s.size ≤ 30 * i ∧ r = if (l.drop i).all rightI = true then .inr ((catE n s (l.drop i), ()), ()) else .inl ((ByteArray.mk #[], ()), ())) (fun x r ⟨i, s, _, h1, h2, _⟩ => by omega) (fun f x F hF r => ?_) n (ByteArray.mk #[], l, (l.length : Int), 0) _ ⟨0, _, rfl, Nat.zero_le _, by omega, by decide, rfl⟩
  · rw [this, List.drop_zero, Option.bind_some]
    cases h : l.all rightI with
    | true =>
      have hr : ∀ x ∈ l, rightI x = true := List.all_eq_true.1 h
      have hs := catE_size n (by omega) l (ByteArray.mk #[]) hr
      refine Says.iff (p := 1 ≤ l.length) ?_ ⟨fun h => ⟨h, hl, hr⟩, fun h => h.1⟩
      refine ⟨_, rfl, ?_⟩
      show (!((catE n (ByteArray.mk #[]) l).toList == (ByteArray.mk #[]).toList)) = true ↔ _
      by_cases h1 : 1 ≤ l.length
      · rw [list_ne (by omega)]
        exact ⟨fun _ => h1, fun _ => rfl⟩
      · have : l = [] := List.length_eq_zero_iff.1 (by omega)
        subst this
        rw [show catE n (ByteArray.mk #[]) [] = ByteArray.mk #[] from rfl, beq_self_eq_true]
        exact ⟨fun h => absurd h (by decide), fun h => absurd h h1⟩
    | false =>
      rw [if_neg (by decide)]
      show Says (some (!((ByteArray.mk #[]).toList == (ByteArray.mk #[]).toList))) _
      rw [beq_self_eq_true]
      exact Says.no (fun k => by rw [List.all_eq_true.2 k.2.2] at h; cases h)
  · rintro ⟨i, s, rfl, h1, h2, hs, rfl⟩
    show op_Code.b0 n F s l (l.length : Int) (i : Int) = _
    unfold op_Code.b0
    rcases Nat.lt_or_ge i l.length with hlt | hge
    · obtain ⟨y, e1, e2, e3⟩ := encode_is n (by omega) (l.getD i (0, 0, 0))
      rw [if_pos (decide_eq_true (by omega)), if_pos (in_ix hlt), Int.toNat_natCast, next_ix (by omega), show op_Encode.f n ((l.getD i (0, 0, 0)).1, (l.getD i (0, 0, 0)).2.1, (l.getD i (0, 0, 0)).2.2) = some y from e1, Option.bind_some, e3, drop_eq_cons (d := ((0 : Int), (0 : Int), (0 : Int))) hlt, List.all_cons]
      cases hb : rightI (l.getD i (0, 0, 0)) with
      | false => rfl
      | true =>
        rw [if_neg (by decide), if_pos (decide_eq_true (by omega)), Bool.true_and]
        refine hF _ _ ⟨i + 1, _, rfl, by omega, by omega, by rw [ByteArray.size_append]; omega, ?_⟩
        rw [show catE n s (l.getD i (0, 0, 0) :: l.drop (i + 1)) = catE n (s ++ (op_Encode.f n (l.getD i (0, 0, 0))).getD (ByteArray.mk #[])) (l.drop (i + 1)) from rfl, e1, Option.getD_some]
    · have : i = l.length := by omega
      subst this
      rw [if_neg (by simp), List.drop_length]
      rfl
end Go.Proofs.Dk

/- Plain: whether a task can be. -/
namespace Go.Proofs.Dk
open Go
set_option maxRecDepth 100000
set_option linter.unusedVariables false
set_option linter.unusedSimpArgs false
def NumsOk (t : Tsk) : Prop := (1 ≤ t.1 ∧ t.1 ≤ 100) ∧ (1 ≤ t.2.1 ∧ t.2.1 ≤ 1048576) ∧ (1 ≤ t.2.2.1 ∧ t.2.2.1 ≤ t.2.1) ∧ (0 ≤ t.2.2.2.1 ∧ t.2.2.2.1 ≤ 1048576)
def TaskOk (m : Img) (t : Tsk) : Prop := NumsOk t ∧ Rises m.blocks.length (-1) t.blocks ∧ Rises m.safe.length (-1) t.outs ∧ CodeOk t.code
theorem numbers_is (n : Nat) (t : Tsk) : Says ((image_Task_numbers.f n t).bind fun y1 => some (Sh.eqT (.arr 4 (.int .i64)) y1 [t.1, t.2.1, t.2.2.1, t.2.2.2.1])) (NumsOk t) := by
  obtain ⟨a, b, c, d, t⟩ := t
  unfold image_Task_numbers.f NumsOk
  refine ⟨_, rfl, ?_⟩
  dsimp only
  rw [show ∀ x1 x2 x3 x4 y1 y2 y3 y4 : Int, Sh.eqT (.arr 4 (.int .i64)) [x1, x2, x3, x4] [y1, y2, y3, y4] = (x1 == y1 && (x2 == y2 && (x3 == y3 && (x4 == y4 && true)))) from fun _ _ _ _ _ _ _ _ => rfl]
  simp only [Bool.and_eq_true, beq_iff_eq, and_true]
  constructor
  · rintro ⟨h1, h2, h3, h4⟩
    repeat' split at h1
    all_goals (repeat' split at h4)
    all_goals (rw [h2] at h3; repeat' split at h2)
    all_goals (repeat' split at h3)
    all_goals omega
  · rintro ⟨⟨h1, h2⟩, ⟨h3, h4⟩, ⟨h5, h6⟩, h7, h8⟩
    have e : (if (if 1048576 < b then 1048576 else b) > 1 then (if 1048576 < b then 1048576 else b) else 1) = b := by
      rw [if_neg (show ¬ 1048576 < b by omega)]; split <;> omega
    rw [e, if_neg (show ¬ 100 < a by omega), if_neg (show ¬ b < c by omega), if_neg (show ¬ 1048576 < d by omega)]
    refine ⟨?_, rfl, ?_, ?_⟩ <;> (split <;> omega)
theorem task_right_is (n : Nat) (hn : 200 < n) (hn2 : n < 1000000) (m : Img) (t : Tsk) (hb : m.blocks.length + 1 < n) (ho : m.safe.length + 1 < n) : Says (image_Task_right.f n t m) (TaskOk m t) := by
  obtain ⟨b, h1, h2⟩ := numbers_is n t
  unfold image_Task_right.f
  unfold Option.bind at h1
  rw [show image_Task_numbers.f n (t.1, t.2.1, t.2.2.1, t.2.2.2.1, t.2.2.2.2.1, t.2.2.2.2.2.1, t.2.2.2.2.2.2) = image_Task_numbers.f n t from rfl]
  match hy : image_Task_numbers.f n t with
  | none => rw [hy] at h1; cases h1
  | some y =>
    rw [hy] at h1
    have h1 : Sh.eqT (.arr 4 (.int .i64)) y [t.1, t.2.1, t.2.2.1, t.2.2.2.1] = b := Option.some.inj h1
    rw [Option.bind_some, h1]
    cases b with
    | false => exact Says.no (fun h => by have := h2.2 h.1; cases this)
    | true =>
      rw [if_neg (by decide)]
      have hN : NumsOk t := h2.1 rfl
      by_cases h0 : t.code.length = 0
      · rw [if_pos (show (((t.2.2.2.2.2.2.length : Nat) : Int) == 0) = true from beq_iff_eq.2 (by have : t.code.length = t.2.2.2.2.2.2.length := rfl; omega))]
        exact Says.no (fun h => by have := h.2.2.2.1; omega)
      · rw [if_neg (show ¬ (((t.2.2.2.2.2.2.length : Nat) : Int) == 0) = true from fun h => h0 (by have h := beq_iff_eq.1 h; have : t.code.length = t.2.2.2.2.2.2.length := rfl; omega))]
        refine Says.iff (p := Rises m.blocks.length (-1) t.blocks ∧ Rises m.safe.length (-1) t.outs ∧ CodeOk t.code) ?_ ⟨fun h => ⟨hN, h⟩, fun h => h.2⟩
        exact Says.and (rises_is n t.blocks (m.blocks.length : Int) (by omega) (by omega) hn2) (Says.and (rises_is n t.outs (m.safe.length : Int) (by omega) (by omega) hn2) (code_is n hn t.code) rfl) rfl
theorem one_is (n : Nat) (hn2 : n < 1000000) (m : Img) (t : Tsk) (hb : m.blocks.length + 1 < n) (ho : m.safe.length + 1 < n) (hc : t.code.length < n) (hi : InR t.code) : Says (camshaftref11_one.f n m t) (TaskOk m t) := by
  unfold camshaftref11_one.f camshaftref11_one.b0.l
  have := it_all (S := fun F (x : Int × Int × Int × Int × Int × List Int × List (List Int) × List Tsk × Int × Int × Int × Int × List Int × List Int × List Ins) => camshaftref11_one.b0 n F x.1 x.2.1 x.2.2.1 x.2.2.2.1 x.2.2.2.2.1 x.2.2.2.2.2.1 x.2.2.2.2.2.2.1 x.2.2.2.2.2.2.2.1 x.2.2.2.2.2.2.2.2.1 x.2.2.2.2.2.2.2.2.2.1 x.2.2.2.2.2.2.2.2.2.2.1 x.2.2.2.2.2.2.2.2.2.2.2.1 x.2.2.2.2.2.2.2.2.2.2.2.2.1 x.2.2.2.2.2.2.2.2.2.2.2.2.2.1 x.2.2.2.2.2.2.2.2.2.2.2.2.2.2)
    (fun f x r => ∃ i : Nat, x = ((i : Int), m.1, m.2.1, m.2.2.1, m.2.2.2.1, m.2.2.2.2.1, m.2.2.2.2.2.1, m.2.2.2.2.2.2, t.1, t.2.1, t.2.2.1, t.2.2.2.1, t.2.2.2.2.1, t.2.2.2.2.2.1, t.2.2.2.2.2.2) ∧ i ≤ t.code.length ∧ t.code.length < f + i ∧ r = if (t.code.drop i).all rightI = true then .inr ((), ((m.1, m.2.1, m.2.2.1, m.2.2.2.1, m.2.2.2.2.1, m.2.2.2.2.2.1, m.2.2.2.2.2.2, ()), (t.1, t.2.1, t.2.2.1, t.2.2.2.1, t.2.2.2.2.1, t.2.2.2.2.2.1, t.2.2.2.2.2.2, ()), ())) else .inl ((false, ()), ((m.1, m.2.1, m.2.2.1, m.2.2.2.1, m.2.2.2.2.1, m.2.2.2.2.2.1, m.2.2.2.2.2.2, ()), (t.1, t.2.1, t.2.2.1, t.2.2.2.1, t.2.2.2.2.1, t.2.2.2.2.2.1, t.2.2.2.2.2.2, ()), ()))) (fun x r ⟨i, _, h1, h2, _⟩ => by omega) (fun f x F hF r => ?_) n (0, m.1, m.2.1, m.2.2.1, m.2.2.2.1, m.2.2.2.2.1, m.2.2.2.2.2.1, m.2.2.2.2.2.2, t.1, t.2.1, t.2.2.1, t.2.2.2.1, t.2.2.2.2.1, t.2.2.2.2.2.1, t.2.2.2.2.2.2) _ ⟨0, rfl, Nat.zero_le _, by omega, rfl⟩
  · rw [this, List.drop_zero, Option.bind_some]
    cases h : t.code.all rightI with
    | false => exact Says.no (fun k => by rw [List.all_eq_true.2 k.2.2.2.2.2] at h; cases h)
    | true =>
      have hr := List.all_eq_true.1 h
      refine Says.iff (p := (1 ≤ t.1 ∧ t.1 ≤ 100) ∧ (1 ≤ t.2.1 ∧ t.2.1 ≤ 1048576) ∧ (1 ≤ t.2.2.1 ∧ t.2.2.1 ≤ t.2.1) ∧ (0 ≤ t.2.2.2.1 ∧ t.2.2.2.1 ≤ 1048576) ∧ Rises m.blocks.length (-1) t.blocks ∧ Rises m.safe.length (-1) t.outs ∧ (1 ≤ (t.code.length : Int) ∧ (t.code.length : Int) ≤ 200)) ?_ ⟨fun ⟨h1, h2, h3, h4, h5, h6, h7⟩ => ⟨⟨h1, h2, h3, h4⟩, h5, h6, by omega, by omega, hr⟩, fun ⟨⟨h1, h2, h3, h4⟩, h5, h6, h7, h8, _⟩ => ⟨h1, h2, h3, h4, h5, h6, by omega, by omega⟩⟩
      have hlast := in_is n (t.code.length : Int) 1 200
      refine Says.and (in_is n t.1 1 100) (Says.and (in_is n t.2.1 1 1048576) (Says.and (in_is n t.2.2.1 1 t.2.1) (Says.and (in_is n t.2.2.2.1 0 1048576) (Says.and (ref_rises_is n t.blocks (m.blocks.length : Int) (by omega) (by omega) hn2) (Says.and (ref_rises_is n t.outs (m.safe.length : Int) (by omega) (by omega) hn2) ?_ rfl) rfl) rfl) rfl) rfl) rfl
      obtain ⟨b, e1, e2⟩ := hlast
      refine ⟨b, ?_, e2⟩
      show (camshaftref11_in.f n (t.code.length : Int) 1 200).bind _ = _
      rw [e1]
      rfl
  · rintro ⟨i, rfl, h1, h2, rfl⟩
    show camshaftref11_one.b0 n F (i : Int) m.1 m.2.1 m.2.2.1 m.2.2.2.1 m.2.2.2.2.1 m.2.2.2.2.2.1 m.2.2.2.2.2.2 t.1 t.2.1 t.2.2.1 t.2.2.2.1 t.2.2.2.2.1 t.2.2.2.2.2.1 t.2.2.2.2.2.2 = _
    unfold camshaftref11_one.b0
    rcases Nat.lt_or_ge i t.code.length with hlt | hge
    · have hm : t.code.getD i (0, 0, 0) ∈ t.code := by rw [List.getD_eq_getElem?_getD, List.getElem?_eq_getElem hlt]; exact List.getElem_mem hlt
      have hR : camshaftref04_Right.f n ((t.2.2.2.2.2.2.getD i (0, 0, 0)).1, (t.2.2.2.2.2.2.getD i (0, 0, 0)).2.1, (t.2.2.2.2.2.2.getD i (0, 0, 0)).2.2) = some (rightI (t.code.getD i (0, 0, 0))) := (right_eq n (t.code.getD i (0, 0, 0)) (hi _ hm)).trans (right_is n _)
      rw [if_pos (show decide ((i : Int) < (t.2.2.2.2.2.2.length : Int)) = true from decide_eq_true (by have : t.code.length = t.2.2.2.2.2.2.length := rfl; omega)), if_pos (show (decide (0 ≤ (i : Int)) && decide ((i : Int) < (t.2.2.2.2.2.2.length : Int))) = true from in_ix hlt), Int.toNat_natCast, next_ix (by omega), hR, Option.bind_some, drop_eq_cons (d := ((0 : Int), (0 : Int), (0 : Int))) hlt, List.all_cons]
      cases hb : rightI (t.code.getD i (0, 0, 0)) with
      | false => rfl
      | true =>
        rw [if_neg (by decide), Bool.true_and]
        exact hF _ _ ⟨i + 1, rfl, by omega, by omega, rfl⟩
    · have : i = t.code.length := by omega
      subst this
      rw [if_neg (by simp), List.drop_length]
      rfl
end Go.Proofs.Dk

/- Plain: whether an image can be. -/
namespace Go.Proofs.Dk
open Go
set_option maxRecDepth 100000
set_option linter.unusedVariables false
set_option linter.unusedSimpArgs false
def apart : List Int → List Int → Bool
  | _, [] => true
  | s, x :: l => !s.contains x && apart (s ++ [x]) l
def stopS : List Int → List Int → List Int
  | s, [] => s
  | s, x :: l => if s.contains x = true then s else stopS (s ++ [x]) l
theorem stopS_all : ∀ {l s : List Int}, apart s l = true → stopS s l = s ++ l
  | [], s, _ => by simp [stopS]
  | x :: l, s, h => by
    unfold apart at h
    rw [Bool.and_eq_true, Bool.not_eq_true'] at h
    unfold stopS
    rw [if_neg (by rw [h.1]; decide), stopS_all h.2, List.append_assoc]
    rfl
theorem apart_append : ∀ {l k s : List Int}, apart s (l ++ k) = (apart s l && apart (s ++ l) k)
  | [], k, s => by simp [apart]
  | x :: l, k, s => by
    rw [List.cons_append, show apart s (x :: (l ++ k)) = (!s.contains x && apart (s ++ [x]) (l ++ k)) from rfl, show apart s (x :: l) = (!s.contains x && apart (s ++ [x]) l) from rfl, apart_append, Bool.and_assoc, List.append_assoc]
    rfl
def own (s : List Int) : List Bool := (List.range 16).map fun i => s.contains ((i : Nat) : Int)
theorem own_get (s : List Int) {o : Int} (h0 : 0 ≤ o) (h1 : o < 16) : (own s).getD o.toNat false = s.contains o := by
  unfold own
  rw [List.getD_eq_getElem?_getD, List.getElem?_map, List.getElem?_range (by omega)]
  simp [Int.toNat_of_nonneg h0]
theorem own_set (s : List Int) {o : Int} (h0 : 0 ≤ o) (h1 : o < 16) : (own s).set o.toNat true = own (s ++ [o]) := by
  apply List.ext_getElem
  · simp [own]
  · intro i h2 h3
    have hi : i < 16 := by simpa [own] using h3
    rw [List.getElem_set]
    unfold own
    simp only [List.getElem_map, List.getElem_range, List.contains_append]
    by_cases h : o.toNat = i
    · rw [if_pos h]
      have : ((i : Nat) : Int) = o := by omega
      rw [this]
      simp
    · rw [if_neg h]
      have : ((i : Nat) : Int) ≠ o := by omega
      simp [this]
theorem owned_loop (n : Nat) (m : Img) (T : List Tsk) (a k : Int) (l : List Int) (hl : l.length < n) (hn : n < 1000000) (hb : ∀ x ∈ l, 0 ≤ x ∧ x < 16) (s : List Int) : image_Right.b1.l n (T, a, k, l, (l.length : Int), 0, m.1, m.2.1, m.2.2.1, m.2.2.2.1, m.2.2.2.2.1, m.2.2.2.2.2.1, m.2.2.2.2.2.2, own s) = some (if apart s l = true then .inr ((T, a, k, ()), ((m.1, m.2.1, m.2.2.1, m.2.2.2.1, m.2.2.2.2.1, m.2.2.2.2.2.1, m.2.2.2.2.2.2, ()), (own (stopS s l), ()), ())) else .inl ((false, ()), ((m.1, m.2.1, m.2.2.1, m.2.2.2.1, m.2.2.2.2.1, m.2.2.2.2.2.1, m.2.2.2.2.2.2, ()), (own (stopS s l), ()), ()))) := by
  unfold image_Right.b1.l
  refine it_all (S := fun F (x : List Tsk × Int × Int × List Int × Int × Int × Int × Int × Int × Int × List Int × List (List Int) × List Tsk × List Bool) => image_Right.b1 n F x.1 x.2.1 x.2.2.1 x.2.2.2.1 x.2.2.2.2.1 x.2.2.2.2.2.1 x.2.2.2.2.2.2.1 x.2.2.2.2.2.2.2.1 x.2.2.2.2.2.2.2.2.1 x.2.2.2.2.2.2.2.2.2.1 x.2.2.2.2.2.2.2.2.2.2.1 x.2.2.2.2.2.2.2.2.2.2.2.1 x.2.2.2.2.2.2.2.2.2.2.2.2.1 x.2.2.2.2.2.2.2.2.2.2.2.2.2)
    (fun f x r => ∃ (i : Nat) (s : List Int), x = (T, a, k, l, (l.length : Int), (i : Int), m.1, m.2.1, m.2.2.1, m.2.2.2.1, m.2.2.2.2.1, m.2.2.2.2.2.1, m.2.2.2.2.2.2, own s) ∧ i ≤ l.length ∧ l.length < f + i ∧ r = if apart s (l.drop i) = true then .inr ((T, a, k, ()), ((m.1, m.2.1, m.2.2.1, m.2.2.2.1, m.2.2.2.2.1, m.2.2.2.2.2.1, m.2.2.2.2.2.2, ()), (own (stopS s (l.drop i)), ()), ())) else .inl ((false, ()), ((m.1, m.2.1, m.2.2.1, m.2.2.2.1, m.2.2.2.2.1, m.2.2.2.2.2.1, m.2.2.2.2.2.2, ()), (own (stopS s (l.drop i)), ()), ()))) (fun x r ⟨i, s, _, h1, h2, _⟩ => by omega) (fun f x F hF r => ?_) n _ _ ⟨0, s, rfl, Nat.zero_le _, by omega, rfl⟩
  rintro ⟨i, s, rfl, h1, h2, rfl⟩
  show image_Right.b1 n F T a k l (l.length : Int) (i : Int) m.1 m.2.1 m.2.2.1 m.2.2.2.1 m.2.2.2.2.1 m.2.2.2.2.2.1 m.2.2.2.2.2.2 (own s) = _
  unfold image_Right.b1
  rcases Nat.lt_or_ge i l.length with hlt | hge
  · have hm : l.getD i 0 ∈ l := by rw [List.getD_eq_getElem?_getD, List.getElem?_eq_getElem hlt]; exact List.getElem_mem hlt
    obtain ⟨h3, h4⟩ := hb _ hm
    have h5 : (decide (0 ≤ l.getD i 0) && decide (l.getD i 0 < 16)) = true := by rw [decide_eq_true h3, decide_eq_true h4]; rfl
    rw [if_pos (decide_eq_true (by omega)), if_pos (in_ix hlt), Int.toNat_natCast, if_pos h5, own_get s h3 h4, drop_eq_cons (d := (0 : Int)) hlt, next_ix (by omega)]
    unfold apart stopS
    cases h : s.contains (l.getD i 0) with
    | true => rfl
    | false =>
      rw [if_neg (show ¬ (false = true) by decide), if_neg (show ¬ (false = true) by decide), if_pos h5, own_set s h3 h4, Bool.not_false, Bool.true_and]
      exact hF _ _ ⟨i + 1, _, rfl, by omega, by omega, rfl⟩
  · have : i = l.length := by omega
    subst this
    rw [if_neg (by simp), List.drop_length]
    rfl
def TasksOk (m : Img) : List Int → List Tsk → Prop
  | _, [] => True
  | s, t :: l => TaskOk m t ∧ apart s t.outs = true ∧ TasksOk m (s ++ t.outs) l
theorem TasksOk.all {m : Img} : ∀ {l : List Tsk} {s : List Int}, TasksOk m s l ↔ (∀ t ∈ l, TaskOk m t) ∧ apart s (l.flatMap Tsk.outs) = true
  | [], s => by simp [TasksOk, apart]
  | t :: l, s => by
    unfold TasksOk
    rw [TasksOk.all, List.flatMap_cons, apart_append, Bool.and_eq_true, List.forall_mem_cons]
    exact ⟨fun ⟨h1, h2, h3, h4⟩ => ⟨⟨h1, h3⟩, h2, h4⟩, fun ⟨⟨h1, h3⟩, h2, h4⟩ => ⟨h1, h2, h3, h4⟩⟩
open Classical in
noncomputable def stopT (m : Img) : List Int → List Tsk → List Int
  | s, [] => s
  | s, t :: l => if TaskOk m t then (if apart s t.outs = true then stopT m (s ++ t.outs) l else stopS s t.outs) else s
theorem tasks_loop (n : Nat) (hn : 200 < n) (hn2 : n < 1000000) (m : Img) (hbl : m.blocks.length + 1 < n) (hs : m.safe.length ≤ 16) (hT : m.tasks.length < n) :
    Says ((image_Right.b2.l n (m.tasks, (m.tasks.length : Int), 0, m.1, m.2.1, m.2.2.1, m.2.2.2.1, m.2.2.2.2.1, m.2.2.2.2.2.1, m.2.2.2.2.2.2, own [])).bind fun y => Sum.elim (fun z => some z.1.1) (fun z => some true) y) (TasksOk m [] m.tasks) := by
  unfold image_Right.b2.l
  have hit := it_all (S := fun F (x : List Tsk × Int × Int × Int × Int × Int × Int × List Int × List (List Int) × List Tsk × List Bool) => image_Right.b2 n F x.1 x.2.1 x.2.2.1 x.2.2.2.1 x.2.2.2.2.1 x.2.2.2.2.2.1 x.2.2.2.2.2.2.1 x.2.2.2.2.2.2.2.1 x.2.2.2.2.2.2.2.2.1 x.2.2.2.2.2.2.2.2.2.1 x.2.2.2.2.2.2.2.2.2.2)
    (fun f x r => ∃ (i : Nat) (s : List Int) (c : Bool), x = (m.tasks, (m.tasks.length : Int), (i : Int), m.1, m.2.1, m.2.2.1, m.2.2.2.1, m.2.2.2.2.1, m.2.2.2.2.2.1, m.2.2.2.2.2.2, own s) ∧ i ≤ m.tasks.length ∧ m.tasks.length < f + i ∧ (c = true ↔ TasksOk m s (m.tasks.drop i)) ∧ r = if c = true then .inr ((), ((m.1, m.2.1, m.2.2.1, m.2.2.2.1, m.2.2.2.2.1, m.2.2.2.2.2.1, m.2.2.2.2.2.2, ()), (own (stopT m s (m.tasks.drop i)), ()), ())) else .inl ((false, ()), ((m.1, m.2.1, m.2.2.1, m.2.2.2.1, m.2.2.2.2.1, m.2.2.2.2.2.1, m.2.2.2.2.2.2, ()), (own (stopT m s (m.tasks.drop i)), ()), ()))) (fun x r ⟨i, s, c, _, h1, h2, _⟩ => by omega) (fun f x F hF r => ?_) n (m.tasks, (m.tasks.length : Int), 0, m.1, m.2.1, m.2.2.1, m.2.2.2.1, m.2.2.2.2.1, m.2.2.2.2.2.1, m.2.2.2.2.2.2, own [])
  · have := Classical.propDecidable (TasksOk m [] m.tasks)
    refine ⟨decide (TasksOk m [] m.tasks), ?_, decide_eq_true_iff⟩
    rw [hit _ ⟨0, [], decide (TasksOk m [] m.tasks), rfl, Nat.zero_le _, by omega, decide_eq_true_iff, rfl⟩, Option.bind_some]
    cases decide (TasksOk m [] m.tasks) <;> rfl
  · rintro ⟨i, s, c, rfl, h1, h2, hc, rfl⟩
    show image_Right.b2 n F m.tasks (m.tasks.length : Int) (i : Int) m.1 m.2.1 m.2.2.1 m.2.2.2.1 m.2.2.2.2.1 m.2.2.2.2.2.1 m.2.2.2.2.2.2 (own s) = _
    unfold image_Right.b2
    rcases Nat.lt_or_ge i m.tasks.length with hlt | hge
    · rw [drop_eq_cons (d := ((0 : Int), (0 : Int), (0 : Int), (0 : Int), ([] : List Int), ([] : List Int), ([] : List Ins))) hlt] at hc ⊢
      rw [if_pos (decide_eq_true (by omega)), if_pos (in_ix hlt), Int.toNat_natCast]
      generalize m.tasks.getD i (0, 0, 0, 0, [], [], []) = t at hc ⊢
      obtain ⟨b, e1, e2⟩ := task_right_is n hn hn2 m t hbl (by omega)
      rw [show image_Task_right.f n (t.1, t.2.1, t.2.2.1, t.2.2.2.1, t.2.2.2.2.1, t.2.2.2.2.2.1, t.2.2.2.2.2.2) (m.1, m.2.1, m.2.2.1, m.2.2.2.1, m.2.2.2.2.1, m.2.2.2.2.2.1, m.2.2.2.2.2.2) = some b from e1, Option.bind_some]
      cases b with
      | false =>
        have ht : ¬ TaskOk m t := fun h => by have := e2.2 h; cases this
        have hc0 : c = false := by cases c with
          | false => rfl
          | true => exact absurd (hc.1 rfl).1 ht
        rw [hc0]
        unfold stopT
        rw [if_neg ht]
        rfl
      | true =>
        have ht : TaskOk m t := e2.1 rfl
        have hr := ht.2.2.1
        have hlen := hr.len (by omega)
        have hmem := hr.mem
        rw [if_neg (by decide), owned_loop n m m.tasks _ _ t.outs (by omega) hn2 (fun x hx => by have := hmem x hx; omega) s, Option.bind_some]
        unfold stopT
        rw [if_pos ht]
        cases ha : apart s t.outs with
        | false =>
          have hc0 : c = false := by cases c with
            | false => rfl
            | true => have := (hc.1 rfl).2.1; rw [ha] at this; cases this
          rw [hc0]
          rfl
        | true =>
          rw [if_pos rfl, stopS_all ha, if_pos rfl]
          dsimp only [Sum.elim_inr]
          rw [next_ix (by omega)]
          exact hF _ _ ⟨i + 1, s ++ t.outs, c, rfl, by omega, by omega, hc.trans ⟨fun h => h.2.2, fun h => ⟨ht, ha, h⟩⟩, rfl⟩
    · have : i = m.tasks.length := by omega
      subst this
      rw [List.drop_length] at hc ⊢
      rw [if_neg (by simp), if_pos (hc.2 trivial)]
      rfl
end Go.Proofs.Dk

/- Plain: whether an image can be. -/
namespace Go.Proofs.Dk
open Go
set_option maxRecDepth 100000
set_option linter.unusedVariables false
set_option linter.unusedSimpArgs false
def ImgNums (m : Img) : Prop := (0 ≤ m.1 ∧ m.1 ≤ 100) ∧ (1 ≤ m.2.1 ∧ m.2.1 ≤ 100) ∧ (1 ≤ m.2.2.1 ∧ m.2.2.1 ≤ 100) ∧ (0 ≤ m.2.2.2.1 ∧ m.2.2.2.1 ≤ 16) ∧ m.safe.length ≤ 16 ∧ m.blocks.length ≤ 8 ∧ (1 ≤ m.tasks.length ∧ m.tasks.length ≤ 8)
def WordsOk (l : List (List Int)) : Prop := ∀ b ∈ l, 1 ≤ b.length ∧ b.length ≤ 8
def RightP (m : Img) : Prop := ImgNums m ∧ WordsOk m.blocks ∧ TasksOk m [] m.tasks
theorem words_loop (n : Nat) (hn2 : n < 1000000) (m : Img) (hT : m.blocks.length < n) (F : Option Bool) :
    ∃ c, (c = true ↔ WordsOk m.blocks) ∧ image_Right.b0.l n (m.blocks, (m.blocks.length : Int), 0, m.1, m.2.1, m.2.2.1, m.2.2.2.1, m.2.2.2.2.1, m.2.2.2.2.2.1, m.2.2.2.2.2.2) = some (if c = true then .inr ((), ((m.1, m.2.1, m.2.2.1, m.2.2.2.1, m.2.2.2.2.1, m.2.2.2.2.2.1, m.2.2.2.2.2.2, ()), ())) else .inl ((false, ()), ((m.1, m.2.1, m.2.2.1, m.2.2.2.1, m.2.2.2.2.1, m.2.2.2.2.2.1, m.2.2.2.2.2.2, ()), ()))) := by
  unfold image_Right.b0.l
  have := Classical.propDecidable (WordsOk m.blocks)
  refine ⟨decide (WordsOk m.blocks), decide_eq_true_iff, ?_⟩
  refine it_all (S := fun F (x : List (List Int) × Int × Int × Int × Int × Int × Int × List Int × List (List Int) × List Tsk) => image_Right.b0 n F x.1 x.2.1 x.2.2.1 x.2.2.2.1 x.2.2.2.2.1 x.2.2.2.2.2.1 x.2.2.2.2.2.2.1 x.2.2.2.2.2.2.2.1 x.2.2.2.2.2.2.2.2.1 x.2.2.2.2.2.2.2.2.2)
    (fun f x r => ∃ (i : Nat) (c : Bool), x = (m.blocks, (m.blocks.length : Int), (i : Int), m.1, m.2.1, m.2.2.1, m.2.2.2.1, m.2.2.2.2.1, m.2.2.2.2.2.1, m.2.2.2.2.2.2) ∧ i ≤ m.blocks.length ∧ m.blocks.length < f + i ∧ (c = true ↔ WordsOk (m.blocks.drop i)) ∧ r = if c = true then .inr ((), ((m.1, m.2.1, m.2.2.1, m.2.2.2.1, m.2.2.2.2.1, m.2.2.2.2.2.1, m.2.2.2.2.2.2, ()), ())) else .inl ((false, ()), ((m.1, m.2.1, m.2.2.1, m.2.2.2.1, m.2.2.2.2.1, m.2.2.2.2.2.1, m.2.2.2.2.2.2, ()), ()))) (fun x r ⟨i, c, _, h1, h2, _⟩ => by omega) (fun f x F hF r => ?_) n _ _ ⟨0, decide (WordsOk m.blocks), rfl, Nat.zero_le _, by omega, decide_eq_true_iff, rfl⟩
  rintro ⟨i, c, rfl, h1, h2, hc, rfl⟩
  show image_Right.b0 n F m.blocks (m.blocks.length : Int) (i : Int) m.1 m.2.1 m.2.2.1 m.2.2.2.1 m.2.2.2.2.1 m.2.2.2.2.2.1 m.2.2.2.2.2.2 = _
  unfold image_Right.b0
  rcases Nat.lt_or_ge i m.blocks.length with hlt | hge
  · rw [drop_eq_cons (d := ([] : List Int)) hlt] at hc
    rw [if_pos (decide_eq_true (by omega)), if_pos (in_ix hlt), Int.toNat_natCast]
    generalize m.blocks.getD i [] = b at hc ⊢
    have hc : c = true ↔ (1 ≤ b.length ∧ b.length ≤ 8) ∧ WordsOk (m.blocks.drop (i + 1)) := hc.trans List.forall_mem_cons
    have hno : ∀ (h : ¬ (1 ≤ b.length ∧ b.length ≤ 8)), c = false := fun h => by
      cases c with
      | false => rfl
      | true => exact absurd (hc.1 rfl).1 h
    by_cases g1 : b.length = 0
    · rw [if_pos (beq_iff_eq.2 (by omega)), hno (by omega)]; rfl
    rw [if_neg (fun h => g1 (by have := beq_iff_eq.1 h; omega))]
    by_cases g2 : b.length ≤ 8
    · rw [if_neg (by simp; omega), next_ix (by omega)]
      exact hF _ _ ⟨i + 1, c, rfl, by omega, by omega, hc.trans ⟨fun h => h.2, fun h => ⟨by omega, h⟩⟩, rfl⟩
    · rw [if_pos (decide_eq_true (by omega)), hno (by omega)]; rfl
  · have : i = m.blocks.length := by omega
    subst this
    rw [List.drop_length] at hc
    rw [if_neg (by simp), if_pos (hc.2 (fun b hb => by cases hb))]
theorem and7 {a b c d e f g : Bool} {A B C D E F G : Prop} (ha : a = true ↔ A) (hb : b = true ↔ B) (hc : c = true ↔ C) (hd : d = true ↔ D) (he : e = true ↔ E) (hf : f = true ↔ F) (hg : g = true ↔ G) : (a && (b && (c && (d && (e && (f && g)))))) = true ↔ A ∧ B ∧ C ∧ D ∧ E ∧ F ∧ G := by
  simp only [Bool.and_eq_true, ha, hb, hc, hd, he, hf, hg]
theorem right_is_img (n : Nat) (hn : 200 < n) (hn2 : n < 1000000) (m : Img) : Says (image_Right.f n m) (RightP m) := by
  unfold image_Right.f
  have hN : ∀ {b : Bool}, (b = true ↔ ImgNums m) → ∀ {o : Option Bool}, (ImgNums m → Says o (RightP m)) → Says (if (!b) = true then some false else o) (RightP m) := fun {b} hb {o} ho => by
    cases b with
    | false => exact Says.no (fun h => by have := hb.2 h.1; cases this)
    | true => exact ho (hb.1 rfl)
  refine hN ?_ ?_
  · refine and7 ?_ ?_ ?_ ?_ ?_ ?_ ?_
    all_goals (rw [beq_iff_eq])
    · generalize m.1 = a; constructor <;> intro h <;> (repeat' split at *) <;> omega
    · generalize m.2.1 = a; constructor <;> intro h <;> (repeat' split at *) <;> omega
    · generalize m.2.2.1 = a; constructor <;> intro h <;> (repeat' split at *) <;> omega
    · generalize m.2.2.2.1 = a; constructor <;> intro h <;> (repeat' split at *) <;> omega
    · show (m.safe.length : Int) = _ ↔ _
      generalize m.safe.length = a; constructor <;> intro h <;> (repeat' split at *) <;> omega
    · show (m.blocks.length : Int) = _ ↔ _
      generalize m.blocks.length = a; constructor <;> intro h <;> (repeat' split at *) <;> omega
    · show (m.tasks.length : Int) = _ ↔ _
      generalize m.tasks.length = a; constructor <;> intro h <;> (repeat' split at *) <;> omega
  · intro hI
    obtain ⟨_, _, _, _, h5, h6, h7⟩ := id hI
    obtain ⟨c, hc, e⟩ := words_loop n hn2 m (by omega) none
    rw [e, Option.bind_some]
    cases c with
    | false => exact Says.no (fun h => by have := hc.2 h.2.1; cases this)
    | true => exact (tasks_loop n hn hn2 m (by omega) h5 (by omega)).iff ⟨fun h => ⟨hI, hc.1 rfl, h⟩, fun h => h.2.2⟩
end Go.Proofs.Dk

/- Plain: whether an image can be, as the document says. -/
namespace Go.Proofs.Dk
open Go
set_option maxRecDepth 100000
set_option linter.unusedVariables false
set_option linter.unusedSimpArgs false
theorem refwords_loop (n : Nat) (hn2 : n < 1000000) (m : Img) (hT : m.blocks.length < n) :
    ∃ c, (c = true ↔ WordsOk m.blocks) ∧ camshaftref11_Right.b0.l n (0, m.1, m.2.1, m.2.2.1, m.2.2.2.1, m.2.2.2.2.1, m.2.2.2.2.2.1, m.2.2.2.2.2.2) = some (if c = true then .inr ((), ((m.1, m.2.1, m.2.2.1, m.2.2.2.1, m.2.2.2.2.1, m.2.2.2.2.2.1, m.2.2.2.2.2.2, ()), ())) else .inl ((false, ()), ((m.1, m.2.1, m.2.2.1, m.2.2.2.1, m.2.2.2.2.1, m.2.2.2.2.2.1, m.2.2.2.2.2.2, ()), ()))) := by
  unfold camshaftref11_Right.b0.l
  have := Classical.propDecidable (WordsOk m.blocks)
  refine ⟨decide (WordsOk m.blocks), decide_eq_true_iff, ?_⟩
  refine it_all (S := fun F (x : Int × Int × Int × Int × Int × List Int × List (List Int) × List Tsk) => camshaftref11_Right.b0 n F x.1 x.2.1 x.2.2.1 x.2.2.2.1 x.2.2.2.2.1 x.2.2.2.2.2.1 x.2.2.2.2.2.2.1 x.2.2.2.2.2.2.2)
    (fun f x r => ∃ (i : Nat) (c : Bool), x = ((i : Int), m.1, m.2.1, m.2.2.1, m.2.2.2.1, m.2.2.2.2.1, m.2.2.2.2.2.1, m.2.2.2.2.2.2) ∧ i ≤ m.blocks.length ∧ m.blocks.length < f + i ∧ (c = true ↔ WordsOk (m.blocks.drop i)) ∧ r = if c = true then .inr ((), ((m.1, m.2.1, m.2.2.1, m.2.2.2.1, m.2.2.2.2.1, m.2.2.2.2.2.1, m.2.2.2.2.2.2, ()), ())) else .inl ((false, ()), ((m.1, m.2.1, m.2.2.1, m.2.2.2.1, m.2.2.2.2.1, m.2.2.2.2.2.1, m.2.2.2.2.2.2, ()), ()))) (fun x r ⟨i, c, _, h1, h2, _⟩ => by omega) (fun f x F hF r => ?_) n _ _ ⟨0, decide (WordsOk m.blocks), rfl, Nat.zero_le _, by omega, decide_eq_true_iff, rfl⟩
  rintro ⟨i, c, rfl, h1, h2, hc, rfl⟩
  show camshaftref11_Right.b0 n F (i : Int) m.1 m.2.1 m.2.2.1 m.2.2.2.1 m.2.2.2.2.1 m.2.2.2.2.2.1 m.2.2.2.2.2.2 = _
  unfold camshaftref11_Right.b0
  rcases Nat.lt_or_ge i m.blocks.length with hlt | hge
  · rw [drop_eq_cons (d := ([] : List Int)) hlt] at hc
    rw [if_pos (show decide ((i : Int) < (m.2.2.2.2.2.1.length : Int)) = true from decide_eq_true (by exact_mod_cast hlt)), if_pos (show (decide (0 ≤ (i : Int)) && decide ((i : Int) < (m.2.2.2.2.2.1.length : Int))) = true from in_ix hlt), Int.toNat_natCast]
    rw [show m.2.2.2.2.2.1.getD i [] = m.blocks.getD i [] from rfl]
    generalize m.blocks.getD i [] = b at hc ⊢
    have hc : c = true ↔ (1 ≤ b.length ∧ b.length ≤ 8) ∧ WordsOk (m.blocks.drop (i + 1)) := hc.trans List.forall_mem_cons
    obtain ⟨y, e1, e2⟩ := in_is n (b.length : Int) 1 8
    rw [e1, Option.bind_some]
    cases y with
    | false =>
      have : c = false := by cases c with
        | false => rfl
        | true => have := e2.2 (by have := (hc.1 rfl).1; omega); cases this
      rw [this]; rfl
    | true =>
      have := e2.1 rfl
      rw [if_neg (by decide), next_ix (by omega)]
      exact hF _ _ ⟨i + 1, c, rfl, by omega, by omega, hc.trans ⟨fun h => h.2, fun h => ⟨by omega, h⟩⟩, rfl⟩
  · have : i = m.blocks.length := by omega
    subst this
    rw [List.drop_length] at hc
    rw [if_neg (by simp), if_pos (hc.2 (fun b hb => by cases hb))]
def LightP (m : Img) : Prop := m.safe.length + m.blocks.length + m.tasks.length ≤ 80 ∧ ∀ t ∈ m.tasks, t.code.length ≤ 4019
theorem reftasks_loop (n : Nat) (hn : 5000 < n) (hn2 : n < 1000000) (m : Img) (hL : LightP m) (hi : ∀ t ∈ m.tasks, InR t.code) :
    ∃ c, (c = true ↔ ∀ t ∈ m.tasks, TaskOk m t) ∧ camshaftref11_Right.b1.l n ([], 0, m.1, m.2.1, m.2.2.1, m.2.2.2.1, m.2.2.2.2.1, m.2.2.2.2.2.1, m.2.2.2.2.2.2) = some (if c = true then .inr ((m.tasks.flatMap Tsk.outs, ()), ((m.1, m.2.1, m.2.2.1, m.2.2.2.1, m.2.2.2.2.1, m.2.2.2.2.2.1, m.2.2.2.2.2.2, ()), ())) else .inl ((false, ()), ((m.1, m.2.1, m.2.2.1, m.2.2.2.1, m.2.2.2.2.1, m.2.2.2.2.2.1, m.2.2.2.2.2.2, ()), ()))) := by
  unfold camshaftref11_Right.b1.l
  have := Classical.propDecidable (∀ t ∈ m.tasks, TaskOk m t)
  refine ⟨decide (∀ t ∈ m.tasks, TaskOk m t), decide_eq_true_iff, ?_⟩
  obtain ⟨hL1, hL2⟩ := hL
  refine it_all (S := fun F (x : List Int × Int × Int × Int × Int × Int × List Int × List (List Int) × List Tsk) => camshaftref11_Right.b1 n F x.1 x.2.1 x.2.2.1 x.2.2.2.1 x.2.2.2.2.1 x.2.2.2.2.2.1 x.2.2.2.2.2.2.1 x.2.2.2.2.2.2.2.1 x.2.2.2.2.2.2.2.2)
    (fun f x r => ∃ (i : Nat) (o : List Int) (c : Bool), x = (o, (i : Int), m.1, m.2.1, m.2.2.1, m.2.2.2.1, m.2.2.2.2.1, m.2.2.2.2.2.1, m.2.2.2.2.2.2) ∧ i ≤ m.tasks.length ∧ m.tasks.length < f + i ∧ o.length ≤ 100 * i ∧ (c = true ↔ ∀ t ∈ m.tasks.drop i, TaskOk m t) ∧ r = if c = true then .inr ((o ++ (m.tasks.drop i).flatMap Tsk.outs, ()), ((m.1, m.2.1, m.2.2.1, m.2.2.2.1, m.2.2.2.2.1, m.2.2.2.2.2.1, m.2.2.2.2.2.2, ()), ())) else .inl ((false, ()), ((m.1, m.2.1, m.2.2.1, m.2.2.2.1, m.2.2.2.2.1, m.2.2.2.2.2.1, m.2.2.2.2.2.2, ()), ()))) (fun x r ⟨i, o, c, _, h1, h2, _⟩ => by omega) (fun f x F hF r => ?_) n _ _ ⟨0, [], decide (∀ t ∈ m.tasks, TaskOk m t), rfl, Nat.zero_le _, by omega, by simp, decide_eq_true_iff, rfl⟩
  rintro ⟨i, o, c, rfl, h1, h2, ho, hc, rfl⟩
  show camshaftref11_Right.b1 n F o (i : Int) m.1 m.2.1 m.2.2.1 m.2.2.2.1 m.2.2.2.2.1 m.2.2.2.2.2.1 m.2.2.2.2.2.2 = _
  unfold camshaftref11_Right.b1
  rcases Nat.lt_or_ge i m.tasks.length with hlt | hge
  · have hm : m.tasks.getD i ((0 : Int), (0 : Int), (0 : Int), (0 : Int), ([] : List Int), ([] : List Int), ([] : List Ins)) ∈ m.tasks := by rw [List.getD_eq_getElem?_getD, List.getElem?_eq_getElem hlt]; exact List.getElem_mem hlt
    have hix : (decide (0 ≤ (i : Int)) && decide ((i : Int) < (m.2.2.2.2.2.2.length : Int))) = true := in_ix hlt
    rw [drop_eq_cons (d := ((0 : Int), (0 : Int), (0 : Int), (0 : Int), ([] : List Int), ([] : List Int), ([] : List Ins))) hlt] at hc ⊢
    rw [if_pos (show decide ((i : Int) < (m.2.2.2.2.2.2.length : Int)) = true from decide_eq_true (by exact_mod_cast hlt)), if_pos hix, Int.toNat_natCast]
    rw [show m.2.2.2.2.2.2.getD i (0, 0, 0, 0, [], [], []) = m.tasks.getD i (0, 0, 0, 0, [], [], []) from rfl]
    generalize m.tasks.getD i (0, 0, 0, 0, [], [], []) = t at hc hm ⊢
    have hc : c = true ↔ TaskOk m t ∧ ∀ t ∈ m.tasks.drop (i + 1), TaskOk m t := hc.trans List.forall_mem_cons
    obtain ⟨y, e1, e2⟩ := one_is n hn2 m t (by omega) (by omega) (by have := hL2 t hm; omega) (hi t hm)
    rw [show camshaftref11_one.f n (m.1, m.2.1, m.2.2.1, m.2.2.2.1, m.2.2.2.2.1, m.2.2.2.2.2.1, m.2.2.2.2.2.2) (t.1, t.2.1, t.2.2.1, t.2.2.2.1, t.2.2.2.2.1, t.2.2.2.2.2.1, t.2.2.2.2.2.2) = some y from e1, Option.bind_some]
    cases y with
    | false =>
      have : c = false := by cases c with
        | false => rfl
        | true => have := e2.2 (hc.1 rfl).1; cases this
      rw [this]; rfl
    | true =>
      have ht := e2.1 rfl
      have hlen := ht.2.2.1.len (by omega)
      have hlen : t.2.2.2.2.2.1.length ≤ 80 := by have : t.outs.length = t.2.2.2.2.2.1.length := rfl; omega
      rw [if_neg (by decide), if_pos hix, if_pos (by rw [decide_eq_true (by omega), decide_eq_true (by omega)]; rfl), next_ix (by omega)]
      refine hF _ _ ⟨i + 1, o ++ t.outs, c, rfl, by omega, by omega, by rw [List.length_append]; have : t.outs.length = t.2.2.2.2.2.1.length := rfl; omega, hc.trans ⟨fun h => h.2, fun h => ⟨ht, h⟩⟩, ?_⟩
      rw [List.flatMap_cons, List.append_assoc]
  · have : i = m.tasks.length := by omega
    subst this
    rw [List.drop_length] at hc ⊢
    rw [if_neg (by simp), if_pos (hc.2 (fun b hb => by cases hb)), List.flatMap_nil, List.append_nil]
theorem refpair_loop (n : Nat) (hn2 : n < 1000000) (m : Img) (o : List Int) {i : Nat} (hi : i < o.length) (ho : o.length < n) :
    camshaftref11_Right.b2.l n (o, (i : Int), 0, m.1, m.2.1, m.2.2.1, m.2.2.2.1, m.2.2.2.2.1, m.2.2.2.2.2.1, m.2.2.2.2.2.2) = some (if (o.take i).contains (o.getD i 0) = true then .inl ((false, ()), ((m.1, m.2.1, m.2.2.1, m.2.2.2.1, m.2.2.2.2.1, m.2.2.2.2.2.1, m.2.2.2.2.2.2, ()), ())) else .inr ((o, (i : Int), ()), ((m.1, m.2.1, m.2.2.1, m.2.2.2.1, m.2.2.2.2.1, m.2.2.2.2.2.1, m.2.2.2.2.2.2, ()), ()))) := by
  unfold camshaftref11_Right.b2.l
  refine it_all (S := fun F (x : List Int × Int × Int × Int × Int × Int × Int × List Int × List (List Int) × List Tsk) => camshaftref11_Right.b2 n F x.1 x.2.1 x.2.2.1 x.2.2.2.1 x.2.2.2.2.1 x.2.2.2.2.2.1 x.2.2.2.2.2.2.1 x.2.2.2.2.2.2.2.1 x.2.2.2.2.2.2.2.2.1 x.2.2.2.2.2.2.2.2.2)
    (fun f x r => ∃ (k : Nat), x = (o, (i : Int), (k : Int), m.1, m.2.1, m.2.2.1, m.2.2.2.1, m.2.2.2.2.1, m.2.2.2.2.2.1, m.2.2.2.2.2.2) ∧ k ≤ i ∧ i < f + k ∧ r = if ((o.take i).drop k).contains (o.getD i 0) = true then .inl ((false, ()), ((m.1, m.2.1, m.2.2.1, m.2.2.2.1, m.2.2.2.2.1, m.2.2.2.2.2.1, m.2.2.2.2.2.2, ()), ())) else .inr ((o, (i : Int), ()), ((m.1, m.2.1, m.2.2.1, m.2.2.2.1, m.2.2.2.2.1, m.2.2.2.2.2.1, m.2.2.2.2.2.2, ()), ()))) (fun x r ⟨i, _, h1, h2, _⟩ => by omega) (fun f x F hF r => ?_) n _ _ ⟨0, rfl, Nat.zero_le _, by omega, rfl⟩
  rintro ⟨k, rfl, h1, h2, rfl⟩
  show camshaftref11_Right.b2 n F o (i : Int) (k : Int) m.1 m.2.1 m.2.2.1 m.2.2.2.1 m.2.2.2.2.1 m.2.2.2.2.2.1 m.2.2.2.2.2.2 = _
  unfold camshaftref11_Right.b2
  rcases Nat.lt_or_ge k i with hlt | hge
  · have hk : k < (o.take i).length := by rw [List.length_take]; omega
    rw [if_pos (decide_eq_true (by omega)), if_pos (in_ix hi), if_pos (in_ix (by omega)), Int.toNat_natCast, Int.toNat_natCast, drop_eq_cons (d := (0 : Int)) hk, List.contains_cons, show (o.take i).getD k 0 = o.getD k 0 by rw [List.getD_eq_getElem?_getD, List.getD_eq_getElem?_getD, List.getElem?_take_of_lt hlt]]
    cases h : (o.getD i 0 == o.getD k 0) with
    | true => rfl
    | false =>
      rw [if_neg (by decide), Bool.false_or, next_ix (by omega)]
      exact hF _ _ ⟨k + 1, rfl, by omega, by omega, rfl⟩
  · have : k = i := by omega
    subst this
    rw [if_neg (by simp), List.drop_eq_nil_of_le (by rw [List.length_take]; omega)]
    rfl
theorem refpairs_loop (n : Nat) (hn2 : n < 1000000) (m : Img) (o : List Int) (ho : o.length < n) :
    camshaftref11_Right.b3.l n (o, 0, m.1, m.2.1, m.2.2.1, m.2.2.2.1, m.2.2.2.2.1, m.2.2.2.2.2.1, m.2.2.2.2.2.2) = some (if apart [] o = true then .inr ((), ((m.1, m.2.1, m.2.2.1, m.2.2.2.1, m.2.2.2.2.1, m.2.2.2.2.2.1, m.2.2.2.2.2.2, ()), ())) else .inl ((false, ()), ((m.1, m.2.1, m.2.2.1, m.2.2.2.1, m.2.2.2.2.1, m.2.2.2.2.2.1, m.2.2.2.2.2.2, ()), ()))) := by
  unfold camshaftref11_Right.b3.l
  refine it_all (S := fun F (x : List Int × Int × Int × Int × Int × Int × List Int × List (List Int) × List Tsk) => camshaftref11_Right.b3 n F x.1 x.2.1 x.2.2.1 x.2.2.2.1 x.2.2.2.2.1 x.2.2.2.2.2.1 x.2.2.2.2.2.2.1 x.2.2.2.2.2.2.2.1 x.2.2.2.2.2.2.2.2)
    (fun f x r => ∃ (i : Nat), x = (o, (i : Int), m.1, m.2.1, m.2.2.1, m.2.2.2.1, m.2.2.2.2.1, m.2.2.2.2.2.1, m.2.2.2.2.2.2) ∧ i ≤ o.length ∧ o.length < f + i ∧ r = if apart (o.take i) (o.drop i) = true then .inr ((), ((m.1, m.2.1, m.2.2.1, m.2.2.2.1, m.2.2.2.2.1, m.2.2.2.2.2.1, m.2.2.2.2.2.2, ()), ())) else .inl ((false, ()), ((m.1, m.2.1, m.2.2.1, m.2.2.2.1, m.2.2.2.2.1, m.2.2.2.2.2.1, m.2.2.2.2.2.2, ()), ()))) (fun x r ⟨i, _, h1, h2, _⟩ => by omega) (fun f x F hF r => ?_) n _ _ ⟨0, rfl, Nat.zero_le _, by omega, rfl⟩
  rintro ⟨i, rfl, h1, h2, rfl⟩
  show camshaftref11_Right.b3 n F o (i : Int) m.1 m.2.1 m.2.2.1 m.2.2.2.1 m.2.2.2.2.1 m.2.2.2.2.2.1 m.2.2.2.2.2.2 = _
  unfold camshaftref11_Right.b3
  rcases Nat.lt_or_ge i o.length with hlt | hge
  · rw [if_pos (decide_eq_true (by omega)), refpair_loop n hn2 m o hlt ho, Option.bind_some, drop_eq_cons (d := (0 : Int)) hlt]
    unfold apart
    cases h : (o.take i).contains (o.getD i 0) with
    | true => rfl
    | false =>
      have e : o.take i ++ [o.getD i 0] = o.take (i + 1) := by
        rw [List.take_add_one, List.getD_eq_getElem?_getD, List.getElem?_eq_getElem hlt]
        rfl
      rw [if_neg (show ¬ (false = true) by decide), Bool.not_false, Bool.true_and, e]
      dsimp only [Sum.elim_inr]
      rw [next_ix (by omega)]
      exact hF _ _ ⟨i + 1, rfl, by omega, by omega, rfl⟩
  · have : i = o.length := by omega
    subst this
    rw [if_neg (by simp), List.drop_length]
    rfl
theorem flat_len {m : Img} (hs : m.safe.length ≤ 80) : ∀ {l : List Tsk}, (∀ t ∈ l, TaskOk m t) → (l.flatMap Tsk.outs).length ≤ 80 * l.length
  | [], _ => by simp
  | t :: l, h => by
    have := flat_len hs (l := l) fun t ht => h t (List.mem_cons_of_mem _ ht)
    have := (h t List.mem_cons_self).2.2.1.len (by omega)
    rw [List.flatMap_cons, List.length_append, List.length_cons]
    omega
theorem ref_right_is_img (n : Nat) (hn : 7000 < n) (hn2 : n < 1000000) (m : Img) (hL : LightP m) (hi : ∀ t ∈ m.tasks, InR t.code) : Says (camshaftref11_Right.f n m) (RightP m) := by
  unfold camshaftref11_Right.f
  obtain ⟨c, hc, e⟩ := refwords_loop n hn2 m (by have := hL.1; omega)
  rw [e, Option.bind_some]
  cases c with
  | false => exact Says.no (fun h => by have := hc.2 h.2.1; cases this)
  | true =>
    rw [if_pos rfl]
    dsimp only [Sum.elim_inr]
    obtain ⟨c1, hc1, e1⟩ := reftasks_loop n (by omega) hn2 m hL hi
    rw [e1, Option.bind_some]
    cases c1 with
    | false => exact Says.no (fun h => by have := hc1.2 (TasksOk.all.1 h.2.2).1; cases this)
    | true =>
      rw [if_pos rfl]
      dsimp only [Sum.elim_inr]
      have hT := hc1.1 rfl
      have hf := flat_len (by have := hL.1; omega) hT
      rw [refpairs_loop n hn2 m _ (by have := hL.1; omega), Option.bind_some]
      cases ha : apart [] (m.tasks.flatMap Tsk.outs) with
      | false => exact Says.no (fun h => by have := (TasksOk.all.1 h.2.2).2; rw [ha] at this; cases this)
      | true =>
        rw [if_pos rfl]
        dsimp only [Sum.elim_inr]
        have hK : WordsOk m.blocks ∧ TasksOk m [] m.tasks := ⟨hc.1 rfl, TasksOk.all.2 ⟨hT, ha⟩⟩
        refine Says.iff (p := (0 ≤ m.1 ∧ m.1 ≤ 100) ∧ (1 ≤ m.2.1 ∧ m.2.1 ≤ 100) ∧ (1 ≤ m.2.2.1 ∧ m.2.2.1 ≤ 100) ∧ (0 ≤ m.2.2.2.1 ∧ m.2.2.2.1 ≤ 16) ∧ (m.safe.length : Int) ≤ 16 ∧ (m.blocks.length : Int) ≤ 8 ∧ (1 ≤ (m.tasks.length : Int) ∧ (m.tasks.length : Int) ≤ 8)) ?_ ⟨fun ⟨h1, h2, h3, h4, h5, h6, h7⟩ => ⟨⟨h1, h2, h3, h4, by omega, by omega, by omega, by omega⟩, hK⟩, fun ⟨⟨h1, h2, h3, h4, h5, h6, h7⟩, _⟩ => ⟨h1, h2, h3, h4, by omega, by omega, by omega⟩⟩
        have hlast := in_is n (m.tasks.length : Int) 1 8
        refine Says.and (in_is n m.1 0 100) (Says.and (in_is n m.2.1 1 100) (Says.and (in_is n m.2.2.1 1 100) (Says.and (in_is n m.2.2.2.1 0 16) ?_ rfl) rfl) rfl) rfl
        obtain ⟨b, e3, e4⟩ := hlast
        have hlast : Says ((camshaftref11_in.f n (m.tasks.length : Int) 1 8).bind fun y14 => some y14) (1 ≤ (m.tasks.length : Int) ∧ (m.tasks.length : Int) ≤ 8) := ⟨b, by rw [e3]; rfl, e4⟩
        show Says (if decide ((m.safe.length : Int) ≤ 16) = true then (if decide ((m.blocks.length : Int) ≤ 8) = true then ((camshaftref11_in.f n (m.tasks.length : Int) 1 8).bind fun y14 => some y14) else some false) else some false) _
        by_cases g1 : (m.safe.length : Int) ≤ 16
        · rw [if_pos (decide_eq_true g1)]
          by_cases g2 : (m.blocks.length : Int) ≤ 8
          · rw [if_pos (decide_eq_true g2)]
            exact hlast.iff ⟨fun h => ⟨g1, g2, h⟩, fun h => h.2.2⟩
          · rw [if_neg (by simpa using g2)]
            exact Says.no (fun h => g2 h.2.1)
        · rw [if_neg (by simpa using g1)]
          exact Says.no (fun h => g1 h.1)
end Go.Proofs.Dk

/- Plain: what is wrong with a task. -/
namespace Go.Proofs.Dk
open Go
set_option maxRecDepth 100000
set_option linter.unusedVariables false
set_option linter.unusedSimpArgs false
theorem same_ints (n : Nat) (hn : n < 1000000) (a b : List Int) (ha : a.length < n) : camshaftref02_Same.f n a b = some (decide (a = b)) := by
  unfold camshaftref02_Same.f camshaftref02_Same.b0.l
  by_cases hl : a.length = b.length
  · rw [if_neg (fun h => bne_iff_ne.1 h (by rw [hl]))]
    have := it_all (S := fun F (x : List Int × List Int × Int) => camshaftref02_Same.b0 n F x.1 x.2.1 x.2.2) (fun f x r => ∃ i : Nat, x = (a, b, (i : Int)) ∧ i ≤ a.length ∧ a.length < f + i ∧ r = if a.drop i = b.drop i then .inr ((), ()) else .inl ((false, ()), ())) (fun x r ⟨i, _, h1, h2, _⟩ => by omega) (fun f x F hF r => ?_) n (a, b, 0) _ ⟨0, rfl, Nat.zero_le _, by omega, rfl⟩
    · rw [this, List.drop_zero, List.drop_zero]
      by_cases h : a = b
      · rw [if_pos h, decide_eq_true h]; rfl
      · rw [if_neg h, decide_eq_false h]; rfl
    · rintro ⟨i, rfl, h1, h2, rfl⟩
      show camshaftref02_Same.b0 n F a b (i : Int) = _
      unfold camshaftref02_Same.b0
      rcases Nat.lt_or_ge i a.length with hlt | hge
      · rw [if_pos (decide_eq_true (by omega)), if_pos (in_ix hlt), if_pos (in_ix (by omega)), Int.toNat_natCast, drop_eq_cons (d := (0 : Int)) hlt, drop_eq_cons (l := b) (d := (0 : Int)) (by omega)]
        by_cases e : a.getD i 0 = b.getD i 0
        · rw [if_neg (fun h => bne_iff_ne.1 h e), next_ix (by omega), e]
          refine hF _ _ ⟨i + 1, rfl, by omega, by omega, ?_⟩
          simp only [List.cons.injEq, true_and]
        · rw [if_pos (bne_iff_ne.2 e), if_neg (fun h => e (List.cons.inj h).1)]
      · have : i = a.length := by omega
        subst this
        rw [if_neg (by simp), List.drop_length, hl, List.drop_length]
        rfl
  · rw [if_pos (show ((a.length : Int) != (b.length : Int)) = true from bne_iff_ne.2 (fun h => hl (Int.ofNat.inj h))), decide_eq_false (fun h => hl (by rw [h]))]
theorem has_is (n : Nat) (hn : n < 1000000) (l : List Int) (p : Int) (hl : l.length < n) : camshaftref12_has.f n l p = some (l.contains p) := by
  unfold camshaftref12_has.f camshaftref12_has.b0.l
  have := it_all (S := fun F (x : List Int × Int × Int) => camshaftref12_has.b0 n F x.1 x.2.1 x.2.2) (fun f x r => ∃ i : Nat, x = (l, p, (i : Int)) ∧ i ≤ l.length ∧ l.length < f + i ∧ r = if (l.drop i).contains p = true then .inl ((true, ()), ()) else .inr ((), ())) (fun x r ⟨i, _, h1, h2, _⟩ => by omega) (fun f x F hF r => ?_) n (l, p, 0) _ ⟨0, rfl, Nat.zero_le _, by omega, rfl⟩
  · rw [this, List.drop_zero]
    cases h : l.contains p <;> rfl
  · rintro ⟨i, rfl, h1, h2, rfl⟩
    show camshaftref12_has.b0 n F l p (i : Int) = _
    unfold camshaftref12_has.b0
    rcases Nat.lt_or_ge i l.length with hlt | hge
    · rw [if_pos (decide_eq_true (by omega)), if_pos (in_ix hlt), Int.toNat_natCast, next_ix (by omega), drop_eq_cons (d := (0 : Int)) hlt, List.contains_cons]
      by_cases e : l.getD i 0 = p
      · rw [if_pos (beq_iff_eq.2 e), e, beq_self_eq_true, Bool.true_or, if_pos rfl]
      · rw [if_neg (fun h => e (beq_iff_eq.1 h))]
        have e2 : (p == l.getD i 0) = false := by rw [beq_eq_false_iff_ne]; exact fun h => e h.symm
        rw [e2, Bool.false_or]
        exact hF _ _ ⟨i + 1, rfl, by omega, by omega, rfl⟩
    · have : i = l.length := by omega
      subst this
      rw [if_neg (by simp), List.drop_length]
      rfl
theorem fits12_is (n : Nat) (t : Tsk) (m : Img) (i : Ins) (ho : t.outs.length < n) (hn : n < 1000000) (hb : i.1 = 17 ∨ i.1 = 18 → 0 ≤ i.2.1 ∧ i.2.1 < (m.blocks.length : Int)) : camshaftref12_fits.f n m t i = some (nameI m t i) := by
  unfold camshaftref12_fits.f nameI
  by_cases h15 : i.1 = 15
  · rw [if_pos (beq_iff_eq.2 h15), if_pos h15]
  rw [if_neg (fun h => h15 (beq_iff_eq.1 h)), if_neg h15]
  by_cases h16 : i.1 = 16
  · rw [if_pos (beq_iff_eq.2 h16), if_pos h16]
    have := has_is n hn t.outs i.2.1 ho
    show ((camshaftref12_has.f n t.outs i.2.1).bind _) = _
    rw [this]; rfl
  rw [if_neg (fun h => h16 (beq_iff_eq.1 h)), if_neg h16]
  by_cases h17 : i.1 = 17
  · have := hb (.inl h17)
    rw [if_pos (beq_iff_eq.2 h17), if_pos h17, if_pos (by rw [decide_eq_true this.1, decide_eq_true this.2]; rfl)]
  rw [if_neg (fun h => h17 (beq_iff_eq.1 h)), if_neg h17]
  by_cases h18 : i.1 = 18
  · have := hb (.inr h18)
    rw [if_pos (beq_iff_eq.2 h18), if_pos h18, if_pos (by rw [decide_eq_true this.1, decide_eq_true this.2]; rfl)]
  rw [if_neg (fun h => h18 (beq_iff_eq.1 h)), if_neg h18]
theorem fits12_loop (n : Nat) (t : Tsk) (m : Img) (hl : t.code.length < n) (ho : t.outs.length < n) (hn : n < 1000000) (hb : ∀ i ∈ t.code, i.1 = 17 ∨ i.1 = 18 → 0 ≤ i.2.1 ∧ i.2.1 < (m.blocks.length : Int)) : camshaftref12_Task.b0.l n (0, m.1, m.2.1, m.2.2.1, m.2.2.2.1, m.2.2.2.2.1, m.2.2.2.2.2.1, m.2.2.2.2.2.2, t.1, t.2.1, t.2.2.1, t.2.2.2.1, t.2.2.2.2.1, t.2.2.2.2.2.1, t.2.2.2.2.2.2) = some (if t.code.all (nameI m t) = true then .inr ((), ((m.1, m.2.1, m.2.2.1, m.2.2.2.1, m.2.2.2.2.1, m.2.2.2.2.2.1, m.2.2.2.2.2.2, ()), (t.1, t.2.1, t.2.2.1, t.2.2.2.1, t.2.2.2.2.1, t.2.2.2.2.2.1, t.2.2.2.2.2.2, ()), ())) else .inl ((12, ()), ((m.1, m.2.1, m.2.2.1, m.2.2.2.1, m.2.2.2.2.1, m.2.2.2.2.2.1, m.2.2.2.2.2.2, ()), (t.1, t.2.1, t.2.2.1, t.2.2.2.1, t.2.2.2.2.1, t.2.2.2.2.2.1, t.2.2.2.2.2.2, ()), ()))) := by
  unfold camshaftref12_Task.b0.l
  refine it_all (S := fun F (x : Int × Int × Int × Int × Int × List Int × List (List Int) × List Tsk × Int × Int × Int × Int × List Int × List Int × List Ins) => camshaftref12_Task.b0 n F x.1 x.2.1 x.2.2.1 x.2.2.2.1 x.2.2.2.2.1 x.2.2.2.2.2.1 x.2.2.2.2.2.2.1 x.2.2.2.2.2.2.2.1 x.2.2.2.2.2.2.2.2.1 x.2.2.2.2.2.2.2.2.2.1 x.2.2.2.2.2.2.2.2.2.2.1 x.2.2.2.2.2.2.2.2.2.2.2.1 x.2.2.2.2.2.2.2.2.2.2.2.2.1 x.2.2.2.2.2.2.2.2.2.2.2.2.2.1 x.2.2.2.2.2.2.2.2.2.2.2.2.2.2)
    (fun f x r => ∃ i : Nat, x = ((i : Int), m.1, m.2.1, m.2.2.1, m.2.2.2.1, m.2.2.2.2.1, m.2.2.2.2.2.1, m.2.2.2.2.2.2, t.1, t.2.1, t.2.2.1, t.2.2.2.1, t.2.2.2.2.1, t.2.2.2.2.2.1, t.2.2.2.2.2.2) ∧ i ≤ t.code.length ∧ t.code.length < f + i ∧ r = if (t.code.drop i).all (nameI m t) = true then .inr ((), ((m.1, m.2.1, m.2.2.1, m.2.2.2.1, m.2.2.2.2.1, m.2.2.2.2.2.1, m.2.2.2.2.2.2, ()), (t.1, t.2.1, t.2.2.1, t.2.2.2.1, t.2.2.2.2.1, t.2.2.2.2.2.1, t.2.2.2.2.2.2, ()), ())) else .inl ((12, ()), ((m.1, m.2.1, m.2.2.1, m.2.2.2.1, m.2.2.2.2.1, m.2.2.2.2.2.1, m.2.2.2.2.2.2, ()), (t.1, t.2.1, t.2.2.1, t.2.2.2.1, t.2.2.2.2.1, t.2.2.2.2.2.1, t.2.2.2.2.2.2, ()), ()))) (fun x r ⟨i, _, h1, h2, _⟩ => by omega) (fun f x F hF r => ?_) n _ _ ⟨0, rfl, Nat.zero_le _, by omega, rfl⟩
  rintro ⟨i, rfl, h1, h2, rfl⟩
  show camshaftref12_Task.b0 n F (i : Int) m.1 m.2.1 m.2.2.1 m.2.2.2.1 m.2.2.2.2.1 m.2.2.2.2.2.1 m.2.2.2.2.2.2 t.1 t.2.1 t.2.2.1 t.2.2.2.1 t.2.2.2.2.1 t.2.2.2.2.2.1 t.2.2.2.2.2.2 = _
  unfold camshaftref12_Task.b0
  rcases Nat.lt_or_ge i t.code.length with hlt | hge
  · have hm : t.code.getD i (0, 0, 0) ∈ t.code := by rw [List.getD_eq_getElem?_getD, List.getElem?_eq_getElem hlt]; exact List.getElem_mem hlt
    rw [if_pos (show decide ((i : Int) < (t.2.2.2.2.2.2.length : Int)) = true from decide_eq_true (by have : t.code.length = t.2.2.2.2.2.2.length := rfl; omega)), if_pos (show (decide (0 ≤ (i : Int)) && decide ((i : Int) < (t.2.2.2.2.2.2.length : Int))) = true from in_ix hlt), Int.toNat_natCast, next_ix (by omega), drop_eq_cons (d := ((0 : Int), (0 : Int), (0 : Int))) hlt, List.all_cons]
    rw [show camshaftref12_fits.f n (m.1, m.2.1, m.2.2.1, m.2.2.2.1, m.2.2.2.2.1, m.2.2.2.2.2.1, m.2.2.2.2.2.2) (t.1, t.2.1, t.2.2.1, t.2.2.2.1, t.2.2.2.2.1, t.2.2.2.2.2.1, t.2.2.2.2.2.2) ((t.2.2.2.2.2.2.getD i (0, 0, 0)).1, (t.2.2.2.2.2.2.getD i (0, 0, 0)).2.1, (t.2.2.2.2.2.2.getD i (0, 0, 0)).2.2) = some (nameI m t (t.code.getD i (0, 0, 0))) from fits12_is n t m _ ho hn (hb _ hm), Option.bind_some]
    cases hb : nameI m t (t.code.getD i (0, 0, 0)) with
    | false => rfl
    | true =>
      rw [if_neg (by decide), Bool.true_and]
      exact hF _ _ ⟨i + 1, rfl, by omega, by omega, rfl⟩
  · have : i = t.code.length := by omega
    subst this
    rw [if_neg (by simp), List.drop_length]
    rfl
theorem lockF_mem (l : List Ins) : ∀ (r i p : Nat), i ≤ p → p < i + r → opAt l p = 23 → argA l p ∈ lockF l r i
  | 0, i, p, h1, h2, h3 => by omega
  | r + 1, i, p, h1, h2, h3 => by
    rw [show lockF l (r + 1) i = lock1 l i ++ lockF l r (i + 1) from rfl, List.mem_append]
    by_cases h : i = p
    · subst h
      left
      unfold lock1
      rw [if_pos h3]
      exact List.mem_cons_self
    · exact .inr (lockF_mem l r (i + 1) p (by omega) (by omega) h3)
theorem locked_mem {l : List Ins} (h : locksI l = 0) {i : Nat} (hi : i < l.length) (ho : opAt l i = 17 ∨ opAt l i = 18) : argA l i ∈ lockL l := by
  have hb := locks_ok h hi
  unfold badI at hb
  rw [if_neg (by omega), if_pos ho, Bool.not_eq_false'] at hb
  unfold underB at hb
  obtain ⟨k, h1, h2⟩ := anyB_iff.1 hb
  simp only [Bool.and_eq_true, beq_iff_eq] at h2
  unfold lockL
  rw [if_pos h, ← h2.2.2]
  exact lockF_mem l _ _ k (Nat.zero_le _) (by omega) h2.2.1
theorem locked_blocks {m : Img} {t : Tsk} (hl : locksI t.code = 0) (hb : lockL t.code = t.blocks) (ht : TaskOk m t) : ∀ i ∈ t.code, i.1 = 17 ∨ i.1 = 18 → 0 ≤ i.2.1 ∧ i.2.1 < (m.blocks.length : Int) := by
  intro x hx ho
  obtain ⟨i, hi, e⟩ := List.getElem_of_mem hx
  have e : t.code.getD i (0, 0, 0) = x := by rw [getD_in hi, e]
  have h := locked_mem hl hi (by unfold opAt; rw [e]; exact ho)
  rw [hb] at h
  have := ht.2.1.mem _ h
  unfold argA at this
  rw [e] at this
  omega
open Classical in
noncomputable def taskI (n : Nat) (m : Img) (i : Int) : Int :=
  if RightP m then
    if i < 0 ∨ i ≥ (m.tasks.length : Int) then 14
    else
      let t := m.tasks.getD i.toNat (0, 0, 0, 0, [], [], [])
      if (allI bM n t.code).2 ≠ 0 then (allI bM n t.code).2 else if lockL t.code = t.blocks then (if t.code.all (nameI m t) = true then 0 else 12) else 11
  else 12
theorem RightP.task {m : Img} (h : RightP m) {i : Int} (h0 : 0 ≤ i) (h1 : i < (m.tasks.length : Int)) : TaskOk m (m.tasks.getD i.toNat (0, 0, 0, 0, [], [], [])) ∧ m.tasks.getD i.toNat (0, 0, 0, 0, [], [], []) ∈ m.tasks := by
  have hlt : i.toNat < m.tasks.length := by omega
  have hm : m.tasks.getD i.toNat ((0 : Int), (0 : Int), (0 : Int), (0 : Int), ([] : List Int), ([] : List Int), ([] : List Ins)) ∈ m.tasks := by rw [List.getD_eq_getElem?_getD, List.getElem?_eq_getElem hlt]; exact List.getElem_mem hlt
  exact ⟨(TasksOk.all.1 h.2.2).1 _ hm, hm⟩
theorem task_is (n : Nat) (hn : 200 < n) (hn2 : n < 1000000) (m : Img) (i : Int) : check_Task.f n m i = some (taskI n m i) := by
  obtain ⟨b, e1, e2⟩ := right_is_img n hn hn2 m
  unfold check_Task.f
  rw [show image_Right.f n (m.1, m.2.1, m.2.2.1, m.2.2.2.1, m.2.2.2.2.1, m.2.2.2.2.2.1, m.2.2.2.2.2.2) = some b from e1, Option.bind_some]
  unfold taskI
  cases b with
  | false =>
    rw [if_pos (show (!false) = true from rfl), if_neg (show ¬ RightP m from fun h => by have := e2.2 h; cases this)]
  | true =>
    have hR := e2.1 rfl
    rw [if_pos hR, if_neg (by decide)]
    by_cases h0 : i < 0
    · rw [if_pos (decide_eq_true h0), if_pos (.inl h0)]
    rw [if_neg (by simpa using h0)]
    by_cases h1 : i ≥ (m.tasks.length : Int)
    · rw [if_pos (show decide (i ≥ (m.2.2.2.2.2.2.length : Int)) = true from decide_eq_true h1), if_pos (.inr h1)]
    rw [if_neg (show ¬ decide (i ≥ (m.2.2.2.2.2.2.length : Int)) = true from fun h => h1 (of_decide_eq_true h)), if_neg (show ¬ (i < 0 ∨ i ≥ (m.tasks.length : Int)) by omega), if_pos (show (decide (0 ≤ i) && decide (i < (m.2.2.2.2.2.2.length : Int))) = true by rw [decide_eq_true (by omega), decide_eq_true (show i < (m.2.2.2.2.2.2.length : Int) from by have : (m.tasks.length : Int) = (m.2.2.2.2.2.2.length : Int) := rfl; omega)]; rfl)]
    obtain ⟨ht, hm⟩ := hR.task (i := i) (by omega) (by omega)
    rw [show m.2.2.2.2.2.2.getD i.toNat (0, 0, 0, 0, [], [], []) = m.tasks.getD i.toNat (0, 0, 0, 0, [], [], []) from rfl]
    generalize m.tasks.getD i.toNat (0, 0, 0, 0, [], [], []) = t at ht ⊢
    have hc : t.code.length < n := by have := ht.2.2.2.2.1; omega
    have hol : t.outs.length < n := by have := ht.2.2.1.len (by omega); have := hR.1.2.2.2.2.1; omega
    have hS : check_job_steps.f n ((t.1, t.2.1, t.2.2.1, t.2.2.2.1, t.2.2.2.2.1, t.2.2.2.2.2.1, t.2.2.2.2.2.2), (m.1, m.2.1, m.2.2.1, m.2.2.2.1, m.2.2.2.2.1, m.2.2.2.2.2.1, m.2.2.2.2.2.2)) = some (allI bM n t.code).2 := by
      unfold check_job_steps.f
      rw [show cost_Worst.f n (((t.1, t.2.1, t.2.2.1, t.2.2.2.1, t.2.2.2.2.1, t.2.2.2.2.2.1, t.2.2.2.2.2.2), (m.1, m.2.1, m.2.2.1, m.2.2.2.1, m.2.2.2.2.1, m.2.2.2.2.2.1, m.2.2.2.2.2.2)) : Tsk × Img).1.2.2.2.2.2.2 = some (allI bM n t.code) from worst_is n t.code hc (by omega) hn2]
      rfl
    rw [hS, Option.bind_some]
    dsimp only
    by_cases hz : (allI bM n t.code).2 ≠ 0
    · rw [if_pos (bne_iff_ne.2 hz), if_pos hz]
    rw [if_neg (fun h => hz (bne_iff_ne.1 h)), if_neg hz]
    have hlk := (all_zero (Decidable.not_not.1 hz)).1
    have hB : check_job_blocks.f n ((t.1, t.2.1, t.2.2.1, t.2.2.2.1, t.2.2.2.2.1, t.2.2.2.2.2.1, t.2.2.2.2.2.2), (m.1, m.2.1, m.2.2.1, m.2.2.2.1, m.2.2.2.2.1, m.2.2.2.2.2.1, m.2.2.2.2.2.2)) = some (if lockL t.code = t.blocks then 0 else 11) := by
      have := blocks_is n t m hc (by omega) hn2
      rw [if_neg (fun h => h hlk)] at this
      exact this
    rw [hB, Option.bind_some]
    by_cases hb : lockL t.code = t.blocks
    · rw [if_pos hb, if_pos hb, if_neg (by decide)]
      have hN : check_job_names.f n ((t.1, t.2.1, t.2.2.1, t.2.2.2.1, t.2.2.2.2.1, t.2.2.2.2.2.1, t.2.2.2.2.2.2), (m.1, m.2.1, m.2.2.1, m.2.2.2.1, m.2.2.2.2.1, m.2.2.2.2.2.1, m.2.2.2.2.2.2)) = _ := names_is n t m hc hol hn2 (locked_blocks hlk hb ht)
      rw [hN, Option.bind_some]
      cases t.code.all (nameI m t) <;> rfl
    · rw [if_neg hb, if_neg hb]
      rfl
theorem ref_task_is (n : Nat) (hn : 7000 < n) (hn2 : n < 1000000) (m : Img) (i : Int) (hL : LightP m) (hi : ∀ t ∈ m.tasks, InR t.code) : camshaftref12_Task.f n m i = some (taskI n m i) := by
  obtain ⟨b, e1, e2⟩ := ref_right_is_img n hn hn2 m hL hi
  unfold camshaftref12_Task.f
  rw [show camshaftref11_Right.f n (m.1, m.2.1, m.2.2.1, m.2.2.2.1, m.2.2.2.2.1, m.2.2.2.2.2.1, m.2.2.2.2.2.2) = some b from e1, Option.bind_some]
  unfold taskI
  cases b with
  | false =>
    rw [if_pos (show (!false) = true from rfl), if_neg (show ¬ RightP m from fun h => by have := e2.2 h; cases this)]
  | true =>
    have hR := e2.1 rfl
    rw [if_pos hR, if_neg (by decide)]
    by_cases h0 : i < 0
    · rw [if_pos (decide_eq_true h0), if_pos (.inl h0)]
    rw [if_neg (by simpa using h0)]
    by_cases h1 : i ≥ (m.tasks.length : Int)
    · rw [if_pos (show decide (i ≥ (m.2.2.2.2.2.2.length : Int)) = true from decide_eq_true h1), if_pos (.inr h1)]
    rw [if_neg (show ¬ decide (i ≥ (m.2.2.2.2.2.2.length : Int)) = true from fun h => h1 (of_decide_eq_true h)), if_neg (show ¬ (i < 0 ∨ i ≥ (m.tasks.length : Int)) by omega), if_pos (show (decide (0 ≤ i) && decide (i < (m.2.2.2.2.2.2.length : Int))) = true by rw [decide_eq_true (by omega), decide_eq_true (show i < (m.2.2.2.2.2.2.length : Int) from by have : (m.tasks.length : Int) = (m.2.2.2.2.2.2.length : Int) := rfl; omega)]; rfl)]
    obtain ⟨ht, hm⟩ := hR.task (i := i) (by omega) (by omega)
    rw [show m.2.2.2.2.2.2.getD i.toNat (0, 0, 0, 0, [], [], []) = m.tasks.getD i.toNat (0, 0, 0, 0, [], [], []) from rfl]
    generalize m.tasks.getD i.toNat (0, 0, 0, 0, [], [], []) = t at ht hm ⊢
    have hc : t.code.length < n := by have := ht.2.2.2.2.1; omega
    have hol : t.outs.length < n := by have := ht.2.2.1.len (by omega); have := hR.1.2.2.2.2.1; omega
    rw [show camshaftref09_Worst.f n t.2.2.2.2.2.2 = some (allI bM n t.code) from ref_worst_is n t.code (hi t hm) hc (by omega) hn2, Option.bind_some]
    dsimp only
    by_cases hz : (allI bM n t.code).2 ≠ 0
    · rw [if_pos (bne_iff_ne.2 hz), if_pos hz]
    rw [if_neg (fun h => hz (bne_iff_ne.1 h)), if_neg hz]
    have hlk := (all_zero (Decidable.not_not.1 hz)).1
    rw [show camshaftref06_Locks.f n t.2.2.2.2.2.2 = some (lockL t.code, locksI t.code) from ref_locks_is2 n t.code (hi t hm) hc hn2, Option.bind_some]
    rw [show camshaftref02_Same.f n ((lockL t.code, locksI t.code) : List Int × Int).1 t.2.2.2.2.1 = _ from same_ints n hn2 (lockL t.code) t.blocks (by have := lockL_len t.code; omega), Option.bind_some]
    by_cases hb : lockL t.code = t.blocks
    · rw [if_pos hb, decide_eq_true hb, if_neg (by decide), fits12_loop n t m hc hol hn2 (locked_blocks hlk hb ht), Option.bind_some]
      cases t.code.all (nameI m t) <;> rfl
    · rw [if_neg hb, decide_eq_false hb]
      rfl
end Go.Proofs.Dk

/- Plain: images that ask little. -/
namespace Go.Proofs.Dk
open Go
set_option maxRecDepth 100000
set_option linter.unusedVariables false
set_option linter.unusedSimpArgs false
theorem plain11_is (n : Nat) (hn : n < 1000000) (m : Img) (hT : m.tasks.length < n) : camshaftlaw11_Plain.f n m = some m := by
  unfold camshaftlaw11_Plain.f camshaftlaw11_Plain.b0.l
  have := it_all (S := fun F (x : Int × Int × Int × Int × Int × List Int × List (List Int) × List Tsk × Int × Int × Int × Int × List Int × List (List Int) × List Tsk × Int × Int × Int × Int × List Int × List (List Int) × List Tsk) => camshaftlaw11_Plain.b0 n F x.1 x.2.1 x.2.2.1 x.2.2.2.1 x.2.2.2.2.1 x.2.2.2.2.2.1 x.2.2.2.2.2.2.1 x.2.2.2.2.2.2.2.1 x.2.2.2.2.2.2.2.2.1 x.2.2.2.2.2.2.2.2.2.1 x.2.2.2.2.2.2.2.2.2.2.1 x.2.2.2.2.2.2.2.2.2.2.2.1 x.2.2.2.2.2.2.2.2.2.2.2.2.1 x.2.2.2.2.2.2.2.2.2.2.2.2.2.1 x.2.2.2.2.2.2.2.2.2.2.2.2.2.2.1 x.2.2.2.2.2.2.2.2.2.2.2.2.2.2.2.1 x.2.2.2.2.2.2.2.2.2.2.2.2.2.2.2.2.1 x.2.2.2.2.2.2.2.2.2.2.2.2.2.2.2.2.2.1 x.2.2.2.2.2.2.2.2.2.2.2.2.2.2.2.2.2.2.1 x.2.2.2.2.2.2.2.2.2.2.2.2.2.2.2.2.2.2.2.1 x.2.2.2.2.2.2.2.2.2.2.2.2.2.2.2.2.2.2.2.2.1 x.2.2.2.2.2.2.2.2.2.2.2.2.2.2.2.2.2.2.2.2.2)
    (fun f x r => ∃ i : Nat, x = ((i : Int), m.1, m.2.1, m.2.2.1, m.2.2.2.1, m.2.2.2.2.1, m.2.2.2.2.2.1, m.2.2.2.2.2.2, 0, 0, 0, 0, [], [], [], m.1, m.2.1, m.2.2.1, m.2.2.2.1, m.2.2.2.2.1, m.2.2.2.2.2.1, m.tasks.take i) ∧ i ≤ m.tasks.length ∧ m.tasks.length < f + i ∧ r = (m.1, m.2.1, m.2.2.1, m.2.2.2.1, m.2.2.2.2.1, m.2.2.2.2.2.1, m.2.2.2.2.2.2, 0, 0, 0, 0, [], [], [], m.1, m.2.1, m.2.2.1, m.2.2.2.1, m.2.2.2.2.1, m.2.2.2.2.2.1, m.tasks)) (fun x r ⟨i, _, h1, h2, _⟩ => by omega) (fun f x F hF r => ?_) n (0, m.1, m.2.1, m.2.2.1, m.2.2.2.1, m.2.2.2.2.1, m.2.2.2.2.2.1, m.2.2.2.2.2.2, 0, 0, 0, 0, [], [], [], m.1, m.2.1, m.2.2.1, m.2.2.2.1, m.2.2.2.2.1, m.2.2.2.2.2.1, []) _ ⟨0, rfl, Nat.zero_le _, by omega, rfl⟩
  · rw [this]; rfl
  rintro ⟨i, rfl, h1, h2, rfl⟩
  show camshaftlaw11_Plain.b0 n F (i : Int) m.1 m.2.1 m.2.2.1 m.2.2.2.1 m.2.2.2.2.1 m.2.2.2.2.2.1 m.2.2.2.2.2.2 0 0 0 0 [] [] [] m.1 m.2.1 m.2.2.1 m.2.2.2.1 m.2.2.2.2.1 m.2.2.2.2.2.1 (m.tasks.take i) = _
  unfold camshaftlaw11_Plain.b0
  rcases Nat.lt_or_ge i m.tasks.length with hlt | hge
  · rw [if_pos (show decide ((i : Int) < (m.2.2.2.2.2.2.length : Int)) = true from decide_eq_true (by exact_mod_cast hlt)), if_pos (show (decide (0 ≤ (i : Int)) && decide ((i : Int) < (m.2.2.2.2.2.2.length : Int))) = true from in_ix hlt), Int.toNat_natCast, next_ix (by omega)]
    have hl : (m.tasks.take i).length = i := by rw [List.length_take]; omega
    rw [if_pos (by rw [decide_eq_true (by omega), decide_eq_true (by omega)]; rfl)]
    refine hF _ _ ⟨i + 1, ?_, by omega, by omega, rfl⟩
    have e : m.tasks.take i ++ [m.tasks.getD i (0, 0, 0, 0, [], [], [])] = m.tasks.take (i + 1) := by
      rw [List.take_add_one, List.getD_eq_getElem?_getD, List.getElem?_eq_getElem hlt]
      rfl
    rw [← e]
  · have : i = m.tasks.length := by omega
    subst this
    rw [if_neg (by simp), List.take_length]
def cut100 (k : Nat) : Int := if (100 : Int) < (k : Int) then 100 else (k : Int)
def cut10000 (k : Nat) : Int := if (10000 : Int) < (k : Int) then 10000 else (k : Int)
theorem cut100_in (k : Nat) : 0 ≤ cut100 k ∧ cut100 k ≤ 100 := by unfold cut100; split <;> omega
theorem cut10000_in (k : Nat) : 0 ≤ cut10000 k ∧ cut10000 k ≤ 10000 := by unfold cut10000; split <;> omega
def lightB (a : Int) (l : List (List Int)) : Int := l.foldl (fun a b => a + cut100 b.length) a
def lightT (a : Int) (l : List Tsk) : Int := l.foldl (fun a t => a + cut100 t.blocks.length + cut100 t.outs.length + (cut10000 t.code.length).tdiv 20) a
theorem lightB_ge : ∀ {l : List (List Int)} {a : Int}, a ≤ lightB a l ∧ lightB a l ≤ a + 100 * l.length
  | [], a => by simp [lightB]
  | b :: l, a => by
    have := lightB_ge (l := l) (a := a + cut100 b.length)
    have := cut100_in b.length
    rw [show lightB a (b :: l) = lightB (a + cut100 b.length) l from rfl, List.length_cons]
    omega
theorem lightT_ge : ∀ {l : List Tsk} {a : Int}, a ≤ lightT a l ∧ ∀ t ∈ l, a + (cut10000 t.code.length).tdiv 20 ≤ lightT a l
  | [], a => by simp [lightT]
  | t :: l, a => by
    obtain ⟨h1, h2⟩ := lightT_ge (l := l) (a := a + cut100 t.blocks.length + cut100 t.outs.length + (cut10000 t.code.length).tdiv 20)
    have h3 := cut100_in t.blocks.length
    have h4 := cut100_in t.outs.length
    have h5 := cut10000_in t.code.length
    have h6 : (cut10000 t.code.length).tdiv 20 = cut10000 t.code.length / 20 := Int.tdiv_eq_ediv_of_nonneg h5.1
    rw [show lightT a (t :: l) = lightT (a + cut100 t.blocks.length + cut100 t.outs.length + (cut10000 t.code.length).tdiv 20) l from rfl, List.forall_mem_cons]
    refine ⟨by omega, by omega, fun u hu => ?_⟩
    have := h2 u hu
    omega
theorem lightB_is (n : Nat) (hn : n < 1000000) (m : Img) (hT : m.blocks.length < n) (a : Int) (ha : 0 ≤ a ∧ a ≤ 80) : camshaftlaw11_Light.b0.l n (a, 0, m.1, m.2.1, m.2.2.1, m.2.2.2.1, m.2.2.2.2.1, m.2.2.2.2.2.1, m.2.2.2.2.2.2) = some (lightB a m.blocks, m.1, m.2.1, m.2.2.1, m.2.2.2.1, m.2.2.2.2.1, m.2.2.2.2.2.1, m.2.2.2.2.2.2) := by
  unfold camshaftlaw11_Light.b0.l
  refine it_all (S := fun F (x : Int × Int × Int × Int × Int × Int × List Int × List (List Int) × List Tsk) => camshaftlaw11_Light.b0 n F x.1 x.2.1 x.2.2.1 x.2.2.2.1 x.2.2.2.2.1 x.2.2.2.2.2.1 x.2.2.2.2.2.2.1 x.2.2.2.2.2.2.2.1 x.2.2.2.2.2.2.2.2)
    (fun f x r => ∃ (i : Nat) (b : Int), x = (b, (i : Int), m.1, m.2.1, m.2.2.1, m.2.2.2.1, m.2.2.2.2.1, m.2.2.2.2.2.1, m.2.2.2.2.2.2) ∧ i ≤ m.blocks.length ∧ m.blocks.length < f + i ∧ (0 ≤ b ∧ b ≤ 80 + 100 * i) ∧ r = (lightB b (m.blocks.drop i), m.1, m.2.1, m.2.2.1, m.2.2.2.1, m.2.2.2.2.1, m.2.2.2.2.2.1, m.2.2.2.2.2.2)) (fun x r ⟨i, b, _, h1, h2, _⟩ => by omega) (fun f x F hF r => ?_) n _ _ ⟨0, a, rfl, Nat.zero_le _, by omega, by omega, rfl⟩
  rintro ⟨i, b, rfl, h1, h2, hb, rfl⟩
  show camshaftlaw11_Light.b0 n F b (i : Int) m.1 m.2.1 m.2.2.1 m.2.2.2.1 m.2.2.2.2.1 m.2.2.2.2.2.1 m.2.2.2.2.2.2 = _
  unfold camshaftlaw11_Light.b0
  rcases Nat.lt_or_ge i m.blocks.length with hlt | hge
  · rw [if_pos (show decide ((i : Int) < (m.2.2.2.2.2.1.length : Int)) = true from decide_eq_true (by exact_mod_cast hlt)), if_pos (show (decide (0 ≤ (i : Int)) && decide ((i : Int) < (m.2.2.2.2.2.1.length : Int))) = true from in_ix hlt), Int.toNat_natCast, next_ix (by omega), drop_eq_cons (d := ([] : List Int)) hlt]
    have hc := cut100_in (m.blocks.getD i []).length
    show F (IntKind.wrap .i64 (b + cut100 (m.blocks.getD i []).length), _) = _
    rw [wrap_id (show -9223372036854775808 ≤ b + cut100 (m.blocks.getD i []).length by omega) (show b + cut100 (m.blocks.getD i []).length ≤ 9223372036854775807 by omega)]
    exact hF _ _ ⟨i + 1, _, rfl, by omega, by omega, by omega, rfl⟩
  · have : i = m.blocks.length := by omega
    subst this
    rw [if_neg (by simp), List.drop_length]
    rfl
theorem lightT_is (n : Nat) (hn : n < 1000000) (m : Img) (hT : m.tasks.length < n) (hB : m.blocks.length < n) (a : Int) (ha : 0 ≤ a ∧ a ≤ 80 + 100 * m.blocks.length) : camshaftlaw11_Light.b1.l n (a, 0, m.1, m.2.1, m.2.2.1, m.2.2.2.1, m.2.2.2.2.1, m.2.2.2.2.2.1, m.2.2.2.2.2.2) = some (lightT a m.tasks, m.1, m.2.1, m.2.2.1, m.2.2.2.1, m.2.2.2.2.1, m.2.2.2.2.2.1, m.2.2.2.2.2.2) := by
  unfold camshaftlaw11_Light.b1.l
  refine it_all (S := fun F (x : Int × Int × Int × Int × Int × Int × List Int × List (List Int) × List Tsk) => camshaftlaw11_Light.b1 n F x.1 x.2.1 x.2.2.1 x.2.2.2.1 x.2.2.2.2.1 x.2.2.2.2.2.1 x.2.2.2.2.2.2.1 x.2.2.2.2.2.2.2.1 x.2.2.2.2.2.2.2.2)
    (fun f x r => ∃ (i : Nat) (b : Int), x = (b, (i : Int), m.1, m.2.1, m.2.2.1, m.2.2.2.1, m.2.2.2.2.1, m.2.2.2.2.2.1, m.2.2.2.2.2.2) ∧ i ≤ m.tasks.length ∧ m.tasks.length < f + i ∧ (0 ≤ b ∧ b ≤ 80 + 100 * m.blocks.length + 700 * i) ∧ r = (lightT b (m.tasks.drop i), m.1, m.2.1, m.2.2.1, m.2.2.2.1, m.2.2.2.2.1, m.2.2.2.2.2.1, m.2.2.2.2.2.2)) (fun x r ⟨i, b, _, h1, h2, _⟩ => by omega) (fun f x F hF r => ?_) n _ _ ⟨0, a, rfl, Nat.zero_le _, by omega, by omega, rfl⟩
  rintro ⟨i, b, rfl, h1, h2, hb, rfl⟩
  show camshaftlaw11_Light.b1 n F b (i : Int) m.1 m.2.1 m.2.2.1 m.2.2.2.1 m.2.2.2.2.1 m.2.2.2.2.2.1 m.2.2.2.2.2.2 = _
  unfold camshaftlaw11_Light.b1
  rcases Nat.lt_or_ge i m.tasks.length with hlt | hge
  · rw [if_pos (show decide ((i : Int) < (m.2.2.2.2.2.2.length : Int)) = true from decide_eq_true (by exact_mod_cast hlt)), if_pos (show (decide (0 ≤ (i : Int)) && decide ((i : Int) < (m.2.2.2.2.2.2.length : Int))) = true from in_ix hlt), Int.toNat_natCast, next_ix (by omega), drop_eq_cons (d := ((0 : Int), (0 : Int), (0 : Int), (0 : Int), ([] : List Int), ([] : List Int), ([] : List Ins))) hlt]
    rw [show m.2.2.2.2.2.2.getD i (0, 0, 0, 0, [], [], []) = m.tasks.getD i (0, 0, 0, 0, [], [], []) from rfl]
    generalize m.tasks.getD i (0, 0, 0, 0, [], [], []) = t
    have h3 := cut100_in t.blocks.length
    have h4 := cut100_in t.outs.length
    have h5 := cut10000_in t.code.length
    have h6 : (cut10000 t.code.length).tdiv 20 = cut10000 t.code.length / 20 := Int.tdiv_eq_ediv_of_nonneg h5.1
    show F (IntKind.wrap .i64 (IntKind.wrap .i64 (IntKind.wrap .i64 (b + cut100 t.blocks.length) + cut100 t.outs.length) + IntKind.wrap .i64 ((cut10000 t.code.length).tdiv 20)), _) = _
    rw [wrap_id (e := (cut10000 t.code.length).tdiv 20) (by omega) (by omega), wrap_id (e := b + cut100 t.blocks.length) (by omega) (by omega), wrap_id (e := b + cut100 t.blocks.length + cut100 t.outs.length) (by omega) (by omega), wrap_id (e := b + cut100 t.blocks.length + cut100 t.outs.length + (cut10000 t.code.length).tdiv 20) (by omega) (by omega)]
    exact hF _ _ ⟨i + 1, _, rfl, by omega, by omega, by omega, rfl⟩
  · have : i = m.tasks.length := by omega
    subst this
    rw [if_neg (by simp), List.drop_length]
    rfl
theorem light_is (n : Nat) (hn0 : 200 < n) (hn : n < 1000000) (m : Img) (hs : m.safe.length < 9000000000000000 ∧ m.blocks.length < 9000000000000000 ∧ m.tasks.length < 9000000000000000) : camshaftlaw11_Light.f n m = some 0 ∨ (camshaftlaw11_Light.f n m = some 1 ∧ LightP m) := by
  unfold camshaftlaw11_Light.f
  have e : IntKind.wrap .i64 (IntKind.wrap .i64 ((m.safe.length : Int) + (m.blocks.length : Int)) + (m.tasks.length : Int)) = (m.safe.length : Int) + (m.blocks.length : Int) + (m.tasks.length : Int) := by
    rw [wrap_id (e := (m.safe.length : Int) + (m.blocks.length : Int)) (by omega) (by omega), wrap_id (by omega) (by omega)]
  rw [show IntKind.wrap .i64 (IntKind.wrap .i64 ((m.2.2.2.2.1.length : Int) + (m.2.2.2.2.2.1.length : Int)) + (m.2.2.2.2.2.2.length : Int)) = (m.safe.length : Int) + (m.blocks.length : Int) + (m.tasks.length : Int) from e]
  by_cases h : (m.safe.length : Int) + (m.blocks.length : Int) + (m.tasks.length : Int) > 80
  · rw [if_pos (decide_eq_true h)]
    exact .inl rfl
  rw [if_neg (by simpa using h), lightB_is n hn m (by omega) _ (by omega), Option.bind_some]
  obtain ⟨hB1, hB2⟩ := lightB_ge (l := m.blocks) (a := (m.safe.length : Int) + (m.blocks.length : Int) + (m.tasks.length : Int))
  rw [show camshaftlaw11_Light.b1.l n _ = _ from lightT_is n hn m (by omega) (by omega) (lightB ((m.safe.length : Int) + (m.blocks.length : Int) + (m.tasks.length : Int)) m.blocks) (by omega), Option.bind_some]
  dsimp only
  obtain ⟨hT1, hT2⟩ := lightT_ge (l := m.tasks) (a := lightB ((m.safe.length : Int) + (m.blocks.length : Int) + (m.tasks.length : Int)) m.blocks)
  split
  · exact .inl rfl
  · rename_i h2
    have h2 : lightT (lightB ((m.safe.length : Int) + (m.blocks.length : Int) + (m.tasks.length : Int)) m.blocks) m.tasks ≤ 200 := by simpa using h2
    refine .inr ⟨rfl, by omega, fun t ht => ?_⟩
    have h3 := hT2 t ht
    have h5 := cut10000_in t.code.length
    have h6 : (cut10000 t.code.length).tdiv 20 = cut10000 t.code.length / 20 := Int.tdiv_eq_ediv_of_nonneg h5.1
    have h7 : cut10000 t.code.length ≤ 4019 := by omega
    unfold cut10000 at h7
    split at h7 <;> omega
end Go.Proofs.Dk

/- Plain: slots, locks, all. -/
namespace Go.Proofs.Dk
open Go
set_option maxRecDepth 100000
set_option linter.unusedVariables false
set_option linter.unusedSimpArgs false
abbrev taskAt (m : Img) (i : Int) : Tsk := m.tasks.getD i.toNat (0, 0, 0, 0, [], [], [])
theorem taskI_zero {n : Nat} {m : Img} {i : Int} (h : taskI n m i = 0) : RightP m ∧ (0 ≤ i ∧ i < (m.tasks.length : Int)) ∧ (allI bM n (taskAt m i).code).2 = 0 ∧ lockL (taskAt m i).code = (taskAt m i).blocks ∧ (taskAt m i).code.all (nameI m (taskAt m i)) = true := by
  unfold taskI at h
  split at h
  · rename_i hR
    split at h
    · cases h
    · dsimp only at h
      split at h
      · rename_i h1
        exact absurd h h1
      · rename_i h1
        split at h
        · rename_i h2
          split at h
          · rename_i h3
            exact ⟨hR, by omega, Decidable.not_not.1 h1, h2, h3⟩
          · cases h
        · cases h
  · cases h
noncomputable def slotsI (n : Nat) (m : Img) (i : Int) : Int × Int :=
  if taskI n m i ≠ 0 then (0, taskI n m i) else ((allI bM n (taskAt m i).code).1 + 2 * m.1 + m.2.1 + m.2.2.1, 0)
noncomputable def lockedI (n : Nat) (m : Img) (i : Int) : List Int × Int :=
  if taskI n m i ≠ 0 then ([], taskI n m i) else ((sectI n (taskAt m i).code).1.map Prod.snd, 0)
theorem ix_some {i : Int} {k : Nat} (h0 : 0 ≤ i) (h1 : i < (k : Int)) : (decide (0 ≤ i) && decide (i < (k : Int))) = true := by rw [decide_eq_true h0, decide_eq_true h1]; rfl
theorem slots_is (n : Nat) (hn : 200 < n) (hn2 : n < 1000000) (m : Img) (i : Int) : check_Slots.f n m i = some (slotsI n m i) := by
  unfold check_Slots.f slotsI
  rw [show check_Task.f n (m.1, m.2.1, m.2.2.1, m.2.2.2.1, m.2.2.2.2.1, m.2.2.2.2.2.1, m.2.2.2.2.2.2) i = _ from task_is n hn hn2 m i, Option.bind_some]
  by_cases h : taskI n m i ≠ 0
  · rw [if_pos (bne_iff_ne.2 h), if_pos h]
  rw [if_neg (fun k => h (bne_iff_ne.1 k)), if_neg h]
  obtain ⟨hR, ⟨h0, h1⟩, h2, h3, h4⟩ := taskI_zero (Decidable.not_not.1 h)
  obtain ⟨ht, hm⟩ := hR.task h0 h1
  have hc : (taskAt m i).code.length < n := Nat.lt_of_le_of_lt ht.2.2.2.2.1 (by omega)
  rw [if_pos (show (decide (0 ≤ i) && decide (i < (m.2.2.2.2.2.2.length : Int))) = true from ix_some h0 h1)]
  rw [show cost_Worst.f n (m.2.2.2.2.2.2.getD i.toNat (0, 0, 0, 0, [], [], [])).2.2.2.2.2.2 = _ from worst_is n (taskAt m i).code hc (by omega) hn2, Option.bind_some]
  try dsimp only
  obtain ⟨_, a1, a2, _, a3⟩ := allI_err n _ h2
  obtain ⟨n1, n2, n3, _⟩ := hR.1
  rw [h2, wrap_id (e := m.1 + m.2.1) (by omega) (by omega), wrap_id (e := m.1 + m.2.1 + (allI bM n (taskAt m i).code).1) (by omega) (by omega), wrap_id (e := m.1 + m.2.1 + (allI bM n (taskAt m i).code).1 + m.2.2.1) (by omega) (by omega), wrap_id (by omega) (by omega)]
  congr 2
  omega
theorem ref_slots_is (n : Nat) (hn : 7000 < n) (hn2 : n < 1000000) (m : Img) (i : Int) (hL : LightP m) (hi : ∀ t ∈ m.tasks, InR t.code) : camshaftref12_Slots.f n m i = some (slotsI n m i) := by
  unfold camshaftref12_Slots.f slotsI
  rw [show camshaftref12_Task.f n (m.1, m.2.1, m.2.2.1, m.2.2.2.1, m.2.2.2.2.1, m.2.2.2.2.2.1, m.2.2.2.2.2.2) i = _ from ref_task_is n hn hn2 m i hL hi, Option.bind_some]
  by_cases h : taskI n m i ≠ 0
  · rw [if_pos (bne_iff_ne.2 h), if_pos h]
  rw [if_neg (fun k => h (bne_iff_ne.1 k)), if_neg h]
  obtain ⟨hR, ⟨h0, h1⟩, h2, h3, h4⟩ := taskI_zero (Decidable.not_not.1 h)
  obtain ⟨ht, hm⟩ := hR.task h0 h1
  have hc : (taskAt m i).code.length < n := Nat.lt_of_le_of_lt ht.2.2.2.2.1 (by omega)
  rw [if_pos (show (decide (0 ≤ i) && decide (i < (m.2.2.2.2.2.2.length : Int))) = true from ix_some h0 h1)]
  rw [show camshaftref09_Worst.f n (m.2.2.2.2.2.2.getD i.toNat (0, 0, 0, 0, [], [], [])).2.2.2.2.2.2 = _ from ref_worst_is n (taskAt m i).code (hi _ hm) hc (by omega) hn2, Option.bind_some]
  try dsimp only
  obtain ⟨_, a1, a2, _, a3⟩ := allI_err n _ h2
  obtain ⟨n1, n2, n3, _⟩ := hR.1
  rw [wrap_id (e := 2 * m.1) (by omega) (by omega), wrap_id (e := (allI bM n (taskAt m i).code).1 + 2 * m.1) (by omega) (by omega), wrap_id (e := (allI bM n (taskAt m i).code).1 + 2 * m.1 + m.2.1) (by omega) (by omega), wrap_id (by omega) (by omega)]
theorem len_loop (n : Nat) (hn : n < 1000000) (e : Int) (s : List (Int × Int)) (hs : s.length < n) : check_Locked.b0.l n (e, [], s, (s.length : Int), 0) = some (e, s.map Prod.snd) := by
  unfold check_Locked.b0.l
  refine it_all (S := fun F (x : Int × List Int × List (Int × Int) × Int × Int) => check_Locked.b0 n F x.1 x.2.1 x.2.2.1 x.2.2.2.1 x.2.2.2.2)
    (fun f x r => ∃ i : Nat, x = (e, (s.take i).map Prod.snd, s, (s.length : Int), (i : Int)) ∧ i ≤ s.length ∧ s.length < f + i ∧ r = (e, s.map Prod.snd)) (fun x r ⟨i, _, h1, h2, _⟩ => by omega) (fun f x F hF r => ?_) n _ _ ⟨0, rfl, Nat.zero_le _, by omega, rfl⟩
  rintro ⟨i, rfl, h1, h2, rfl⟩
  show check_Locked.b0 n F e ((s.take i).map Prod.snd) s (s.length : Int) (i : Int) = _
  unfold check_Locked.b0
  rcases Nat.lt_or_ge i s.length with hlt | hge
  · have hl : ((s.take i).map Prod.snd).length = i := by rw [List.length_map, List.length_take]; omega
    rw [if_pos (decide_eq_true (by omega)), if_pos (in_ix hlt), if_pos (by rw [decide_eq_true (by omega), decide_eq_true (by omega)]; rfl), Int.toNat_natCast, next_ix (by omega)]
    refine hF _ _ ⟨i + 1, ?_, by omega, by omega, rfl⟩
    have e : (s.take i).map Prod.snd ++ [(s.getD i (0, 0)).2] = (s.take (i + 1)).map Prod.snd := by
      rw [List.take_add_one, List.getD_eq_getElem?_getD, List.getElem?_eq_getElem hlt, List.map_append]
      rfl
    rw [← e]
  · have : i = s.length := by omega
    subst this
    rw [if_neg (by simp), List.take_length]
theorem reflen_loop (n : Nat) (hn : n < 1000000) (s : List (Int × Int)) (hs : s.length < n) : camshaftref12_Locked.b0.l n (s, [], 0) = some (s.map Prod.snd) := by
  unfold camshaftref12_Locked.b0.l
  refine it_all (S := fun F (x : List (Int × Int) × List Int × Int) => camshaftref12_Locked.b0 n F x.1 x.2.1 x.2.2)
    (fun f x r => ∃ i : Nat, x = (s, (s.take i).map Prod.snd, (i : Int)) ∧ i ≤ s.length ∧ s.length < f + i ∧ r = s.map Prod.snd) (fun x r ⟨i, _, h1, h2, _⟩ => by omega) (fun f x F hF r => ?_) n _ _ ⟨0, rfl, Nat.zero_le _, by omega, rfl⟩
  rintro ⟨i, rfl, h1, h2, rfl⟩
  show camshaftref12_Locked.b0 n F s ((s.take i).map Prod.snd) (i : Int) = _
  unfold camshaftref12_Locked.b0
  rcases Nat.lt_or_ge i s.length with hlt | hge
  · have hl : ((s.take i).map Prod.snd).length = i := by rw [List.length_map, List.length_take]; omega
    rw [if_pos (decide_eq_true (by omega)), if_pos (in_ix hlt), if_pos (by rw [decide_eq_true (by omega), decide_eq_true (by omega)]; rfl), Int.toNat_natCast, next_ix (by omega)]
    refine hF _ _ ⟨i + 1, ?_, by omega, by omega, rfl⟩
    have e : (s.take i).map Prod.snd ++ [(s.getD i (0, 0)).2] = (s.take (i + 1)).map Prod.snd := by
      rw [List.take_add_one, List.getD_eq_getElem?_getD, List.getElem?_eq_getElem hlt, List.map_append]
      rfl
    rw [← e]
  · have : i = s.length := by omega
    subst this
    rw [if_neg (by simp), List.take_length]
theorem sectI_err {n : Nat} {l : List Ins} (h : (allI bM n l).2 = 0) : (sectI n l).2 = 0 := by
  unfold sectI
  rw [if_neg (fun k => k h)]
theorem sectL_len : ∀ {l : List Ins} {m : List Int} {n : Nat} (r i : Nat), (sectS l m n r i).length ≤ r
  | l, m, n, 0, i => by simp [sectS]
  | l, m, n, r + 1, i => by
    have := sectL_len (l := l) (m := m) (n := n) r (i + 1)
    unfold sectS
    rw [List.length_append]
    split <;> simp <;> omega
theorem sectI_len2 (n : Nat) (l : List Ins) : (sectI n l).1.length ≤ l.length := by
  unfold sectI
  split
  · simp
  · exact sectL_len _ _
theorem locked_is (n : Nat) (hn : 200 < n) (hn2 : n < 1000000) (m : Img) (i : Int) : check_Locked.f n m i = some (lockedI n m i) := by
  unfold check_Locked.f lockedI
  rw [show check_Task.f n (m.1, m.2.1, m.2.2.1, m.2.2.2.1, m.2.2.2.2.1, m.2.2.2.2.2.1, m.2.2.2.2.2.2) i = _ from task_is n hn hn2 m i, Option.bind_some]
  by_cases h : taskI n m i ≠ 0
  · rw [if_pos (bne_iff_ne.2 h), if_pos h]
  rw [if_neg (fun k => h (bne_iff_ne.1 k)), if_neg h]
  obtain ⟨hR, ⟨h0, h1⟩, h2, h3, h4⟩ := taskI_zero (Decidable.not_not.1 h)
  obtain ⟨ht, hm⟩ := hR.task h0 h1
  have hc : (taskAt m i).code.length < n := Nat.lt_of_le_of_lt ht.2.2.2.2.1 (by omega)
  have hsl := sectI_len2 n (taskAt m i).code
  rw [if_pos (show (decide (0 ≤ i) && decide (i < (m.2.2.2.2.2.2.length : Int))) = true from ix_some h0 h1)]
  rw [show cost_Sections.f n (m.2.2.2.2.2.2.getD i.toNat (0, 0, 0, 0, [], [], [])).2.2.2.2.2.2 = _ from sections_is n (taskAt m i).code hc (by omega) hn2, Option.bind_some, len_loop n hn2 _ _ (by omega), Option.bind_some, sectI_err h2]
theorem ref_locked_is (n : Nat) (hn : 7000 < n) (hn2 : n < 1000000) (m : Img) (i : Int) (hL : LightP m) (hi : ∀ t ∈ m.tasks, InR t.code) : camshaftref12_Locked.f n m i = some (lockedI n m i) := by
  unfold camshaftref12_Locked.f lockedI
  rw [show camshaftref12_Task.f n (m.1, m.2.1, m.2.2.1, m.2.2.2.1, m.2.2.2.2.1, m.2.2.2.2.2.1, m.2.2.2.2.2.2) i = _ from ref_task_is n hn hn2 m i hL hi, Option.bind_some]
  by_cases h : taskI n m i ≠ 0
  · rw [if_pos (bne_iff_ne.2 h), if_pos h]
  rw [if_neg (fun k => h (bne_iff_ne.1 k)), if_neg h]
  obtain ⟨hR, ⟨h0, h1⟩, h2, h3, h4⟩ := taskI_zero (Decidable.not_not.1 h)
  obtain ⟨ht, hm⟩ := hR.task h0 h1
  have hc : (taskAt m i).code.length < n := Nat.lt_of_le_of_lt ht.2.2.2.2.1 (by omega)
  have hsl := sectI_len2 n (taskAt m i).code
  rw [if_pos (show (decide (0 ≤ i) && decide (i < (m.2.2.2.2.2.2.length : Int))) = true from ix_some h0 h1)]
  rw [show camshaftref09_Sections.f n (m.2.2.2.2.2.2.getD i.toNat (0, 0, 0, 0, [], [], [])).2.2.2.2.2.2 = _ from ref_sections_is n (taskAt m i).code (hi _ hm) hc (by omega) hn2, Option.bind_some, reflen_loop n hn2 _ (by omega), Option.bind_some]
def failI (e : Nat → Int) : Nat → Nat → Option (Int × Int)
  | 0, i => none
  | r + 1, i => if e i ≠ 0 then some ((i : Int), e i) else failI e r (i + 1)
open Classical in
noncomputable def everyI (n : Nat) (m : Img) : Int × Int :=
  if RightP m then (failI (fun i => taskI n m (i : Int)) m.tasks.length 0).getD (-1, 0) else (-1, 12)
theorem all_loop (n : Nat) (hn : 200 < n) (hn2 : n < 1000000) (m : Img) (hT : m.tasks.length < n) : check_All.b0.l n ((m.tasks.length : Int), 0, m.1, m.2.1, m.2.2.1, m.2.2.2.1, m.2.2.2.2.1, m.2.2.2.2.2.1, m.2.2.2.2.2.2) = some (match failI (fun i => taskI n m (i : Int)) m.tasks.length 0 with | some p => .inl ((p.1, p.2, ()), ((m.1, m.2.1, m.2.2.1, m.2.2.2.1, m.2.2.2.2.1, m.2.2.2.2.2.1, m.2.2.2.2.2.2, ()), ())) | none => .inr ((), ((m.1, m.2.1, m.2.2.1, m.2.2.2.1, m.2.2.2.2.1, m.2.2.2.2.2.1, m.2.2.2.2.2.2, ()), ()))) := by
  unfold check_All.b0.l
  refine it_all (S := fun F (x : Int × Int × Int × Int × Int × Int × List Int × List (List Int) × List Tsk) => check_All.b0 n F x.1 x.2.1 x.2.2.1 x.2.2.2.1 x.2.2.2.2.1 x.2.2.2.2.2.1 x.2.2.2.2.2.2.1 x.2.2.2.2.2.2.2.1 x.2.2.2.2.2.2.2.2)
    (fun f x r => ∃ (i : Nat), x = ((m.tasks.length : Int), (i : Int), m.1, m.2.1, m.2.2.1, m.2.2.2.1, m.2.2.2.2.1, m.2.2.2.2.2.1, m.2.2.2.2.2.2) ∧ i ≤ m.tasks.length ∧ m.tasks.length < f + i ∧ r = (match failI (fun i => taskI n m (i : Int)) (m.tasks.length - i) i with | some p => .inl ((p.1, p.2, ()), ((m.1, m.2.1, m.2.2.1, m.2.2.2.1, m.2.2.2.2.1, m.2.2.2.2.2.1, m.2.2.2.2.2.2, ()), ())) | none => .inr ((), ((m.1, m.2.1, m.2.2.1, m.2.2.2.1, m.2.2.2.2.1, m.2.2.2.2.2.1, m.2.2.2.2.2.2, ()), ())))) (fun x r ⟨i, _, h1, h2, _⟩ => by omega) (fun f x F hF r => ?_) n _ _ ⟨0, rfl, Nat.zero_le _, by omega, rfl⟩
  rintro ⟨i, rfl, h1, h2, rfl⟩
  show check_All.b0 n F (m.tasks.length : Int) (i : Int) m.1 m.2.1 m.2.2.1 m.2.2.2.1 m.2.2.2.2.1 m.2.2.2.2.2.1 m.2.2.2.2.2.2 = _
  unfold check_All.b0
  rcases Nat.lt_or_ge i m.tasks.length with hlt | hge
  · rw [if_pos (decide_eq_true (by omega)), show check_Task.f n (m.1, m.2.1, m.2.2.1, m.2.2.2.1, m.2.2.2.2.1, m.2.2.2.2.2.1, m.2.2.2.2.2.2) (i : Int) = _ from task_is n hn hn2 m i, Option.bind_some, show m.tasks.length - i = (m.tasks.length - (i + 1)) + 1 by omega]
    unfold failI
    try dsimp only
    by_cases h : taskI n m (i : Int) ≠ 0
    · rw [if_pos (bne_iff_ne.2 h), if_pos h]
    · rw [if_neg (fun k => h (bne_iff_ne.1 k)), if_neg h, next_ix (by omega)]
      exact hF _ _ ⟨i + 1, rfl, by omega, by omega, rfl⟩
  · have : i = m.tasks.length := by omega
    subst this
    rw [if_neg (by simp), Nat.sub_self]
    rfl
theorem refall_loop (n : Nat) (hn : 7000 < n) (hn2 : n < 1000000) (m : Img) (hT : m.tasks.length < n) (hL : LightP m) (hi : ∀ t ∈ m.tasks, InR t.code) : camshaftref12_All.b0.l n (0, m.1, m.2.1, m.2.2.1, m.2.2.2.1, m.2.2.2.2.1, m.2.2.2.2.2.1, m.2.2.2.2.2.2) = some (match failI (fun i => taskI n m (i : Int)) m.tasks.length 0 with | some p => .inl ((p.1, p.2, ()), ((m.1, m.2.1, m.2.2.1, m.2.2.2.1, m.2.2.2.2.1, m.2.2.2.2.2.1, m.2.2.2.2.2.2, ()), ())) | none => .inr ((), ((m.1, m.2.1, m.2.2.1, m.2.2.2.1, m.2.2.2.2.1, m.2.2.2.2.2.1, m.2.2.2.2.2.2, ()), ()))) := by
  unfold camshaftref12_All.b0.l
  refine it_all (S := fun F (x : Int × Int × Int × Int × Int × List Int × List (List Int) × List Tsk) => camshaftref12_All.b0 n F x.1 x.2.1 x.2.2.1 x.2.2.2.1 x.2.2.2.2.1 x.2.2.2.2.2.1 x.2.2.2.2.2.2.1 x.2.2.2.2.2.2.2)
    (fun f x r => ∃ (i : Nat), x = ((i : Int), m.1, m.2.1, m.2.2.1, m.2.2.2.1, m.2.2.2.2.1, m.2.2.2.2.2.1, m.2.2.2.2.2.2) ∧ i ≤ m.tasks.length ∧ m.tasks.length < f + i ∧ r = (match failI (fun i => taskI n m (i : Int)) (m.tasks.length - i) i with | some p => .inl ((p.1, p.2, ()), ((m.1, m.2.1, m.2.2.1, m.2.2.2.1, m.2.2.2.2.1, m.2.2.2.2.2.1, m.2.2.2.2.2.2, ()), ())) | none => .inr ((), ((m.1, m.2.1, m.2.2.1, m.2.2.2.1, m.2.2.2.2.1, m.2.2.2.2.2.1, m.2.2.2.2.2.2, ()), ())))) (fun x r ⟨i, _, h1, h2, _⟩ => by omega) (fun f x F hF r => ?_) n _ _ ⟨0, rfl, Nat.zero_le _, by omega, rfl⟩
  rintro ⟨i, rfl, h1, h2, rfl⟩
  show camshaftref12_All.b0 n F (i : Int) m.1 m.2.1 m.2.2.1 m.2.2.2.1 m.2.2.2.2.1 m.2.2.2.2.2.1 m.2.2.2.2.2.2 = _
  unfold camshaftref12_All.b0
  rcases Nat.lt_or_ge i m.tasks.length with hlt | hge
  · rw [if_pos (show decide ((i : Int) < (m.2.2.2.2.2.2.length : Int)) = true from decide_eq_true (by exact_mod_cast hlt)), show camshaftref12_Task.f n (m.1, m.2.1, m.2.2.1, m.2.2.2.1, m.2.2.2.2.1, m.2.2.2.2.2.1, m.2.2.2.2.2.2) (i : Int) = _ from ref_task_is n hn hn2 m i hL hi, Option.bind_some, show m.tasks.length - i = (m.tasks.length - (i + 1)) + 1 by omega]
    unfold failI
    try dsimp only
    by_cases h : taskI n m (i : Int) ≠ 0
    · rw [if_pos (bne_iff_ne.2 h), if_pos h]
    · rw [if_neg (fun k => h (bne_iff_ne.1 k)), if_neg h, next_ix (by omega)]
      exact hF _ _ ⟨i + 1, rfl, by omega, by omega, rfl⟩
  · have : i = m.tasks.length := by omega
    subst this
    rw [if_neg (by simp), Nat.sub_self]
    rfl
theorem every_is (n : Nat) (hn : 200 < n) (hn2 : n < 1000000) (m : Img) : check_All.f n m = some (everyI n m) := by
  obtain ⟨b, e1, e2⟩ := right_is_img n hn hn2 m
  unfold check_All.f everyI
  rw [show image_Right.f n (m.1, m.2.1, m.2.2.1, m.2.2.2.1, m.2.2.2.2.1, m.2.2.2.2.2.1, m.2.2.2.2.2.2) = some b from e1, Option.bind_some]
  cases b with
  | false =>
    rw [if_pos (show (!false) = true from rfl), if_neg (show ¬ RightP m from fun h => by have := e2.2 h; cases this)]
  | true =>
    have hR := e2.1 rfl
    rw [if_pos hR, if_neg (by decide)]
    rw [show check_All.b0.l n _ = _ from all_loop n hn hn2 m (by have := hR.1.2.2.2.2.2.2; omega), Option.bind_some]
    cases failI (fun i => taskI n m (i : Int)) m.tasks.length 0 <;> rfl
theorem ref_every_is (n : Nat) (hn : 7000 < n) (hn2 : n < 1000000) (m : Img) (hL : LightP m) (hi : ∀ t ∈ m.tasks, InR t.code) : camshaftref12_All.f n m = some (everyI n m) := by
  obtain ⟨b, e1, e2⟩ := ref_right_is_img n hn hn2 m hL hi
  unfold camshaftref12_All.f everyI
  rw [show camshaftref11_Right.f n (m.1, m.2.1, m.2.2.1, m.2.2.2.1, m.2.2.2.2.1, m.2.2.2.2.2.1, m.2.2.2.2.2.2) = some b from e1, Option.bind_some]
  cases b with
  | false =>
    rw [if_pos (show (!false) = true from rfl), if_neg (show ¬ RightP m from fun h => by have := e2.2 h; cases this)]
  | true =>
    have hR := e2.1 rfl
    rw [if_pos hR, if_neg (by decide)]
    rw [show camshaftref12_All.b0.l n _ = _ from refall_loop n hn hn2 m (by have := hR.1.2.2.2.2.2.2; omega) hL hi, Option.bind_some]
    cases failI (fun i => taskI n m (i : Int)) m.tasks.length 0 <;> rfl
end Go.Proofs.Dk

/- Plain: the statements' images. -/
namespace Go.Proofs.Dk
open Go
set_option maxRecDepth 100000
set_option linter.unusedVariables false
abbrev TskS : Sh := .pair (.int .i64) (.pair (.int .i64) (.pair (.int .i64) (.pair (.int .i64) (.pair (.sl (.int .i64)) (.pair (.sl (.int .i64)) (.sl (.pair (.int .i64) (.pair (.int .i64) (.int .i64)))))))))
abbrev ImgS : Sh := .pair (.int .i64) (.pair (.int .i64) (.pair (.int .i64) (.pair (.int .i64) (.pair (.sl (.int .i64)) (.pair (.sl (.sl (.int .i64))) (.sl TskS))))))
theorem img_in {m : Img} (h : Sh.Ok ImgS m) : ∀ t ∈ m.tasks, InR t.code := fun t ht => InR.of (h.2.2.2.2.2.2.2 t ht).2.2.2.2.2.2
theorem img_light (n : Nat) (hn0 : 200 < n) (hn : n < 1000000) {m : Img} (h : Sh.Sm ImgS m) : camshaftlaw11_Light.f n m = some 0 ∨ (camshaftlaw11_Light.f n m = some 1 ∧ LightP m) :=
  light_is n hn0 hn m (by
    have h1 : m.safe.length ≤ 140737488351232 := h.2.2.2.2.1
    have h2 : m.blocks.length ≤ 140737488351232 := h.2.2.2.2.2.1
    have h3 : m.tasks.length ≤ 140737488351232 := h.2.2.2.2.2.2
    omega)
theorem known12 : camshaftlaw12_known.f 20000 = some true := by kernel_rfl
end Go.Proofs.Dk

/- CheckTells is true. -/
namespace Go.Proofs.Dk
open Go
set_option maxRecDepth 100000
set_option linter.unusedVariables false
theorem camshaftlaw12_CheckTells_true (a0 : (Int × (Int × (Int × (Int × ((List Int) × ((List (List Int)) × (List (Int × (Int × (Int × (Int × ((List Int) × ((List Int) × (List (Int × (Int × Int))))))))))))))))) (a1 : Int) (ok0 : Sh.Ok (.pair (.int .i64) (.pair (.int .i64) (.pair (.int .i64) (.pair (.int .i64) (.pair (.sl (.int .i64)) (.pair (.sl (.sl (.int .i64))) (.sl (.pair (.int .i64) (.pair (.int .i64) (.pair (.int .i64) (.pair (.int .i64) (.pair (.sl (.int .i64)) (.pair (.sl (.int .i64)) (.sl (.pair (.int .i64) (.pair (.int .i64) (.int .i64))))))))))))))))) a0) (ok1 : Sh.Ok (.int .i64) a1) (sm0 : Sh.Sm (.pair (.int .i64) (.pair (.int .i64) (.pair (.int .i64) (.pair (.int .i64) (.pair (.sl (.int .i64)) (.pair (.sl (.sl (.int .i64))) (.sl (.pair (.int .i64) (.pair (.int .i64) (.pair (.int .i64) (.pair (.int .i64) (.pair (.sl (.int .i64)) (.pair (.sl (.int .i64)) (.sl (.pair (.int .i64) (.pair (.int .i64) (.int .i64))))))))))))))))) a0) : ∃ n, camshaftlaw12_CheckTells.f n a0 a1 = some true := by
  refine ⟨20000, ?_⟩
  unfold camshaftlaw12_CheckTells.f
  have hn1 : 200 < 20000 := by decide
  have hn7 : 7000 < 20000 := by decide
  have hn2 : 20000 < 1000000 := by decide
  have hi := img_in ok0
  rcases img_light 20000 hn1 hn2 sm0 with h | ⟨h, hL⟩
  · rw [show camshaftlaw11_Light.f 20000 (a0.1, a0.2.1, a0.2.2.1, a0.2.2.2.1, a0.2.2.2.2.1, a0.2.2.2.2.2.1, a0.2.2.2.2.2.2) = some 0 from h, Option.bind_some, if_pos (by decide), known12]
    rfl
  · rw [show camshaftlaw11_Light.f 20000 (a0.1, a0.2.1, a0.2.2.1, a0.2.2.2.1, a0.2.2.2.2.1, a0.2.2.2.2.2.1, a0.2.2.2.2.2.2) = some 1 from h, Option.bind_some, if_neg (by decide)]
    rw [show camshaftlaw11_Plain.f 20000 (a0.1, a0.2.1, a0.2.2.1, a0.2.2.2.1, a0.2.2.2.2.1, a0.2.2.2.2.2.1, a0.2.2.2.2.2.2) = some a0 from plain11_is 20000 hn2 a0 (by have := hL.1; omega), Option.bind_some]
    rw [show check_Slots.f 20000 (a0.1, a0.2.1, a0.2.2.1, a0.2.2.2.1, a0.2.2.2.2.1, a0.2.2.2.2.2.1, a0.2.2.2.2.2.2) a1 = _ from slots_is 20000 hn1 hn2 a0 a1, Option.bind_some]
    rw [show camshaftref12_Slots.f 20000 (a0.1, a0.2.1, a0.2.2.1, a0.2.2.2.1, a0.2.2.2.2.1, a0.2.2.2.2.2.1, a0.2.2.2.2.2.2) a1 = _ from ref_slots_is 20000 hn7 hn2 a0 a1 hL hi, Option.bind_some]
    rw [show check_Locked.f 20000 (a0.1, a0.2.1, a0.2.2.1, a0.2.2.2.1, a0.2.2.2.2.1, a0.2.2.2.2.2.1, a0.2.2.2.2.2.2) a1 = _ from locked_is 20000 hn1 hn2 a0 a1, Option.bind_some]
    rw [show camshaftref12_Locked.f 20000 (a0.1, a0.2.1, a0.2.2.1, a0.2.2.2.1, a0.2.2.2.2.1, a0.2.2.2.2.2.1, a0.2.2.2.2.2.2) a1 = _ from ref_locked_is 20000 hn7 hn2 a0 a1 hL hi, Option.bind_some]
    rw [show check_All.f 20000 (a0.1, a0.2.1, a0.2.2.1, a0.2.2.2.1, a0.2.2.2.2.1, a0.2.2.2.2.2.1, a0.2.2.2.2.2.2) = _ from every_is 20000 hn1 hn2 a0, Option.bind_some]
    rw [show camshaftref12_All.f 20000 (a0.1, a0.2.1, a0.2.2.1, a0.2.2.2.1, a0.2.2.2.2.1, a0.2.2.2.2.2.1, a0.2.2.2.2.2.2) = _ from ref_every_is 20000 hn7 hn2 a0 hL hi, Option.bind_some]
    rw [show check_Task.f 20000 (a0.1, a0.2.1, a0.2.2.1, a0.2.2.2.1, a0.2.2.2.2.1, a0.2.2.2.2.2.1, a0.2.2.2.2.2.2) a1 = _ from task_is 20000 hn1 hn2 a0 a1, Option.bind_some]
    rw [show camshaftref12_Task.f 20000 (a0.1, a0.2.1, a0.2.2.1, a0.2.2.2.1, a0.2.2.2.2.1, a0.2.2.2.2.2.1, a0.2.2.2.2.2.2) a1 = _ from ref_task_is 20000 hn7 hn2 a0 a1 hL hi, Option.bind_some]
    have hlen : (lockedI 20000 a0 a1).1.length < 20000 := by
      unfold lockedI
      split
      · exact (by decide : 0 < 20000)
      · rename_i hz
        obtain ⟨hR, ⟨h0, h1⟩, h2, h3, h4⟩ := taskI_zero (Decidable.not_not.1 hz)
        have hc : (taskAt a0 a1).code.length ≤ 200 := (hR.task h0 h1).1.2.2.2.2.1
        have := sectI_len2 20000 (taskAt a0 a1).code
        rw [List.length_map]
        omega
    rw [if_pos (beq_self_eq_true _), if_pos (beq_self_eq_true _), if_pos (beq_self_eq_true _), same_ints 20000 hn2 _ _ hlen, Option.bind_some, if_pos (by simp), if_pos (beq_self_eq_true _), if_pos (beq_self_eq_true _), if_pos (beq_self_eq_true _), known12]
    rfl
end Go.Proofs.Dk

namespace Go.Proofs.Ytmacohlmfghffaa.checkTells
open Go.ChangeShapes Go.WideShapes Go.ChangeAt Go.RowKit Go.Proofs.Dk
open Go.ChangeMaps (open_string shut_string)
set_option linter.unusedVariables false
theorem own : ownKnob Try.prog.godebug = none := by kernel_rfl
theorem laidOut : laidOutB Try.prog = true := by kernel_rfl
set_option maxRecDepth 100000 in
theorem lifted (os : Os) (started : os.Started) (H : Type) (enc : TypeId × Value → H) :
    ReturnsInHanded {} Try.checked os 3 .any (Rows.checkTellsSpec.pre6 enc Try.prog Try.f3 Rows.checkTellsRow.domain false) (Rows.checkTellsSpec.post enc Try.prog Try.f3 false true false false) := by
  refine returnsInHanded_of_change_sized (C := Try.checked) own started (by kernel_rfl) Try.func3
    (ChangeSpec.witness6 (enc := enc) (C := Try.checked) false ⟨#[], #[.agg #[.int .i64 0, .int .i64 0, .int .i64 0, .int .i64 0, .slice none 0 0, .slice none 0 0, .slice none 0 0], .int .i64 0], []⟩ 8 (by kernel_rfl) (by kernel_rfl) (by kernel_rfl) (by kernel_rfl)) ?_
  intro W base args ds gs before hval0 hW hcnd hsz0 _
  have hval : ∀ (j : Nat) t v, Try.f3.params[j]? = some t → args[j]? = some v → Value.okWide Try.prog W .any base t v := hval0
  have hW' := hW
  obtain ⟨p, q, hA0, hV, rfl, hfz, hnd⟩ := hW
  have hA : DataW.TrodAll enc Try.prog W 0 (fun _ => true) true Try.f3.params.toList args.toList ds p := hA0
  rw [Try.params3] at hA hval
  obtain ⟨v0, vs0, d0, ds0, p0, q0, hargs, rfl, rfl, h0, r0⟩ := trodAll_cons hA
  obtain ⟨v1, vs1, d1, ds1, p1, q1, rfl, rfl, rfl, h1, r1⟩ := trodAll_cons r0
  obtain ⟨rfl, rfl, rfl⟩ := trodAll_nil r1
  obtain rfl : args = #[v0, v1] := by cases args; simp_all
  obtain ⟨rfl, rfl⟩ := trodVars_none hV
  have lt0 : ∀ x ∈ p0, x.block < W.heap.size := by have k := h0; obtain ⟨m, hm⟩ := k; exact DataW.trod_lt m _ _ _ hm
  obtain ⟨a0, vr0, ok0, kk0⟩ := opened3 (s := (.pair (.int .i64) (.pair (.int .i64) (.pair (.int .i64) (.pair (.int .i64) (.pair (.sl (.int .i64)) (.pair (.sl (.sl (.int .i64))) (.sl (.pair (.int .i64) (.pair (.int .i64) (.pair (.int .i64) (.pair (.int .i64) (.pair (.sl (.int .i64)) (.pair (.sl (.int .i64)) (.sl (.pair (.int .i64) (.pair (.int .i64) (.int .i64)))))))))))))))))) 9 (by kernel_rfl) (by kernel_rfl) (hval 0 26 v0 rfl rfl) h0
  have sm0 := opened_sm (s := (.pair (.int .i64) (.pair (.int .i64) (.pair (.int .i64) (.pair (.int .i64) (.pair (.sl (.int .i64)) (.pair (.sl (.sl (.int .i64))) (.sl (.pair (.int .i64) (.pair (.int .i64) (.pair (.int .i64) (.pair (.int .i64) (.pair (.sl (.int .i64)) (.pair (.sl (.int .i64)) (.sl (.pair (.int .i64) (.pair (.int .i64) (.int .i64)))))))))))))))))) 9 0 (t := 26) (by kernel_rfl) hsz0 rfl rfl kk0 h0
  have lt1 : ∀ x ∈ p1, x.block < W.heap.size := by have k := h1; obtain ⟨m, hm⟩ := k; exact DataW.trod_lt m _ _ _ hm
  obtain ⟨a1, vr1, ok1⟩ := opened (s := (.int .i64)) 9 (by kernel_rfl) (by kernel_rfl) (hval 1 3 v1 rfl rfl) h1
  obtain ⟨N, hN⟩ := camshaftlaw12_CheckTells_true a0 a1 ok0 ok1 sm0
  refine (law_calls (S := camshaftlaw12_CheckTells.fs N) (x := ((a0, a1, ()), ())) (y := true) (fun hH hA hx hρ hk => (camshaftlaw12_CheckTells.ok N).ok hH hA hx hρ hk) (A := [Sh.val (.pair (.int .i64) (.pair (.int .i64) (.pair (.int .i64) (.pair (.int .i64) (.pair (.sl (.int .i64)) (.pair (.sl (.sl (.int .i64))) (.sl (.pair (.int .i64) (.pair (.int .i64) (.pair (.int .i64) (.pair (.int .i64) (.pair (.sl (.int .i64)) (.pair (.sl (.int .i64)) (.sl (.pair (.int .i64) (.pair (.int .i64) (.int .i64))))))))))))))))) a0, Sh.val (.int .i64) a1]) (args := [v0, v1]) (.cons _ _ _ _ vr0 (.cons _ _ _ _ vr1 .nil)) (by kernel_rfl) hN (fun _ _ => rfl) (fun _ => rfl)).mono fun e W' hE => ?_
  obtain ⟨he, bel⟩ := hE
  subst he
  exact ⟨_, rfl, _, _, _, [], _, [], hW', trodAll_mk1 (shut_bool Try.underlying4 _), ⟨_, _, (Below.trod laidOut (by kernel_rfl) (of_decide_eq_true (by kernel_rfl)) h0 bel lt0), ⟨_, _, (Below.trod laidOut (by kernel_rfl) (of_decide_eq_true (by kernel_rfl)) h1 bel lt1), rfl, rfl⟩, rfl⟩, rfl, bel.frame _, fun h => by cases h⟩
theorem over : Rows.checkTellsRow.holds Try.pinned (OpenSpec.ofChange Rows.checkTellsSpec) :=
  OpenClaim.holds_of_wide 3 Try.f3 rfl rfl rfl rfl rfl rfl rfl ⟨rfl, rfl, rfl, rfl, rfl⟩ rfl rfl rfl rfl rfl (by kernel_rfl) Try.func3 (by kernel_rfl)
    (of_decide_eq_true (by kernel_rfl)) (by unfold Func.isWrapper; first | (rw [if_pos (by decide +kernel)]; kernel_rfl) | (rw [if_neg (by decide +kernel)]; exact ⟨rfl, rfl⟩))
    (fun os started H enc _ => lifted os started H enc)
theorem proved : Rows.CheckTellsSaid := over
#print axioms proved
end Go.Proofs.Ytmacohlmfghffaa.checkTells
namespace Go.Proofs.Ytmacohlmfghffaa
theorem checkTells_holds : Rows.CheckTellsSaid := checkTells.proved
end Go.Proofs.Ytmacohlmfghffaa
