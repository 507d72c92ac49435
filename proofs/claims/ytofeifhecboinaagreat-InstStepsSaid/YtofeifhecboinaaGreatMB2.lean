/- A part of the proofs: Templates: what is read off is what can be laid under other names. -/
import Derived.Test.YtofeifhecboinaaGreatMB1
import Derived.OpenShut
import Derived.ProofKit
import Derived.Deep.Slices
import Derived.Below
import Derived.SizedLaws
import Derived.ScopeJumps
import Derived.Deep.Quiet
import Derived.Orders
import Derived.Deep.Draws
import Derived.Test.YtofeifhecboinaaGreatProg
import Derived.Tactics2
import Derived.RowKit
import Derived.KernelRfl
import Derived.Maps.OwnSet
import Derived.BigFrame
import Derived.WideLaws
import Derived.WalkKit
import Derived.RowKit3
import Derived.OwnWalk
import Derived.OrdersHeld
import Derived.Maps.AppendAt
import Derived.Lib.ConvBytes
import Derived.Lib.AppendStr
import Derived.Laws.Slices
import Derived.Laws.Rows
import Derived.Laws.OwnMore
import Derived.Laws.MakeOwn
import Derived.Laws.IdiomCopy
import Derived.Laws.BytesArg
import Derived.Laws.BitsLemmas
import Derived.Deep.RegionHeld3
import Derived.Deep.QuietTactic
import Derived.Deep.OwnRows
import Derived.Deep.LoopGhost
import Derived.Deep.DeepCutAuto
import Derived.Deep.CutBlock
import Derived.Deep.AppendLies
import Derived.BigQuiet
import Derived.ArgAppend
import Derived.Scope
set_option linter.unusedVariables false
set_option linter.unusedSimpArgs false
noncomputable section
namespace Go.Proofs.Dk
open Go Go.RowKit
section
variable {I I2 : In} {w : World} {H : Heap} {ρ : Nam}
theorem Hx {s : Sh} {d : DV} {v : Value} {x : s.T} (hv : VR I w d v) (h : wE s d = some x) (hR : I2.R = I.R) : VR I2 w (s.val x) v := by
 have K2 : ∀ {cs : List Value}, s.K I.R w x cs → s.K I2.R w x cs := fun h => by rw [hR]; exact h
 unfold wE at h
 split at h
 ·rename_i hm
  split at h
  ·rename_i cs
   split at h
   ·rename_i y hy
    simp only [aa] at h
    subst h
    cases hv with | agg _ cs' hc =>
    obtain ⟨c1, c2, e, h1, h2⟩ := Sh.dec_ok hy hc
    cases h2
    rw [aK] at e
    subst e
    unfold Sh.val
    rw [if_pos hm]
    exact .agg _ _ (Sh.enc_ok (K2 h1))
   ·cases h
  ·cases h
 ·rename_i hm
  split at h
  ·rename_i y hy
   simp only [aa] at h
   subst h
   have h1c : CR I w [d] [v] := by
    cases hv with
    | sc _ h1 => exact .one _ _ _ _ (.sc _ h1) h1 .nil
    | vs s' xs _ hk => exact .one _ _ _ _ (.vs s' xs _ hk) (Sh.K_one hk v (by simp)) .nil
    | _ => cases s <;> first | (exact absurd rfl hm) | (simp [Sh.dec] at hy)
   obtain ⟨c1, c2, e, h1, h2⟩ := Sh.dec_ok hy h1c
   cases h2
   rw [aK] at e
   subst e
   have hC := Sh.enc_ok (K2 h1)
   unfold Sh.val
   rw [if_neg hm]
   cases s with
   | int k => cases hC with | one d r u cs h hu hr => exact h
   | bool => cases hC with | one d r u cs h hu hr => exact h
   | str => cases hC with | one d r u cs h hu hr => exact h
   | sl e => cases hC with | one d r u cs h hu hr => exact h
   | pair a b => exact absurd rfl hm
   | arr n e => exact absurd rfl hm
  ·cases h
theorem Hy {E : TypeId} {s : Sh} {d : DV} {v : Value} {xs : List s.T} {u : List Nat} (hH : HR I w H) (hv : VR I w d v) (h : jm H E s d = some (xs, u)) :
  ∃ cs, w.ownsRow 0 E s.sz v xs.length cs ∧ (Sh.arr xs.length s).K I.R w xs cs ∧ (∃ A l c, v = .slice A l c) ∧ ((u = [] ∧ v.ownBlock = none) ∨ ∃ n sz v0, u = [n] ∧ I.ι n = some (.row sz v0) ∧ v.ownBlock = v0.ownBlock) := by
 unfold jm at h
 split at h
 ·rename_i n c
  obtain rfl := hv.sc_eq
  split at h
  ·rename_i hn
   split at h
   ·rename_i hc
    subst hn hc
    simp only [aa, ah] at h
    obtain ⟨rfl, rfl⟩ := h
    exact ⟨[], ⟨by simp, .inl ⟨rfl, rfl⟩⟩, yV s, ⟨_, _, _, rfl⟩, .inl ⟨rfl, rfl⟩⟩
   ·cases h
  ·cases h
 ·rename_i n
  cases hv with | rw _ sz v hi hs =>
  split at h
  ·rename_i E' s' xs' hrow
   split at h
   ·rename_i hE
    subst hE
    split at h
    ·rename_i hs' hq
     cases hs'
     simp only [aa, ah] at h
     obtain ⟨rfl, rfl⟩ := h
     obtain ⟨v0, cs, m1, m2, m3⟩ := hH.row n E' s xs' hrow
     rw [hi] at m1
     simp only [aa, Ent.row.injEq] at m1
     obtain ⟨rfl, rfl⟩ := m1
     exact ⟨cs, m2, m3, hs, .inr ⟨n, _, _, rfl, hi, rfl⟩⟩
    ·cases h
   ·cases h
  ·cases h
 ·rename_i n o l
  cases hv with | sl _ _ _ sz A A' len cap cap' hi hl h0' h1' hc' =>
  split at h
  ·rename_i E' s' xs' hrow
   split at h
   ·rename_i ho
    subst ho
    split at h
    ·rename_i hE
     subst hE
     split at h
     ·rename_i hs' hq
      cases hs'
      simp only [aa, ah] at h
      obtain ⟨rfl, rfl⟩ := h
      obtain ⟨rfl, rfl⟩ := h0' rfl
      obtain ⟨v0, cs, m1, m2, m3⟩ := hH.row n E' s xs' hrow
      rw [hi] at m1
      simp only [aa, Ent.row.injEq] at m1
      obtain ⟨rfl, rfl⟩ := m1
      obtain ⟨_, rfl, _, _⟩ := jq hH hrow hi
      have hl' : l ≤ xs'.length := by omega
      have hlen : (xs'.take l).length = l := by simp; omega
      refine ⟨cs.take (l * s.sz), ?_, wP m3 hl', ⟨_, _, _, rfl⟩, .inr ⟨n, _, _, rfl, hi, ?_⟩⟩
      ·rw [hlen]
       rcases m2.2 with ⟨e, e0⟩ | ⟨g, c', cur, e, _⟩
       ·simp only [Value.slice.injEq] at e
        obtain ⟨rfl, _, rfl⟩ := e
        have : l = 0 := by omega
        subst this
        exact ⟨by simp, .inl ⟨rfl, rfl⟩⟩
       ·simp only [Value.slice.injEq] at e
        obtain ⟨rfl, _, rfl⟩ := e
        exact rP m2 hl'
      ·cases A' <;> rfl
     ·cases h
    ·cases h
   ·cases h
  ·cases h
 ·cases h
abbrev RE := Nat × Ent × Option Nat
def r7 (I : In) (q : RE) : Prop := (∃ sz v, q.2.1 = .row sz v) ∧ match q.2.2 with
 | none => q.2.1.blk = none
 | some n => ∃ e, I.ι n = some e ∧ (∃ sz v, e = .row sz v) ∧ q.2.1.blk = e.blk
structure Cov (I I2 : In) (ρ : Nam) (m : Met) (es : List RE) : Prop where
 R : I2.R = I.R
 o : ∀ i n, (i, n) ∈ m.σ → I2.ι (ρ.o i) = I.ι n
 r : ∀ q ∈ es, I2.ι (ρ.r q.1) = some q.2.1
theorem Met.get_mem {m : Met} {i n : Nat} (h : m.get i = some n) : (i, n) ∈ m.σ := by
 unfold Met.get at h
 cases hf : m.σ.find? (fun e => e.1 == i) with
 | none => rw [hf] at h; cases h
 | some e =>
  rw [hf] at h
  simp only [bs, aa] at h
  have h1 := ce hf
  have h2 := cf hf
  simp only [ae] at h1
  rw [← h1, ← h]
  exact h2
structure Grow (m m' : Met) (es : List RE) : Prop where
 σ : ∀ e ∈ m.σ, e ∈ m'.σ
 u : m'.u = (es.filterMap (·.2.2)).reverse ++ m.u
theorem Grow.refl (m : Met) : Grow m m [] := ⟨fun _ h => h, rfl⟩
theorem Grow.trans {m m1 m2 : Met} {es es' : List RE} (h : Grow m m1 es) (k : Grow m1 m2 es') : Grow m m2 (es ++ es') :=
 ⟨fun e he => k.σ e (h.σ e he), by rw [k.u, h.u, List.filterMap_append, List.reverse_append, aL]⟩
theorem Cov.left {m m' : Met} {es es' : List RE} (h : Cov I I2 ρ m' (es ++ es')) (hσ : ∀ e ∈ m.σ, e ∈ m'.σ) : Cov I I2 ρ m es := ⟨h.R, fun i n hn => h.o i n (hσ _ hn), fun q hq => h.r q (bh _ hq)⟩
theorem Cov.right {m : Met} {es es' : List RE} (h : Cov I I2 ρ m (es ++ es')) : Cov I I2 ρ m es' := ⟨h.R, h.o, fun q hq => h.r q (bD _ hq)⟩
theorem pq {n i : Nat} {v : Value} (hv : VR I w (.ptr n 0 []) v) (h : I2.ι (ρ.o i) = I.ι n) : VR I2 w (.ptr (ρ.o i) 0 []) v := by
 cases hv with | ptr _ _ _ b h1 h2 => exact .ptr _ _ _ b (h.trans h1) h2
theorem xi : ∀ {is : List Nat} {l : List DV} {vs : List Value} {m m' : Met}, pk is l m = some m' → LR I w l vs → Grow m m' [] ∧ ∀ I2, Cov I I2 ρ m' [] → LR I2 w (is.map fun i => .ptr (ρ.o i) 0 []) vs
 | [], l, vs, m, m', h, hl => by
  simp only [pk] at h
  split at h
  ·rename_i he
   simp only [aa] at h
   subst h
   cases l with
   | nil => cases hl with | nil => exact ⟨Grow.refl m, fun I2 _ => .nil⟩
   | cons a b => simp at he
  ·cases h
 | i :: r, l, vs, m, m', h, hl => by
  simp only [pk] at h
  split at h
  ·rename_i n l'
   cases hl with | cons _ _ u us hd hr =>
   split at h
   ·rename_i n' hn
    split at h
    ·rename_i e
     subst e
     obtain ⟨h1, h2⟩ := xi h hr
     exact ⟨h1, fun I2 hc => .cons _ _ _ _ (pq hd (hc.o i n (h1.σ _ (Met.get_mem hn)))) (h2 I2 hc)⟩
    ·cases h
   ·obtain ⟨h1, h2⟩ := xi h hr
    exact ⟨⟨fun e he => h1.σ e (aB _ he), h1.u⟩, fun I2 hc => .cons _ _ _ _ (pq hd (hc.o i n (h1.σ _ (aM ..)))) (h2 I2 hc)⟩
  ·cases h
def LaidR (I2 : In) (w : World) (f : Heap → Heap) (ns : List Nat) : Prop := ∀ H0 n, (∀ b, f H0 n = some b → BR I2 w n b ∨ H0 n = some b) ∧ (f H0 n = none → H0 n = none ∧ n ∉ ns)
theorem LaidR.id : LaidR I2 w (fun H => H) [] := fun H0 n => ⟨fun b h => .inr h, fun h => ⟨h, by simp⟩⟩
theorem LaidR.set {n0 : Nat} {b0 : Blk} {f : Heap → Heap} {ns : List Nat} (hb : BR I2 w n0 b0) (hf : LaidR I2 w f ns) : LaidR I2 w (fun H => f (H.set n0 (some b0))) (n0 :: ns) := by
 intro H0 n
 obtain ⟨h1, h2⟩ := hf (H0.set n0 (some b0)) n
 refine ⟨fun b h => ?_, fun h => ?_⟩
 ·rcases h1 b h with h3 | h3
  ·exact .inl h3
  ·by_cases hn : n = n0
   ·subst hn
    rw [Heap.set_same] at h3
    simp only [aa] at h3
    subst h3
    exact .inl hb
   ·rw [fB hn] at h3
    exact .inr h3
 ·obtain ⟨h3, h4⟩ := h2 h
  by_cases hn : n = n0
  ·subst hn
   rw [Heap.set_same] at h3
   cases h3
  ·rw [fB hn] at h3
   exact ⟨h3, by simp [hn, h4]⟩
end
section
variable {I : In} {w : World} {H : Heap} {ρ : Nam}
theorem CV {I2 : In} {E : TypeId} {s : Sh} {d : DV} {v : Value} {xs : List s.T} {u : List Nat} {m : Met} (hH : HR I w H) (hv : VR I w d v) (h : jm H E s d = some (xs, u)) (c : Nat) : ∃ q : RE, q.1 = c ∧ Grow m ⟨m.σ, u ++ m.u⟩ [q] ∧ r7 I q ∧ ∀ I2, I2.R = I.R → I2.ι (ρ.r c) = some q.2.1 → VR I2 w (.rw (ρ.r c)) v ∧ BR I2 w (ρ.r c) (.row E s xs) ∧ v.oneCell' = true := by
 obtain ⟨cs, h1, h2, ⟨A, l, cp, rfl⟩, h4⟩ := Hy hH hv h
 have fin : ∀ I2 : In, I2.R = I.R → I2.ι (ρ.r c) = some (.row s.sz (.slice A l cp)) → VR I2 w (.rw (ρ.r c)) (.slice A l cp) ∧ BR I2 w (ρ.r c) (.row E s xs) ∧ (Value.slice A l cp).oneCell' = true := by
  intro I2 hR hr
  exact ⟨.rw _ _ _ hr ⟨_, _, _, rfl⟩, ⟨_, cs, hr, h1, by rw [hR]; exact h2⟩, rfl⟩
 rcases h4 with ⟨rfl, h5⟩ | ⟨n, sz, v0, rfl, h5, h6⟩
 ·exact ⟨(c, .row s.sz (.slice A l cp), none), rfl, ⟨fun _ h => h, rfl⟩, ⟨⟨_, _, rfl⟩, h5⟩, fin⟩
 ·exact ⟨(c, .row s.sz (.slice A l cp), some n), rfl, ⟨fun _ h => h, rfl⟩, ⟨⟨_, _, rfl⟩, _, h5, ⟨_, _, rfl⟩, h6⟩, fin⟩
theorem xj {es es' : List RE} (h : ∀ q ∈ es, r7 I q) (h' : ∀ q ∈ es', r7 I q) : ∀ q ∈ es ++ es', r7 I q := fun q hq => (az.1 hq).elim (h q) (h' q)
theorem kU (hH : HR I w H) : ∀ {ks : List IK} {c : Nat} {T : List DV} {vals : Nat → Value} {m : Met} {x : hP ks} {m' : Met}, eb H ks T m = some (x, m') → (∀ i, VR I w (T.getD i .undef) (vals i)) →
  ∃ es, Grow m m' es ∧ (∀ q ∈ es, r7 I q) ∧ es.map (fun q => ρ.r q.1) = dV ρ c ks ∧ ks.length ≤ T.length ∧ ∀ I2, Cov I I2 ρ m' es → (∀ i, VR I2 w ((mW ρ c ks x).getD i .undef) (vals i)) ∧ LaidR I2 w (fC ρ c ks x) (dV ρ c ks)
 | [], c, T, vals, m, x, m', h, hV => by
  cases T with
  | cons d r => simp only [eb] at h; cases h
  | nil =>
  simp only [eb, aa, ah] at h
  obtain ⟨_, rfl⟩ := h
  exact ⟨[], Grow.refl m, fun q h => by simp at h, rfl, aq _, fun I2 hc => ⟨fun i => by simp only [mW]; exact .undef _, fun H0 n => by simp only [fC]; exact LaidR.id H0 n⟩⟩
 | .any :: r, c, T, vals, m, x, m', h, hV => by
  simp only [eb] at h
  split at h
  ·rename_i d T
   obtain ⟨es, h1, h2, h3, h4, h5⟩ := kU (c := c + 1) (vals := fun i => vals (i + 1)) hH h (fun i => hV (i + 1))
   refine ⟨es, h1, h2, h3, bT h4, fun I2 hc => ?_⟩
   obtain ⟨g1, g2⟩ := h5 I2 hc
   exact ⟨fun i => by cases i with
    | zero => exact .undef _
    | succ i => exact g1 i, fun H0 n => by simp only [fC, dV]; exact g2 H0 n⟩
  ·cases h
 | .val s :: r, c, T, vals, m, x, m', h, hV => by
  simp only [eb] at h
  split at h
  ·rename_i d T
   split at h
   ·rename_i y hy
    split at h
    ·rename_i z m1 hz
     simp only [aa, ah] at h
     obtain ⟨rfl, rfl⟩ := h
     obtain ⟨es, h1, h2, h3, h4, h5⟩ := kU (c := c + 1) (vals := fun i => vals (i + 1)) hH hz (fun i => hV (i + 1))
     refine ⟨es, h1, h2, h3, bT h4, fun I2 hc => ?_⟩
     obtain ⟨g1, g2⟩ := h5 I2 hc
     exact ⟨fun i => by cases i with
      | zero => exact Hx (hV 0) hy hc.R
      | succ i => exact g1 i, fun H0 n => by simp only [fC, dV]; exact g2 H0 n⟩
    ·cases h
   ·cases h
  ·cases h
 | .agf s F :: r, c, T, vals, m, x, m', h, hV => by
  simp only [eb] at h
  split at h
  ·rename_i ds T
   split at h
   ·rename_i y F' hy
    split at h
    ·rename_i hF
     subst hF
     split at h
     ·rename_i z m1 hz
      simp only [aa, ah] at h
      obtain ⟨rfl, rfl⟩ := h
      obtain ⟨es, h1, h2, h3, h4, h5⟩ := kU (c := c + 1) (vals := fun i => vals (i + 1)) hH hz (fun i => hV (i + 1))
      refine ⟨es, h1, h2, h3, bT h4, fun I2 hc => ?_⟩
      obtain ⟨g1, g2⟩ := h5 I2 hc
      refine ⟨fun i => ?_, fun H0 n => by simp only [fC, dV]; exact g2 H0 n⟩
      cases i with
      | zero =>
       have h0 := hV 0
       simp only [List.getD_cons_zero] at h0
       generalize vals 0 = v0 at h0
       cases h0 with | agg _ cs hcs =>
       obtain ⟨c1, c2, e, k1, k2⟩ := Sh.dec_ok hy hcs
       show VR I2 w (.agg (s.enc y ++ [.fn (.func F') [] []])) _
       refine .agg _ _ ?_
       rw [e]
       refine CR.append (Sh.enc_ok (by rw [hc.R]; exact k1)) ?_
       cases k2 with | one _ _ u us hd hu hr =>
       cases hr
       obtain ⟨x', y', rfl, e1, e2⟩ := hd.fn_case
       refine .one _ _ _ _ (.fn _ _ _ x' y' ?_ ?_) hu .nil
       ·generalize x'.toList = l at e1 ⊢; cases e1; exact .nil
       ·generalize y'.toList = l at e2 ⊢; cases e2; exact .nil
      | succ i => exact g1 i
     ·cases h
    ·cases h
   ·cases h
  ·cases h
 | .row E s :: r, c, T, vals, m, x, m', h, hV => by
  simp only [eb] at h
  split at h
  ·rename_i d T
   split at h
   ·rename_i xs u hy
    split at h
    ·rename_i z m1 hz
     simp only [aa, ah] at h
     obtain ⟨rfl, rfl⟩ := h
     obtain ⟨q, k1, k2, k3, k4⟩ := CV (ρ := ρ) (I2 := I) (m := m) hH (hV 0) hy c
     obtain ⟨es, h1, h2, h3, h4, h5⟩ := kU (c := c + 1) (vals := fun i => vals (i + 1)) hH hz (fun i => hV (i + 1))
     refine ⟨[q] ++ es, k2.trans h1, xj (fun p hp => by simp at hp; subst hp; exact k3) h2, by simp [dV, k1, h3], bT h4, fun I2 hc => ?_⟩
     obtain ⟨g1, g2⟩ := h5 I2 hc.right
     obtain ⟨f1, f2, f3⟩ := k4 I2 hc.R (by rw [← k1]; exact hc.r q (by simp))
     exact ⟨fun i => by cases i with
      | zero => exact f1
      | succ i => exact g1 i, fun H0 n => by simp only [fC, dV]; exact LaidR.set f2 g2 H0 n⟩
    ·cases h
   ·cases h
  ·cases h
 | .obj i :: r, c, T, vals, m, x, m', h, hV => by
  simp only [eb] at h
  split at h
  ·rename_i n T
   split at h
   ·rename_i n' hn
    split at h
    ·rename_i e
     subst e
     obtain ⟨es, h1, h2, h3, h4, h5⟩ := kU (c := c + 1) (vals := fun i => vals (i + 1)) hH h (fun i => hV (i + 1))
     refine ⟨es, h1, h2, h3, bT h4, fun I2 hc => ?_⟩
     obtain ⟨g1, g2⟩ := h5 I2 hc
     exact ⟨fun j => by cases j with
      | zero => exact pq (hV 0) (hc.o i n (h1.σ _ (Met.get_mem hn)))
      | succ j => exact g1 j, fun H0 n => by simp only [fC, dV]; exact g2 H0 n⟩
    ·cases h
   ·obtain ⟨es, h1, h2, h3, h4, h5⟩ := kU (c := c + 1) (vals := fun i => vals (i + 1)) hH h (fun i => hV (i + 1))
    refine ⟨es, ⟨fun e he => h1.σ e (aB _ he), h1.u⟩, h2, h3, bT h4, fun I2 hc => ?_⟩
    obtain ⟨g1, g2⟩ := h5 I2 hc
    exact ⟨fun j => by cases j with
     | zero => exact pq (hV 0) (hc.o i n (h1.σ _ (aM ..)))
     | succ j => exact g1 j, fun H0 n => by simp only [fC, dV]; exact g2 H0 n⟩
  ·cases h
 | .clo F is :: r, c, T, vals, m, x, m', h, hV => by
  simp only [eb] at h
  split at h
  ·rename_i F' caps T
   split at h
   ·rename_i hF
    subst hF
    split at h
    ·rename_i m1 hm
     obtain ⟨x', y', e, e1, e2⟩ := (hV 0).fn_case
     obtain ⟨p1, p2⟩ := xi (ρ := ρ) hm e2
     obtain ⟨es, h1, h2, h3, h4, h5⟩ := kU (c := c + 1) (vals := fun i => vals (i + 1)) hH h (fun i => hV (i + 1))
     refine ⟨es, by simpa using p1.trans h1, h2, h3, bT h4, fun I2 hc => ?_⟩
     obtain ⟨g1, g2⟩ := h5 I2 hc
     refine ⟨fun j => ?_, fun H0 n => by simp only [fC, dV]; exact g2 H0 n⟩
     cases j with
     | zero =>
      show VR I2 w (.fn (.func F') [] _) _
      rw [e]
      refine .fn _ _ _ x' y' ?_ (p2 I2 ⟨hc.R, fun i n hn => hc.o i n (h1.σ _ hn), fun q hq => by simp at hq⟩)
      generalize x'.toList = l at e1 ⊢
      cases e1
      exact .nil
     | succ j => exact g1 j
    ·cases h
   ·cases h
  ·cases h
end
section
variable {I : In} {w : World} {H : Heap} {ρ : Nam}
theorem ms (hH : HR I w H) : ∀ {ks : List IK} {c : Nat} {T : List DV} {vals : List Value} {m : Met} {x : hP ks} {m' : Met}, fU H ks T m = some (x, m') → CR I w T vals →
  ∃ es, Grow m m' es ∧ (∀ q ∈ es, r7 I q) ∧ es.map (fun q => ρ.r q.1) = dV ρ c ks ∧ ∀ I2, Cov I I2 ρ m' es → CR I2 w (ol ρ c ks x) vals ∧ LaidR I2 w (fC ρ c ks x) (dV ρ c ks)
 | [], c, T, vals, m, x, m', h, hV => by
  simp only [fU] at h
  split at h
  ·simp only [aa, ah] at h
   obtain ⟨_, rfl⟩ := h
   cases hV
   exact ⟨[], Grow.refl m, fun q h => by simp at h, rfl, fun I2 hc => ⟨.nil, fun H0 n => by simp only [fC]; exact LaidR.id H0 n⟩⟩
  ·cases h
 | .any :: r, c, T, vals, m, x, m', h, hV => by
  simp only [fU] at h
  split at h
  ·cases h
  ·rename_i d T hd
   cases hV with
   | one _ _ u us hv hu hr =>
    obtain ⟨es, h1, h2, h3, h5⟩ := ms (c := c + 1) hH h hr
    refine ⟨es, h1, h2, h3, fun I2 hc => ?_⟩
    obtain ⟨g1, g2⟩ := h5 I2 hc
    exact ⟨.one _ _ _ _ (.undef u) hu g1, fun H0 n => by simp only [fC, dV]; exact g2 H0 n⟩
   | arr s n xs _ c1 c2 hk h1 hr => exact (hd s n xs rfl).elim
  ·cases h
 | .val s :: r, c, T, vals, m, x, m', h, hV => by
  simp only [fU] at h
  split at h
  ·rename_i y T' hy
   split at h
   ·rename_i z m1 hz
    simp only [aa, ah] at h
    obtain ⟨rfl, rfl⟩ := h
    obtain ⟨c1, c2, rfl, k1, k2⟩ := Sh.dec_ok hy hV
    obtain ⟨es, h1, h2, h3, h5⟩ := ms (c := c + 1) hH hz k2
    refine ⟨es, h1, h2, h3, fun I2 hc => ?_⟩
    obtain ⟨g1, g2⟩ := h5 I2 hc
    exact ⟨CR.append (Sh.enc_ok (by rw [hc.R]; exact k1)) g1, fun H0 n => by simp only [fC, dV]; exact g2 H0 n⟩
   ·cases h
  ·cases h
 | .agf s F :: r, c, T, vals, m, x, m', h, hV => by
  simp only [fU] at h
  split at h
  ·rename_i y F' T' hy
   split at h
   ·rename_i hF
    subst hF
    split at h
    ·rename_i z m1 hz
     simp only [aa, ah] at h
     obtain ⟨rfl, rfl⟩ := h
     obtain ⟨c1, c2, rfl, k1, k2⟩ := Sh.dec_ok hy hV
     cases k2 with | one _ _ u us hd hu hr =>
     obtain ⟨x', y', rfl, e1, e2⟩ := hd.fn_case
     obtain ⟨es, h1, h2, h3, h5⟩ := ms (c := c + 1) hH hz hr
     refine ⟨es, h1, h2, h3, fun I2 hc => ?_⟩
     obtain ⟨g1, g2⟩ := h5 I2 hc
     refine ⟨?_, fun H0 n => by simp only [fC, dV]; exact g2 H0 n⟩
     show CR I2 w ((s.enc y ++ [.fn (.func F') [] []]) ++ ol ρ (c + 1) r z) _
     rw [aL]
     refine CR.append (Sh.enc_ok (by rw [hc.R]; exact k1)) ?_
     refine .one _ _ _ _ (.fn _ _ _ x' y' ?_ ?_) hu g1
     ·generalize x'.toList = l at e1 ⊢; cases e1; exact .nil
     ·generalize y'.toList = l at e2 ⊢; cases e2; exact .nil
    ·cases h
   ·cases h
  ·cases h
 | .row E s :: r, c, T, vals, m, x, m', h, hV => by
  simp only [fU] at h
  split at h
  ·rename_i d T
   split at h
   ·rename_i xs u hy
    split at h
    ·rename_i z m1 hz
     simp only [aa, ah] at h
     obtain ⟨rfl, rfl⟩ := h
     cases hV with
     | one _ _ u0 us hv hu hr =>
      obtain ⟨q, k1, k2, k3, k4⟩ := CV (ρ := ρ) (I2 := I) (m := m) hH hv hy c
      obtain ⟨es, h1, h2, h3, h5⟩ := ms (c := c + 1) hH hz hr
      refine ⟨[q] ++ es, k2.trans h1, xj (fun p hp => by simp at hp; subst hp; exact k3) h2, by simp [dV, k1, h3], fun I2 hc => ?_⟩
      obtain ⟨g1, g2⟩ := h5 I2 hc.right
      obtain ⟨f1, f2, f3⟩ := k4 I2 hc.R (by rw [← k1]; exact hc.r q (by simp))
      exact ⟨.one _ _ _ _ f1 f3 g1, fun H0 n => by simp only [fC, dV]; exact LaidR.set f2 g2 H0 n⟩
     | arr => simp [jm] at hy
    ·cases h
   ·cases h
  ·cases h
 | .obj i :: r, c, T, vals, m, x, m', h, hV => by
  simp only [fU] at h
  split at h
  ·rename_i n T
   cases hV with | one _ _ u0 us hv hu hr =>
   split at h
   ·rename_i n' hn
    split at h
    ·rename_i e
     subst e
     obtain ⟨es, h1, h2, h3, h5⟩ := ms (c := c + 1) hH h hr
     refine ⟨es, h1, h2, h3, fun I2 hc => ?_⟩
     obtain ⟨g1, g2⟩ := h5 I2 hc
     exact ⟨.one _ _ _ _ (pq hv (hc.o i n (h1.σ _ (Met.get_mem hn)))) hu g1, fun H0 n => by simp only [fC, dV]; exact g2 H0 n⟩
    ·cases h
   ·obtain ⟨es, h1, h2, h3, h5⟩ := ms (c := c + 1) hH h hr
    refine ⟨es, ⟨fun e he => h1.σ e (aB _ he), h1.u⟩, h2, h3, fun I2 hc => ?_⟩
    obtain ⟨g1, g2⟩ := h5 I2 hc
    exact ⟨.one _ _ _ _ (pq hv (hc.o i n (h1.σ _ (aM ..)))) hu g1, fun H0 n => by simp only [fC, dV]; exact g2 H0 n⟩
  ·cases h
 | .clo F is :: r, c, T, vals, m, x, m', h, hV => by
  simp only [fU] at h
  split at h
  ·rename_i F' caps T
   split at h
   ·rename_i hF
    subst hF
    split at h
    ·rename_i m1 hm
     cases hV with | one _ _ u0 us hv hu hr =>
     obtain ⟨x', y', rfl, e1, e2⟩ := hv.fn_case
     obtain ⟨p1, p2⟩ := xi (ρ := ρ) hm e2
     obtain ⟨es, h1, h2, h3, h5⟩ := ms (c := c + 1) hH h hr
     refine ⟨es, by simpa using p1.trans h1, h2, h3, fun I2 hc => ?_⟩
     obtain ⟨g1, g2⟩ := h5 I2 hc
     refine ⟨.one _ _ _ _ (.fn _ _ _ x' y' ?_ (p2 I2 ⟨hc.R, fun i n hn => hc.o i n (h1.σ _ hn), fun q hq => by simp at hq⟩)) hu g1, fun H0 n => by simp only [fC, dV]; exact g2 H0 n⟩
     generalize x'.toList = l at e1 ⊢
     cases e1
     exact .nil
    ·cases h
   ·cases h
  ·cases h
def qB (ρ : Nam) : Nat → List (List IK) → List Nat
 | _, [] => []
 | i, _ :: r => ρ.o i :: qB ρ (i + 1) r
theorem LaidR.comp {I2 : In} {f g : Heap → Heap} {ns ns' : List Nat} (hf : LaidR I2 w f ns) (hg : LaidR I2 w g ns') : LaidR I2 w (fun H => g (f H)) (ns ++ ns') := by
 intro H0 n
 obtain ⟨g1, g2⟩ := hg (f H0) n
 obtain ⟨f1, f2⟩ := hf H0 n
 refine ⟨fun b h => (g1 b h).elim .inl (f1 b), fun h => ?_⟩
 obtain ⟨h1, h2⟩ := g2 h
 obtain ⟨h3, h4⟩ := f2 h1
 exact ⟨h3, by simp [h2, h4]⟩
theorem Bg (hH : HR I w H) : ∀ {os : List (List IK)} {i : Nat} {m : Met} {x : oS os} {m' : Met}, mX H i os m = some (x, m') →
  ∃ es, Grow m m' es ∧ (∀ q ∈ es, r7 I q) ∧ (fP ρ i os).Perm (es.map (fun q => ρ.r q.1) ++ qB ρ i os) ∧ (∀ j, j < os.length → ∃ n b, (i + j, n) ∈ m'.σ ∧ I.ι n = some (.obj b)) ∧ ∀ I2, Cov I I2 ρ m' es → LaidR I2 w (rC ρ i os x) (fP ρ i os)
 | [], i, m, x, m', h => by
  simp only [mX, aa, ah] at h
  obtain ⟨_, rfl⟩ := h
  exact ⟨[], Grow.refl m, fun q h => by simp at h, .refl _, fun j hj => by simp at hj, fun I2 hc H0 n => by simp only [rC]; exact LaidR.id H0 n⟩
 | k :: r, i, m, x, m', h => by
  simp only [mX] at h
  split at h
  ·rename_i n hn
   split at h
   ·rename_i cs hcs
    split at h
    ·rename_i y m1 hy
     split at h
     ·rename_i z m2 hz
      simp only [aa, ah] at h
      obtain ⟨rfl, rfl⟩ := h
      obtain ⟨b, c, t, b1, b2, b3⟩ := hH.obj n cs hcs
      obtain ⟨es, h1, h2, h3, h4⟩ := ms (ρ := ρ) (c := 1000 * (i + 1)) hH hy b3
      obtain ⟨es', k1, k2, k3, k4, k5⟩ := Bg (i := i + 1) hH hz
      refine ⟨es ++ es', h1.trans k1, xj h2 k2, ?_, fun j hj => ?_, fun I2 hc => ?_⟩
      ·simp only [fP, qB, List.map_append, h3]
       refine (List.Perm.cons _ (List.Perm.append_left _ k3)).trans ?_
       rw [← aL]
       exact List.perm_middle.symm
      ·cases j with
       | zero => exact ⟨n, b, k1.σ _ (h1.σ _ (Met.get_mem hn)), b1⟩
       | succ j =>
        obtain ⟨n', b', e1, e2⟩ := k4 j (by simpa using hj)
        exact ⟨n', b', by rw [show i + (j + 1) = i + 1 + j by omega]; exact e1, e2⟩
      ·obtain ⟨g1, g2⟩ := h4 I2 (hc.left k1.σ)
       have g3 := k5 I2 hc.right
       have hbr : BR I2 w (ρ.o i) (.obj (ol ρ (1000 * (i + 1)) k y)) := ⟨b, c, t, (hc.o i n (k1.σ _ (h1.σ _ (Met.get_mem hn)))).trans b1, b2, g1⟩
       intro H0 q
       simp only [rC, fP]
       have := LaidR.comp (LaidR.set hbr g2) g3 H0 q
       simpa using this
     ·cases h
    ·cases h
   ·cases h
  ·cases h
theorem mu : ∀ {l : List Nat}, kK l = true → l.Nodup
 | [], _ => List.nodup_nil
 | a :: r, h => by
  simp only [kK, ai, b9] at h
  rw [bN]
  exact ⟨by rw [← List.contains_iff_mem, h.1]; simp, mu h.2⟩
end
theorem fK {α β : Type} {f : α → β} : ∀ {l : List α}, (l.map f).Nodup → ∀ {a b : α}, a ∈ l → b ∈ l → f a = f b → a = b
 | [], _, a, b, ha, _, _ => by simp at ha
 | c :: r, h, a, b, ha, hb, e => by
  rw [List.map_cons, bN] at h
  rcases aC.1 ha with rfl | ha'
  ·rcases aC.1 hb with rfl | hb'
   ·rfl
   ·exact absurd (e ▸ bn hb') h.1
  ·rcases aC.1 hb with rfl | hb'
   ·exact absurd (e ▸ bn ha') h.1
   ·exact fK h.2 ha' hb' e
theorem lx {α β : Type} {f : α → Option β} : ∀ {l : List α}, (l.filterMap f).Nodup → ∀ {a b : α} {o : β}, a ∈ l → b ∈ l → f a = some o → f b = some o → a = b
 | [], _, a, b, o, ha, _, _, _ => by simp at ha
 | c :: r, h, a, b, o, ha, hb, e, e' => by
  rw [List.filterMap_cons] at h
  have tl : (r.filterMap f).Nodup := by
   split at h
   ·exact h
   ·exact (bN.1 h).2
  rcases aC.1 ha with rfl | ha'
  ·rcases aC.1 hb with rfl | hb'
   ·rfl
   ·rw [e] at h
    exact absurd (List.mem_filterMap.2 ⟨b, hb', e'⟩) (bN.1 h).1
  ·rcases aC.1 hb with rfl | hb'
   ·rw [e'] at h
    exact absurd (List.mem_filterMap.2 ⟨a, ha', e⟩) (bN.1 h).1
   ·exact lx tl ha' hb' e e'
theorem qC (ρ : Nam) : ∀ (os : List (List IK)) (i : Nat), qB ρ i os = (List.range os.length).map fun j => ρ.o (i + j)
 | [], i => rfl
 | k :: r, i => by
  simp only [qB, aS, List.range_succ_eq_map, List.map_cons, List.map_map, cj]
  rw [qC ρ r (i + 1)]
  congr 1
  refine bu fun j _ => ?_
  simp only [Function.comp]
  congr 1
  omega
section
variable {I Ib : In} {w : World} {H Hb : Heap} {ρ : Nam}
structure Lay (I Ib I2 : In) (w : World) (t : Tmpl) (ρ : Nam) (x : t.Ty) (m : Met) (vals : Nat → Value) (Hb : Heap) : Prop where
 hr : HR I2 w (t.H ρ x Hb)
 val : ∀ i, VR I2 w ((t.T ρ x).getD i .undef) (vals i)
 R : I2.R = I.R
 out : ∀ n, n ∉ t.names ρ → I2.ι n = Ib.ι n
 obj : ∀ i, i < t.os.length → ∃ n b, (i, n) ∈ m.σ ∧ I.ι n = some (.obj b) ∧ I2.ι (ρ.o i) = some (.obj b)
 old : ∀ n e b, n ∈ t.names ρ → I2.ι n = some e → e.blk = some b → ∃ n' e', I.ι n' = some e' ∧ e'.blk = some b ∧ (n' ∈ m.u ∨ n' ∈ m.σ.map (·.2))
 met : ∀ e ∈ m.σ, e.1 < t.os.length
 key : (m.σ.map (·.1)).Nodup
 rows : ∀ n, n ∈ m.u → ∃ sz v, I.ι n = some (.row sz v)
 nd : (m.u ++ m.σ.map (·.2)).Nodup
 same : ∀ n e, Ib.ι n = some e → I2.ι n = some e
 row : ∀ n e, n ∈ t.names ρ → I2.ι n = some e → (∃ b, e = .obj b ∧ ∃ i, i < t.os.length ∧ n = ρ.o i) ∨ ∃ sz v, e = .row sz v
structure Base (I Ib : In) (w : World) (t : Tmpl) (ρ : Nam) (m : Met) (Hb : Heap) : Prop where
 br : ∀ n b, Hb n = some b → BR Ib w n b
 dom : ∀ n, Hb n = none → n ∉ t.names ρ → Ib.ι n = none
 old : ∀ n e, n ∈ t.names ρ → Ib.ι n = some e → ∃ i n', (i, n') ∈ m.σ ∧ n = ρ.o i ∧ I.ι n' = some e
 lt : ∀ n e b, n ∉ t.names ρ → Ib.ι n = some e → e.blk = some b → b < w.heap.size ∧ ¬ I.R b
 inj : ∀ n n' e e' b, n ∉ t.names ρ → n' ∉ t.names ρ → Ib.ι n = some e → Ib.ι n' = some e' → e.blk = some b → e'.blk = some b → n = n'
 R : ∀ b, Ib.R b → I.R b
 dis : ∀ n e n' e' b, n ∉ t.names ρ → Ib.ι n = some e → I.ι n' = some e' → (n' ∈ m.u ∨ n' ∈ m.σ.map (·.2)) → e.blk = some b → e'.blk ≠ some b
theorem ki (I : In) (w : World) (t : Tmpl) (ρ : Nam) (m : Met) : Base I ⟨fun _ => none, I.R⟩ w t ρ m (fun _ => none) where
 br := by intro n b h; cases h
 dom := by intro n _ _; rfl
 old := by intro n e _ h; cases h
 lt := by intro n e b _ h; cases h
 inj := by intro n n' e e' b _ _ h; cases h
 R := fun _ h => h
 dis := by intro n e n' e' b _ h; cases h
theorem mw {t : Tmpl} {m0 m : Met} {x : t.Ty} {T : List DV} {vals : Nat → Value} (hH : HR I w H) (hu : m0.u = []) (h : t.pr m0 T H = some (x, m)) (hV : ∀ i, VR I w (T.getD i .undef) (vals i)) (hb : Base I Ib w t ρ m Hb) (hfree : t.free ρ Hb = true) : (∃ I2, Lay I Ib I2 w t ρ x m vals Hb) ∧ t.ks.length ≤ T.length ∧ m0.σ ⊆ m.σ := by
 unfold Tmpl.pr at h
 split at h
 ·rename_i x1 m1 h1
  split at h
  ·rename_i y m2 h2
   split at h
   ·rename_i hc
    simp only [aa, ah] at h
    obtain ⟨rfl, rfl⟩ := h
    simp only [ai, aR, aj] at hc
    obtain ⟨⟨c1, c2⟩, c3⟩ := hc
    have n1 := mu c1
    have n2 := mu c2
    obtain ⟨es, g1, g2, g3, g4, g5⟩ := kU (ρ := ρ) (c := 0) hH h1 hV
    obtain ⟨es', k1, k2, k3, k4, k5⟩ := Bg (ρ := ρ) hH h2
    unfold Tmpl.free at hfree
    simp only [ai, aR, Option.isNone_iff_eq_none] at hfree
    have hnd := mu hfree.1
    have hnone := hfree.2
    have hgr := g1.trans k1
    have hu2 : m2.u = ((es ++ es').filterMap (·.2.2)).reverse := by rw [hgr.u, hu, aK]
    generalize hes : es ++ es' = E at hgr hu2
    -- the names
    have hperm : (t.names ρ).Perm (E.map (fun q => ρ.r q.1) ++ qB ρ 0 t.os) := by
     unfold Tmpl.names
     rw [← hes, List.map_append, ← g3, aL]
     exact List.Perm.append_left _ k3
    have hnd2 := (hperm.nodup_iff).1 hnd
    rw [List.nodup_append] at hnd2
    obtain ⟨d1, d2, d3⟩ := hnd2
    have hmem : ∀ n, n ∈ t.names ρ ↔ (∃ q ∈ E, ρ.r q.1 = n) ∨ ∃ i, i < t.os.length ∧ ρ.o i = n := by
     intro n
     rw [hperm.mem_iff, az, List.mem_map, qC, List.mem_map]
     simp only [bf, bq]
    let I2 : In := ⟨fun n => match E.find? (fun q => ρ.r q.1 == n) with
     | some q => some q.2.1
     | none => match (List.range t.os.length).find? (fun i => ρ.o i == n) with
      | some i => match m2.get i with | some n' => I.ι n' | none => none
      | none => Ib.ι n, I.R⟩
    have ir : ∀ q ∈ E, I2.ι (ρ.r q.1) = some q.2.1 := by
     intro q hq
     show (match E.find? (fun p => ρ.r p.1 == ρ.r q.1) with | some q => some q.2.1 | none => _) = _
     cases hf : E.find? (fun p => ρ.r p.1 == ρ.r q.1) with
     | none => exact absurd (List.find?_eq_none.1 hf q hq) (by simp)
     | some p =>
      have hp := ce hf
      have hpm := cf hf
      simp only [ae] at hp
      rw [fK d1 hpm hq hp]
    have rnone : ∀ n, (∀ q ∈ E, ρ.r q.1 ≠ n) → E.find? (fun q => ρ.r q.1 == n) = none := fun n hn => List.find?_eq_none.2 fun q hq => by simp [hn q hq]
    have hget : ∀ i n, (i, n) ∈ m2.σ → m2.get i = some n := by
     intro i n hin
     unfold Met.get
     cases hf : m2.σ.find? (fun e => e.1 == i) with
     | none => exact absurd (List.find?_eq_none.1 hf (i, n) hin) (by simp)
     | some p =>
      have hp := ce hf
      have hpm := cf hf
      simp only [ae] at hp
      have := fK n2 hpm hin hp
      rw [this]
      rfl
    have io : ∀ i n, (i, n) ∈ m2.σ → I2.ι (ρ.o i) = I.ι n := by
     intro i n hin
     have hi := c3 _ hin
     have hio : ρ.o i ∈ qB ρ 0 t.os := by
      rw [qC, List.mem_map]
      exact ⟨i, by simpa using hi, by simp⟩
     show (match E.find? (fun p => ρ.r p.1 == ρ.o i) with | some q => some q.2.1 | none => _) = _
     rw [rnone _ (fun q hq e => d3 _ (bn hq) _ hio e)]
     cases hf : (List.range t.os.length).find? (fun j => ρ.o j == ρ.o i) with
     | none => exact absurd (List.find?_eq_none.1 hf i (by simpa using hi)) (by simp)
     | some j =>
      have hj := ce hf
      have hjm := cf hf
      simp only [ae] at hj
      rw [qC] at d2
      have : j = i := fK d2 hjm (by simpa using hi) (by simpa using hj)
      subst this
      simp only [hget j n hin]
    have ib : ∀ n, n ∉ t.names ρ → I2.ι n = Ib.ι n := by
     intro n hn
     rw [hmem] at hn
     show (match E.find? (fun p => ρ.r p.1 == n) with | some q => some q.2.1 | none => _) = _
     rw [rnone n (fun q hq e => hn (.inl ⟨q, hq, e⟩))]
     have : (List.range t.os.length).find? (fun i => ρ.o i == n) = none := List.find?_eq_none.2 fun i hi => by
      simp only [bf] at hi
      intro e
      exact hn (.inr ⟨i, hi, by simpa using e⟩)
     rw [this]
    have hcov : Cov I I2 ρ m2 E := ⟨rfl, io, ir⟩
    rw [← hes] at hcov
    obtain ⟨f1, f2⟩ := g5 I2 (hcov.left k1.σ)
    have f3 := k5 I2 hcov.right
    rw [hes] at hcov
    have hlaid : LaidR I2 w (fun H => fC ρ 0 t.ks x1 (rC ρ 0 t.os y H)) (fP ρ 0 t.os ++ dV ρ 0 t.ks) := LaidR.comp f3 f2
    have hobj : ∀ i, i < t.os.length → ∃ n b, (i, n) ∈ m2.σ ∧ I.ι n = some (.obj b) := fun i hi => by
     obtain ⟨n, b, e1, e2⟩ := k4 i hi
     rw [bq] at e1
     exact ⟨n, b, e1, e2⟩
    have hu3 : (E.filterMap (·.2.2)).Nodup := by
     have := (List.nodup_append.1 n1).1
     rw [hu2] at this
     exact (List.reverse_perm _).nodup_iff.1 this
    have hin_u : ∀ q ∈ E, ∀ n, q.2.2 = some n → n ∈ m2.u := fun q hq n hn => by
     rw [hu2, List.mem_reverse, List.mem_filterMap]
     exact ⟨q, hq, hn⟩
    have hre : ∀ q ∈ E, r7 I q := by rw [← hes]; exact xj g2 k2
    -- where an entry comes from
    have org : ∀ n e, I2.ι n = some e → (∃ q ∈ E, ρ.r q.1 = n ∧ e = q.2.1) ∨ (∃ i n', i < t.os.length ∧ ρ.o i = n ∧ (i, n') ∈ m2.σ ∧ I.ι n' = some e) ∨ (n ∉ t.names ρ ∧ Ib.ι n = some e) := by
     intro n e hn
     by_cases hm : n ∈ t.names ρ
     ·rcases (hmem n).1 hm with ⟨q, hq, rfl⟩ | ⟨i, hi, rfl⟩
      ·rw [ir q hq] at hn
       simp only [aa] at hn
       exact .inl ⟨q, hq, rfl, hn.symm⟩
      ·obtain ⟨n', b, e1, e2⟩ := hobj i hi
       rw [io i n' e1] at hn
       exact .inr (.inl ⟨i, n', hi, rfl, e1, hn⟩)
     ·rw [ib n hm] at hn
      exact .inr (.inr ⟨hm, hn⟩)
    have oldr : ∀ q ∈ E, ∀ b, q.2.1.blk = some b → ∃ n e, q.2.2 = some n ∧ I.ι n = some e ∧ e.blk = some b := by
     intro q hq b hb
     have := (hre q hq).2
     cases hq2 : q.2.2 with
     | none => rw [hq2] at this; rw [this] at hb; cases hb
     | some n =>
      rw [hq2] at this
      obtain ⟨e, e1, _, e2⟩ := this
      exact ⟨n, e, rfl, e1, by rw [← e2]; exact hb⟩
    have key : ∀ n e, Ib.ι n = some e → I2.ι n = some e := fun n e hn => by
     by_cases hm : n ∈ t.names ρ
     ·obtain ⟨i, n', e1, rfl, e2⟩ := hb.old n e hm hn
      rw [io i n' e1]
      exact e2
     ·rw [ib n hm]
      exact hn
    have hsame : Same Ib I2 w w := ⟨⟨hb.R, fun _ _ => rfl⟩, fun n b => key n _, fun n sz v => key n _⟩
    refine ⟨⟨I2, ⟨HR.of (fun n b hn => ?_) (fun n hn => ?_) (fun n e b hn hbl => ?_) (fun n n' e e' b hn hn' hbl hbl' => ?_) (fun b hR => hH.rlt b hR), f1, rfl, ib, fun i hi => ?_, fun n e b hm hn hbl => ?_, c3, n2, fun n hn => ?_, n1, key, fun n e hm hn => ?_⟩⟩, g4, fun e he => hgr.σ e he⟩
    ·rcases (hlaid Hb n).1 b hn with h3 | h3
     ·exact h3
     ·exact (hb.br n b h3).keep hsame (fun _ _ _ _ => rfl)
    ·obtain ⟨h3, h4⟩ := (hlaid Hb n).2 hn
     have hnm : n ∉ t.names ρ := by unfold Tmpl.names; rw [az] at h4 ⊢; exact fun h => h4 h.symm
     rw [ib n hnm]
     exact hb.dom n h3 hnm
    ·rcases org n e hn with ⟨q, hq, _, rfl⟩ | ⟨i, n', _, _, _, h3⟩ | ⟨hnm, h3⟩
     ·obtain ⟨o, e', _, h4, h5⟩ := oldr q hq b hbl
      exact hH.lt o e' b h4 h5
     ·exact hH.lt n' e b h3 hbl
     ·exact hb.lt n e b hnm h3 hbl
    ·rcases org n e hn with ⟨q, hq, rfl, rfl⟩ | ⟨i, o, hi, rfl, hio, h3⟩ | ⟨hnm, h3⟩
     ·obtain ⟨o, e0, h4, h5, h6⟩ := oldr q hq b hbl
      rcases org n' e' hn' with ⟨q', hq', rfl, rfl⟩ | ⟨i', o', hi', rfl, hio', h3'⟩ | ⟨hnm', h3'⟩
      ·obtain ⟨o', e0', h4', h5', h6'⟩ := oldr q' hq' b hbl'
       have := hH.inj o o' e0 e0' b h5 h5' h6 h6'
       subst this
       rw [lx hu3 hq hq' h4 h4']
      ·have := hH.inj o o' e0 e' b h5 h3' h6 hbl'
       subst this
       exact absurd rfl ((List.nodup_append.1 n1).2.2 o (hin_u q hq o h4) o (bn (f := (·.2)) hio'))
      ·exact absurd h6 (hb.dis n' e' o e0 b hnm' h3' h5 (.inl (hin_u q hq o h4)) hbl')
     ·rcases org n' e' hn' with ⟨q', hq', rfl, rfl⟩ | ⟨i', o', hi', rfl, hio', h3'⟩ | ⟨hnm', h3'⟩
      ·obtain ⟨o', e0', h4', h5', h6'⟩ := oldr q' hq' b hbl'
       have := hH.inj o o' e e0' b h3 h5' hbl h6'
       subst this
       exact absurd rfl ((List.nodup_append.1 n1).2.2 o (hin_u q' hq' o h4') o (bn (f := (·.2)) hio))
      ·have := hH.inj o o' e e' b h3 h3' hbl hbl'
       subst this
       have := fK (f := (·.2)) (List.nodup_append.1 n1).2.1 hio hio' rfl
       simp only [ah] at this
       rw [this.1]
      ·exact absurd hbl (hb.dis n' e' o e b hnm' h3' h3 (.inr (bn (f := (·.2)) hio)) hbl')
     ·rcases org n' e' hn' with ⟨q', hq', rfl, rfl⟩ | ⟨i', o', hi', rfl, hio', h3'⟩ | ⟨hnm', h3'⟩
      ·obtain ⟨o', e0', h4', h5', h6'⟩ := oldr q' hq' b hbl'
       exact absurd h6' (hb.dis n e o' e0' b hnm h3 h5' (.inl (hin_u q' hq' o' h4')) hbl)
      ·exact absurd hbl' (hb.dis n e o' e' b hnm h3 h3' (.inr (bn (f := (·.2)) hio')) hbl)
      ·exact hb.inj n n' e e' b hnm hnm' h3 h3' hbl hbl'
    ·obtain ⟨n, b, e1, e2⟩ := hobj i hi
     exact ⟨n, b, e1, e2, (io i n e1).trans e2⟩
    ·rcases org n e hn with ⟨q, hq, _, rfl⟩ | ⟨i, n', _, _, hio, h3⟩ | ⟨hnm, _⟩
     ·obtain ⟨o, e', h4, h5, h6⟩ := oldr q hq b hbl
      exact ⟨o, e', h5, h6, .inl (hin_u q hq o h4)⟩
     ·exact ⟨n', e, h3, hbl, .inr (bn (f := (·.2)) hio)⟩
     ·exact absurd hm hnm
    ·rw [hu2, List.mem_reverse, List.mem_filterMap] at hn
     obtain ⟨q, hq, hq2⟩ := hn
     have := (hre q hq).2
     rw [hq2] at this
     obtain ⟨e, e1, ⟨sz, v, rfl⟩, _⟩ := this
     exact ⟨sz, v, e1⟩
    ·rcases org n e hn with ⟨q, hq, _, rfl⟩ | ⟨i, n', hi, h4, hio, h3⟩ | ⟨hnm, _⟩
     ·exact .inr (hre q hq).1
     ·obtain ⟨n2', b, e1, e2⟩ := hobj i hi
      have : n' = n2' := by
       have a1 := hget i n' hio
       have a2 := hget i n2' e1
       rw [a1] at a2
       simpa using a2
      subst this
      rw [h3] at e2
      simp only [aa] at e2
      exact .inl ⟨b, e2, i, hi, h4.symm⟩
     ·exact absurd hm hnm
   ·cases h
  ·cases h
 ·cases h
end
section
variable {P : Program} {α : Type}
theorem Cy {d : Nat} {o : Oper} {E : TypeId} {s : Sh} {x : DV} {ys : List s.T} {T : List DV} {H : Heap} {k : List DV → Heap → Option α} : iY P d o E s x ys T H k = (iY P d o E s x ys T H fun T H => some (T, H)).bind fun e => k e.1 e.2 := by
 unfold iY
 repeat' split
 all_goals first | rfl | (rw [gO, gO (k := fun v a => some (dv T o.dst v, H.act a))]; generalize f6 d o H _ _ _ = z; cases z <;> rfl)
theorem nW {d : Nat} {o : Oper} {T : List DV} {H : Heap} {k : List DV → Heap → Option α} : (eh P d o T H fun v a => k (dv T o.dst v) (H.act a)) = (eh P d o T H fun v a => some (dv T o.dst v, H.act a)).bind fun e => k e.1 e.2 := by
 rw [nC, nC (k := fun v a => some (dv T o.dst v, H.act a))]
 generalize eh P d o T H (fun v a => some (v, a)) = z
 cases z <;> rfl
theorem ub {d : Nat} {o : Oper} {T : List DV} {H : Heap} {k : K α} : kO P d o T H k = (kO P d o T H fun T H => some (T, H)).bind fun e => k e.1 e.2 := by
 unfold kO
 split
 ·split
  exact nW
 ·split
  ·split
   exact nW
  ·exact nW
 ·split
  ·repeat' split
   all_goals first | rfl | exact Cy
  ·exact nW
 ·exact nW
end
def xk (call : (α : Type) → gN α) : Prop := ∀ {α : Type} {g : FuncId} {A : List DV} {H : Heap} {k : DV → Heap → Option (List Nat) → Option α}, call α g A H k = (call _ g A H fun v H u => some (v, H, u)).bind fun e => k e.1 e.2.1 e.2.2
theorem ez {α β γ : Type} {x : Option α} {f : α → Option β} {g : β → Option γ} {h : α → Option γ} (e : ∀ a, h a = (f a).bind g) : x.bind h = (x.bind f).bind g := by
 cases x with
 | none => rfl
 | some a => exact e a
section
variable {cx : Cx} {call : (α : Type) → gN α} {α : Type}
theorem r8 (hc : xk call) {d : Nat} {ops : Array Oper} : ∀ {l : List Oper} {α : Type} {T : List DV} {H : Heap} {k : K α}, fe cx (call α) d ops l T H k = (fe cx (call _) d ops l T H fun T H => some (T, H)).bind fun e => k e.1 e.2
 | [], α, T, H, k => rfl
 | o :: l, α, T, H, k => by
  have ih : ∀ {T : List DV} {H : Heap}, fe cx (call α) d ops l T H k = (fe cx (call _) d ops l T H fun T H => some (T, H)).bind fun e => k e.1 e.2 := r8 hc
  have hp : ∀ {T : List DV}, (kO cx.P d o T H fun T H => fe cx (call α) d ops l T H k) = (kO cx.P d o T H fun T H => fe cx (call _) d ops l T H fun T H => some (T, H)).bind fun e => k e.1 e.2 := by
   intro T
   rw [ub, ub (k := fun T H => fe cx (call _) d ops l T H fun T H => some (T, H))]
   exact ez fun a => ih
  have hcall : ∀ {g : FuncId} {A T : List DV} {H : Heap}, (call α g A H fun v H u => fe cx (call α) d ops l (dv (jU T u) o.dst v) H k) = (call _ g A H fun v H u => fe cx (call _) d ops l (dv (jU T u) o.dst v) H fun T H => some (T, H)).bind fun e => k e.1 e.2 := by
   intro g A T H
   rw [hc, hc (k := fun v H u => fe cx (call _) d ops l (dv (jU T u) o.dst v) H fun T H => some (T, H))]
   exact ez fun a => ih
  unfold fe
  simp only [yK, E0]
  repeat' split
  all_goals first | rfl | exact hp | exact ih | exact hcall
theorem iB : ∀ {l : List FS} {A : List DV} {k : DV → Option α}, jn l A k = (jn l A (fun v => some v)).map fun q => q.bind k
 | [], _, _ => rfl
 | S :: l, A, k => by
  simp only [jn]
  split
  ·split
   ·simp only [bs, aa]
    exact ez fun a => rfl
   ·exact iB
  ·exact iB
theorem r9 : ∀ {l : List FS} {A : List DV} {H : Heap} {b : Nat} {k : DV → Act2 → Option α}, oq l A H b k = (oq l A H b (fun v a => some (v, a))).map fun q => q.bind fun e => k e.1 e.2
 | [], _, _, _, _ => rfl
 | S :: l, A, H, b, k => by
  simp only [oq]
  split
  ·simp only [bs, aa]
   refine ez fun a => ?_
   split <;> rfl
  ·exact r9
theorem kV : ∀ {l : List FS} {A : List DV} {H : Heap} {k : DV → List Nat → Option α}, jG l A H k = (jG l A H (fun v rd => some (v, rd))).map fun q => q.bind fun e => k e.1 e.2
 | [], _, _, _ => rfl
 | S :: l, A, H, k => by
  simp only [jG]
  split
  ·simp only [bs, aa]
   exact ez fun a => rfl
  ·exact kV
theorem zb {P : Program} {d : Nat} {o : Oper} {c : Call} {T : List DV} {H : Heap} {k : DV → Act2 → Option α} : tZ P d o c T H k = (tZ P d o c T H fun v a => some (v, a)).bind fun e => k e.1 e.2 := by
 unfold tZ
 repeat' split
 all_goals first | rfl | exact uQ
theorem qD (hc : xk call) {d : Nat} {ops : Array Oper} {anc : List Nat} : ∀ {l : List Oper} {m : Nat} {q : Bool} {log : List (Nat × Did)} {α : Type} {T : List DV} {H : Heap} {k : K α}, dJ cx (call α) d ops anc l m q log T H k = (dJ cx (call _) d ops anc l m q log T H fun T H => some (T, H)).bind fun e => k e.1 e.2
 | [], m, q, log, α, T, H, k => rfl
 | o :: l, m, q, log, α, T, H, k => by
  have ih : ∀ {m : Nat} {q : Bool} {log : List (Nat × Did)} {T : List DV} {H : Heap}, dJ cx (call α) d ops anc l m q log T H k = (dJ cx (call _) d ops anc l m q log T H fun T H => some (T, H)).bind fun e => k e.1 e.2 := qD hc
  have hn : ∀ {c : Bool} {m : Nat} {q : Bool} {log : List (Nat × Did)} {T : List DV} {H : Heap}, (if c = true then dJ cx (call α) d ops anc l m q log T H k else none) = (if c = true then dJ cx (call _) d ops anc l m q log T H fun T H => some (T, H) else none).bind fun e => k e.1 e.2 := by
   intro c m q log T H
   cases c
   ·rfl
   ·exact ih
  have hE : ∀ {T : List DV} {c : DV → fD → Bool} {m : Nat} {qg : DV → fD → Bool} {lg : DV → fD → List (Nat × Did)}, (eh cx.P d o T H fun v a => if c v a = true then dJ cx (call α) d ops anc l m (qg v a) (lg v a) (dv T o.dst v) (H.act a) k else none) = (eh cx.P d o T H fun v a => if c v a = true then dJ cx (call _) d ops anc l m (qg v a) (lg v a) (dv T o.dst v) (H.act a) fun T H => some (T, H) else none).bind fun e => k e.1 e.2 := by
   intro T c m qg lg
   rw [nC, nC (k := fun v a => if c v a = true then dJ cx (call _) d ops anc l m (qg v a) (lg v a) (dv T o.dst v) (H.act a) fun T H => some (T, H) else none)]
   exact ez fun a => hn
  have hp : ∀ {m : Nat} {T : List DV}, (kO cx.P d o T H fun T H => dJ cx (call α) d ops anc l m true [] T H k) = (kO cx.P d o T H fun T H => dJ cx (call _) d ops anc l m true [] T H fun T H => some (T, H)).bind fun e => k e.1 e.2 := by
   intro m T
   rw [ub, ub (k := fun T H => dJ cx (call _) d ops anc l m true [] T H fun T H => some (T, H))]
   exact ez fun a => ih
  have hcall : ∀ {m : Nat} {g : FuncId} {A T : List DV} {H : Heap}, (call α g A H fun v H u => dJ cx (call α) d ops anc l m true [] (dv (jU T u) o.dst v) H k) = (call _ g A H fun v H u => dJ cx (call _) d ops anc l m true [] (dv (jU T u) o.dst v) H fun T H => some (T, H)).bind fun e => k e.1 e.2 := by
   intro m g A T H
   rw [hc, hc (k := fun v H u => dJ cx (call _) d ops anc l m true [] (dv (jU T u) o.dst v) H fun T H => some (T, H))]
   exact ez fun a => ih
  have hrun : ∀ {n : Nat} {T : List DV} {c : DV → fD → Bool} {m : Nat} {qg : DV → fD → Bool} {lg : DV → fD → List (Nat × Did)} {cs : List Nat → DV → Act2 → Bool} {ls : List Nat → DV → Act2 → List (Nat × Did)}, ya cx (call α) d ops.size anc o n T H (fun v a => if c v a = true then dJ cx (call α) d ops anc l m (qg v a) (lg v a) (dv T o.dst v) (H.act a) k else none) (fun rd v a => if cs rd v a = true then dJ cx (call α) d ops anc l m false (ls rd v a) (dv (dL a.u T) o.dst v) (H.act2 a) k else none) (fun T H => dJ cx (call α) d ops anc l m true [] T H k) =
    (ya cx (call _) d ops.size anc o n T H (fun v a => if c v a = true then dJ cx (call _) d ops anc l m (qg v a) (lg v a) (dv T o.dst v) (H.act a) fun T H => some (T, H) else none) (fun rd v a => if cs rd v a = true then dJ cx (call _) d ops anc l m false (ls rd v a) (dv (dL a.u T) o.dst v) (H.act2 a) fun T H => some (T, H) else none) (fun T H => dJ cx (call _) d ops anc l m true [] T H fun T H => some (T, H))).bind fun e => k e.1 e.2 := by
   intro n T c m qg lg cs ls
   unfold ya
   split
   ·split
    ·split
     ·rename_i g a b hf
      have hz : ∀ {x : Option α} {y : Option (List DV × Heap)}, x = (y.bind fun e => k e.1 e.2) → x = (y.bind fun e => k e.1 e.2) := id
      generalize nQ cx g (a ++ List.map (dh T) _ ++ b) = tv
      cases tv with
      | some v => exact hn
      | none =>
      simp only
      rw [iB (α := α), iB (α := List DV × Heap)]
      cases gm cx.P g with
      | true =>
       simp only [if_true]
       generalize jn (cx.specs g) (a ++ List.map (dh T) _ ++ b) (fun v => some v) = z
       cases z with
       | none =>
        simp only [Option.map_none]
        rw [kV (α := α), kV (α := List DV × Heap)]
        generalize jG (cx.qs g) (a ++ List.map (dh T) _ ++ b) H (fun v rd => some (v, rd)) = zq
        cases zq with
        | some q => exact ez fun v => hn
        | none =>
        simp only [Option.map_none]
        rw [r9 (α := α), r9 (α := List DV × Heap)]
        generalize oq (cx.specs g) (a ++ List.map (dh T) _ ++ b) H (AK d o) (fun v a => some (v, a)) = zs
        split
        ·repeat' split
         all_goals exact hcall
        ·cases zs with
         | none => rfl
         | some q => exact ez fun v => hn
       | some q => exact ez fun v => hn
      | false =>
       simp only [aD, au]
       repeat' split
       all_goals first | exact hcall | rfl
     ·rfl
    ·split
     ·exact hp
     ·rw [zb (α := α), zb (α := List DV × Heap)]
      exact ez fun v => hn
    ·exact hE
   ·split
    ·exact hp
    ·exact hE
   ·exact hE
  have hr : ∀ {T : List DV}, _ := fun {T : List DV} => hrun (n := m) (T := T) (c := fun v act => qZ ops anc d m q log (iE ops T H o v (fj T o) (Act2.of act))) (m := m + 1) (qg := fun v act => q && act.isNone) (lg := fun v act => (m, iE ops T H o v (fj T o) (Act2.of act)) :: log) (cs := fun rd v act => qZ ops anc d m q log (iE ops T H o v rd act)) (ls := fun rd v act => (m, iE ops T H o v rd act) :: log)
  unfold dJ
  simp only
  split
  ·exact hr (T := T)
  ·split
   ·rename_i g hj
    split
    ·rename_i b hb
     cases b with
     | true =>
      simp only [if_true]
      split
      ·exact hr (T := T.set g (.sc (.bool true)))
      ·exact hn
     | false =>
      simp only [aD, au]
      split
      ·exact hn
      ·exact hr (T := T.set g (.sc (.bool false)))
    ·exact hn
    ·rfl
   ·rfl
end
abbrev vn := Ex × List DV × Heap
theorem Bh {α : Type} {B : (β : Type) → (Ex → List DV → Heap → Option β) → Option β} (hB : ∀ (β : Type) (k : Ex → List DV → Heap → Option β), B β k = (B vn fun e T H => some (e, T, H)).bind fun p => k p.1 p.2.1 p.2.2) {k1 : Ex → List DV → Heap → Option α} {k2 : Ex → List DV → Heap → Option vn} {g : vn → Option α} (h : ∀ e T H, k1 e T H = (k2 e T H).bind g) : B α k1 = (B vn k2).bind g := by
 rw [hB α k1, hB vn k2]
 exact ez fun p => h p.1 p.2.1 p.2.2
section
variable {cx : Cx} {call : (α : Type) → gN α} {α : Type}
theorem qE {body : (β : Type) → List DV → Heap → (Ex → List DV → Heap → Option β) → Option β} (hb : ∀ {β : Type} {T : List DV} {H : Heap} {k : Ex → List DV → Heap → Option β}, body β T H k = (body _ T H fun e T H => some (e, T, H)).bind fun p => k p.1 p.2.1 p.2.2) : ∀ {n : Nat} {T : List DV} {H : Heap} {k : Ex → List DV → Heap → Option α}, kP (body α) n T H k = (kP (body vn) n T H fun e T H => some (e, T, H)).bind fun p => k p.1 p.2.1 p.2.2
 | 0, T, H, k => rfl
 | n + 1, T, H, k => by
  simp only [kP]
  refine Bh (B := fun β k => body β T H k) (fun β k => hb) fun e T H => ?_
  cases e
  ·exact qE hb
  ·rfl
  ·rfl
  ·rfl
theorem Bi : ∀ {os : List (Ex × Tmpl)} {y : om os} {α β : Type} {k : Ex → (t : Tmpl) → t.Ty → Option α} {k' : Ex → (t : Tmpl) → t.Ty → Option β} {g : β → Option α}, (∀ e t y, k e t y = (k' e t y).bind g) → qh os y k = (qh os y k').bind g
 | [], y, α, β, k, k', g, h => by cases y
 | [e], y, α, β, k, k', g, h => h _ _ _
 | e :: f :: r, y, α, β, k, k', g, h => by
  cases y with
  | inl y => exact h _ _ _
  | inr y => exact Bi (os := f :: r) h
theorem zc {L : Loop} {b : Nat} {T : List DV} {H : Heap} {k : Ex → List DV → Heap → Option α} : ot L b T H k = (ot L b T H fun e T H => some (e, T, H)).bind fun p => k p.1 p.2.1 p.2.2 := by
 unfold ot
 split
 unfold rJ
 split
 ·refine ez fun y => ?_
  refine Bi fun e t y => ?_
  simp only
  split <;> rfl
 ·rfl
theorem qF (hc : xk call) {f d : Nat} : ∀ (c : Code) {α : Type} {T : List DV} {H : Heap} {k : Ex → List DV → Heap → Option α}, dO cx (call α) f d c T H k = (dO cx (call vn) f d c T H fun e T H => some (e, T, H)).bind fun p => k p.1 p.2.1 p.2.2 := by
 intro c
 induction c with
 | skip => intros; rfl
 | label l => intros; rfl
 | exit id => intros; rfl
 | goto l => intros; rfl
 | ret => intros; rfl
 | refuse s => intros; rfl
 | rangeFunc _ _ _ _ _ _ => intros; rfl
 | region id ops draw =>
  intro α T H k
  simp only [dO]
  split
  ·split
   ·split
    ·rw [qD hc, qD hc (k := fun T H => some (Ex.norm, T, H))]
     exact ez fun p => rfl
    ·rfl
   ·rfl
  ·rw [r8 hc, r8 hc (k := fun T H => some (Ex.norm, T, H))]
   exact ez fun p => rfl
 | seq x y ihx ihy =>
  intro α T H k
  simp only [dO]
  split
  ·rename_i L hL
   refine Bh (B := fun β k => ot L _ T H k) (fun β k => zc) fun e T H => ?_
   cases e
   ·exact ihy
   ·rfl
   ·rfl
   ·rfl
  ·refine Bh (B := fun β k => dO cx (call β) f d x T H k) (fun β k => ihx) fun e T H => ?_
   cases e
   ·exact ihy
   ·rfl
   ·rfl
   ·rfl
 | cond c x y ihx ihy =>
  intro α T H k
  simp only [dO]
  repeat' split
  all_goals first | rfl | exact ihx | exact ihy
 | block id c ih =>
  intro α T H k
  simp only [dO]
  refine Bh (B := fun β k => dO cx (call β) f d c T H k) (fun β k => ih) fun e T H => ?_
  cases e
  ·rfl
  ·simp only
   split <;> rfl
  ·rfl
  ·rfl
 | loop c ih =>
  intro α T H k
  simp only [dO]
  split
  ·split
   ·exact zc
   ·exact qE (body := fun β => dO cx (call β) f d c) (fun {β T H k} => ih)
  ·exact qE (body := fun β => dO cx (call β) f d c) (fun {β T H k} => ih)
 | scope c ih =>
  intro α T H k
  simp only [dO]
  refine Bh (B := fun β k => dO cx (call β) f d c T H k) (fun β k => ih) fun e T H => ?_
  cases e <;> rfl
theorem sa : ∀ {l : List FS} {A : List DV} {H : Heap} {b : Nat} {k : DV → Heap → Option (List Nat) → Option α}, ou l A H b k = (ou l A H b fun v H u => some (v, H, u)).map fun q => q.bind fun e => k e.1 e.2.1 e.2.2
 | [], A, H, b, k => rfl
 | S :: l, A, H, b, k => by
  simp only [ou]
  split
  ·simp only [bs, aa]
   refine ez fun y => ?_
   split <;> rfl
  ·exact sa
theorem Fv (hc : xk call) {f d : Nat} {A : List DV} {H : Heap} {k : DV → Heap → Option α} : jV cx (call α) f d A H k = (jV cx (call _) f d A H fun v H => some (v, H)).bind fun e => k e.1 e.2 := by
 unfold jV
 split
 ·rename_i fn hf
  split
  ·rename_i c hb
   rw [qF hc]
   conv => rhs; rw [qF hc]
   refine ez fun p => ?_
   obtain ⟨e, T, H⟩ := p
   cases e
   ·simp only; split <;> rfl
   ·rfl
   ·rfl
   ·simp only; split <;> rfl
  ·rfl
 ·rfl
theorem D8 (cx : Cx) (n : Nat) : ∀ d : Nat, xk (fun α => fN (α := α) cx n d) := by
 induction n with
 | zero => intro d α g A H k; rfl
 | succ n ih =>
  intro d α g A H k
  simp only [fN]
  split
  ·generalize nQ cx g A = tv
   cases tv with
   | some v => rfl
   | none =>
   simp only
   rw [sa, sa (k := fun v H u => some (v, H, u))]
   generalize ou (cx.specs g) A H _ (fun v H u => some (v, H, u)) = z
   cases z with
   | none =>
    simp only [Option.map_none]
    have hb : ∀ {β : Type} {k : DV → Heap → Option β}, jV cx (fN cx n (d + 1)) g d A H k = (jV cx (fN cx n (d + 1)) g d A H fun v H => some (v, H)).bind fun e => k e.1 e.2 := fun {β k} => Fv (call := fun α => fN (α := α) cx n (d + 1)) (ih (d + 1))
    split
    ·rw [hb, hb (k := fun v H => some (v, H, none))]
     exact ez fun p => rfl
    ·rfl
   | some q =>
    simp only [bs]
  ·rfl
end
section
variable {X R : Type}
def it (s : (X → Option R) → X → Option R) : Nat → X → Option R
 | 0, _ => none
 | n + 1, x => s (it s n) x
def JL (s : (X → Option R) → X → Option R) : Prop := ∀ x, (∃ y, ∀ F, s F x = y) ∨ ∃ x', ∀ F, s F x = F x'
end
def Bj : Ex → Ex → Bool
 | .norm, .norm => true
 | .exit i, .exit j => i == j
 | .goto i, .goto j => i == j
 | .ret, .ret => true
 | _, _ => false
theorem CW : ∀ {a b : Ex}, Bj a b = true → a = b
 | .norm, .norm, _ => rfl
 | .exit i, .exit j, h => by simp only [Bj, ae] at h; rw [h]
 | .goto i, .goto j, h => by simp only [Bj, ae] at h; rw [h]
 | .ret, .ret, _ => rfl
def oB {R : Type} (n : Nat) (e : Ex) (T : List DV) (H : Heap) : (os : List (Ex × Tmpl)) → (om os → R) → Option R
 | [], _ => none
 | [o], g => if Bj o.1 e = true then match o.2.pr (l3 n) T H with | some (y, _) => some (g y) | none => none else none
 | o :: p :: r, g => if Bj o.1 e = true then match o.2.pr (l3 n) T H with | some (y, _) => some (g (.inl y)) | none => oB n e T H (p :: r) (fun y => g (.inr y)) else oB n e T H (p :: r) (fun y => g (.inr y))
def sd (L : Loop) (F : L.X → Option L.R) : Ex → List DV → Heap → Option L.R := fun e T H => match e with
 | .norm => match L.tin.pr (l3 L.tin.os.length) T H with | some (y, _) => F (L.back y) | none => none
 | e => oB L.tin.os.length e T H L.outs L.inn
theorem nj {R : Type} {n : Nat} {e : Ex} {T : List DV} {H : Heap} : ∀ {os : List (Ex × Tmpl)} {g : om os → R} {y : R}, oB n e T H os g = some y → ∃ (t : Tmpl) (z : t.Ty) (m : Met) (o : om os), t.pr (l3 n) T H = some (z, m) ∧ y = g o ∧ ∀ {β : Type} (K : Ex → (t : Tmpl) → t.Ty → Option β), qh os o K = K e t z
 | [], g, y, h => by cases h
 | [o], g, y, h => by
  simp only [oB] at h
  split at h
  ·rename_i he
   split at h
   ·rename_i z m hz
    simp only [aa] at h
    exact ⟨o.2, z, m, z, hz, h.symm, fun K => by simp only [qh]; rw [CW he]⟩
   ·cases h
  ·cases h
 | o :: p :: r, g, y, h => by
  simp only [oB] at h
  split at h
  ·rename_i he
   split at h
   ·rename_i z m hz
    simp only [aa] at h
    exact ⟨o.2, z, m, .inl z, hz, h.symm, fun K => by simp only [qh]; rw [CW he]⟩
   ·obtain ⟨t, z, m, q, h1, h2, h3⟩ := nj h
    exact ⟨t, z, m, .inr q, h1, h2, fun K => by simp only [qh]; exact h3 K⟩
  ·obtain ⟨t, z, m, q, h1, h2, h3⟩ := nj h
   exact ⟨t, z, m, .inr q, h1, h2, fun K => by simp only [qh]; exact h3 K⟩
def RoundEq (cx : Cx) (fuel f d : Nat) (L : Loop) (c : Code) (step : (L.X → Option L.R) → L.X → Option L.R) : Prop :=
 ∀ F x, dO cx (fN cx fuel (d + 1)) f d c (L.tin.T dy (L.into x)) (L.tin.H dy (L.into x) fun _ => none) (sd L F) = step F x
theorem RoundEq.one {cx : Cx} {fuel f d : Nat} {L : Loop} {c : Code} {step : (L.X → Option L.R) → L.X → Option L.R} (h : RoundEq cx fuel f d L c step) : JL step := by
 intro x
 have hn : ∀ F, step F x = _ := fun F => (h F x).symm.trans (qF (call := fun α => fN (α := α) cx fuel (d + 1)) (D8 cx fuel (d + 1)) c)
 cases hz : dO cx (fN cx fuel (d + 1)) f d c (L.tin.T dy (L.into x)) (L.tin.H dy (L.into x) fun _ => none) (fun e T H => some (e, T, H)) with
 | none => exact .inl ⟨none, fun F => by rw [hn F, hz]; rfl⟩
 | some p =>
  obtain ⟨e, T, H⟩ := p
  cases e with
  | norm =>
   cases hp : L.tin.pr (l3 L.tin.os.length) T H with
   | none => exact .inl ⟨none, fun F => by rw [hn F, hz]; simp only [ab, sd, hp]⟩
   | some q => exact .inr ⟨L.back q.1, fun F => by rw [hn F, hz]; simp only [ab, sd, hp]⟩
  | exit i => exact .inl ⟨_, fun F => by rw [hn F, hz]; rfl⟩
  | goto i => exact .inl ⟨_, fun F => by rw [hn F, hz]; rfl⟩
  | ret => exact .inl ⟨_, fun F => by rw [hn F, hz]; rfl⟩
def In.dels (I : In) (l : List Nat) : In := ⟨fun m => if m ∈ l then none else I.ι m, I.R⟩
theorem HR.del {I : In} {w : World} {H : Heap} (hH : HR I w H) {n sz : Nat} {v : Value} (hn : I.ι n = some (.row sz v)) : HR (I.dels [n]) w (H.sub n .none) := by
 have hi : ∀ m, m ≠ n → (I.dels [n]).ι m = I.ι m := fun m hm => by simp [In.dels, hm]
 have h0 : (I.dels [n]).ι n = none := by simp [In.dels]
 have hb : But n .none I (I.dels [n]) w w := by
  refine ⟨⟨fun _ h => h, fun _ _ => rfl⟩, fun m b h => ?_, fun m sz v hm h => by rw [hi m hm]; exact h, fun s xs h => by cases h⟩
  rw [hi]
  ·exact h
  ·rintro rfl; rw [hn] at h; cases h
 refine HR.of (fun m b hm => ?_) (fun m hm => ?_) (fun m e b hm he => ?_) (fun m m' e e' b hm hm' he he' => ?_) (fun b hR => hH.rlt b hR)
 ·simp only [Heap.sub] at hm
  split at hm
  ·cases hm
  ·rename_i hmn
   split at hm
   ·rename_i b0 hb0
    simp only [aa] at hm
    subst hm
    cases b0 with
    | obj cs0 =>
     obtain ⟨b, c, t, k1, k2, k3⟩ := hH.obj m cs0 hb0
     exact ⟨b, c, t, hb.obj _ _ k1, k2, CR.sub hb k3⟩
    | row E' s' xs' =>
     obtain ⟨u, cs', k1, k2, k3⟩ := hH.row m E' s' xs' hb0
     exact ⟨u, cs', hb.row _ _ _ hmn k1, k2, Sh.K_keep hb.keeps k3⟩
    | mp ks vs => exact MR.sub hb (hH.mp m ks vs hb0) (fun _ _ => rfl)
   ·cases hm
 ·by_cases hmn : m = n
  ·subst hmn; exact h0
  ·rw [hi m hmn]
   simp only [Heap.sub, hmn, au] at hm
   split at hm
   ·cases hm
   ·rename_i hb0
    exact hH.dom m hb0
 ·by_cases hmn : m = n
  ·subst hmn; rw [h0] at hm; cases hm
  ·rw [hi m hmn] at hm
   exact hH.lt m e b hm he
 ·by_cases hmn : m = n
  ·subst hmn; rw [h0] at hm; cases hm
  ·by_cases hmn' : m' = n
   ·subst hmn'; rw [h0] at hm'; cases hm'
   ·rw [hi m hmn] at hm
    rw [hi m' hmn'] at hm'
    exact hH.inj m m' e e' b hm hm' he he'
theorem HR.dels : ∀ {l : List Nat} {I : In} {w : World} {H : Heap}, HR I w H → l.Nodup → (∀ n ∈ l, ∃ sz v, I.ι n = some (.row sz v)) → HR (I.dels l) w (dw l H)
 | [], I, w, H, hH, _, _ => by
  have : I.dels [] = I := by simp [In.dels]
  rw [this]
  exact hH
 | n :: l, I, w, H, hH, hd, hr => by
  obtain ⟨sz, v, hn⟩ := hr n (aM ..)
  rw [bN] at hd
  have h1 := HR.dels (l := l) (hH.del hn) hd.2 fun m hm => by
   obtain ⟨sz, v, h⟩ := hr m (aB _ hm)
   have : m ≠ n := by rintro rfl; exact hd.1 hm
   exact ⟨sz, v, by simp [In.dels, this, h]⟩
  have : (I.dels [n]).dels l = I.dels (n :: l) := by
   unfold In.dels
   simp only [aC, List.not_mem_nil, or_false, In.mk.injEq, bC]
   funext m
   by_cases h1 : m ∈ l <;> by_cases h2 : m = n <;> simp [h1, h2]
  rw [this] at h1
  exact h1
theorem gn (ρ : Nam) : ∀ (ks : List IK) (c : Nat) (x : hP ks), (mW ρ c ks x).length = ks.length
 | [], _, _ => rfl
 | .any :: r, c, x => congrArg (· + 1) (gn ρ r (c + 1) x)
 | .val _ :: r, c, x => congrArg (· + 1) (gn ρ r (c + 1) x.2)
 | .row _ _ :: r, c, x => congrArg (· + 1) (gn ρ r (c + 1) x.2)
 | .agf _ _ :: r, c, x => congrArg (· + 1) (gn ρ r (c + 1) x.2)
 | .obj _ :: r, c, x => congrArg (· + 1) (gn ρ r (c + 1) x)
 | .clo _ _ :: r, c, x => congrArg (· + 1) (gn ρ r (c + 1) x)
 | .tab _ _ :: r, c, x => congrArg (· + 1) (gn ρ r (c + 1) x)
theorem JM {t : Tmpl} {ρ : Nam} {i : Nat} (h : i < t.os.length) : ρ.o i ∈ t.names ρ := by
 have : ∀ (os : List (List IK)) (j i : Nat), i < os.length → ρ.o (j + i) ∈ fP ρ j os := by
  intro os
  induction os with
  | nil => intro j i h; simp at h
  | cons k r ih =>
   intro j i h
   cases i with
   | zero => simp [fP]
   | succ i =>
    simp only [fP, aC, az]
    exact .inr (.inr (by rw [show j + (i + 1) = j + 1 + i by omega]; exact ih (j + 1) i (by simpa using h)))
 have := this t.os 0 i h
 rw [bq] at this
 exact bD _ this
theorem Kq {t : Tmpl} {m0 m : Met} {I : In} {w : World} {H : Heap} {x : t.Ty} {T : List DV} {vals : Nat → Value} (hH : HR I w H) (h : t.pr m0 T H = some (x, m)) (hV : ∀ i, VR I w (T.getD i .undef) (vals i)) : m0.σ ⊆ m.σ ∧ (∀ e ∈ m.σ, e.1 < t.os.length) ∧ (m.σ.map (·.1)).Nodup := by
 unfold Tmpl.pr at h
 split at h
 ·rename_i x1 m1 h1
  split at h
  ·rename_i y m2 h2
   split at h
   ·rename_i hc
    simp only [aa, ah] at h
    obtain ⟨rfl, rfl⟩ := h
    simp only [ai, aR, aj] at hc
    obtain ⟨es, g1, _⟩ := kU (ρ := dy) (c := 0) hH h1 hV
    obtain ⟨es', k1, _⟩ := Bg (ρ := dy) hH h2
    exact ⟨fun e he => (g1.trans k1).σ e he, hc.2, mu hc.1.2⟩
   ·cases h
  ·cases h
 ·cases h
theorem ze {n i : Nat} (h : i < n) : (i, i) ∈ (l3 n).σ := by
 unfold l3
 exact List.mem_map.2 ⟨i, by simpa using h, rfl⟩
theorem Bk {H : Heap} {b : Nat} {m : Met} {i n : Nat} (hk : (m.σ.map (·.1)).Nodup) (h : (i, n) ∈ m.σ) : (mo H b m).o i = n := by
 have : m.get i = some n := by
  unfold Met.get
  cases hf : m.σ.find? (fun e => e.1 == i) with
  | none => exact absurd (List.find?_eq_none.1 hf (i, n) h) (by simp)
  | some p =>
   have hp := ce hf
   have hpm := cf hf
   simp only [ae] at hp
   have := fK hk hpm h hp
   rw [this]
   rfl
 simp only [mo, this]
theorem yk {I I0 I2 : In} {w w2 : World} {H H2 : Heap} {tin t : Tmpl} {x : tin.Ty} {z : t.Ty} {m m1 : Met} {v0 vals : Nat → Value} {T2 : List DV} {ρ : Nam} (hH : HR I w H) (h0 : Lay I ⟨fun _ => none, I.R⟩ I0 w tin dy x m v0 (fun _ => none)) (he : Ext I0 w I2 w2) (hH2 : HR I2 w2 H2) (hpr : t.pr (l3 tin.os.length) T2 H2 = some (z, m1)) (hV : ∀ i, VR I2 w2 (T2.getD i .undef) (vals i))
  (hρ : ∀ i n, (i, n) ∈ m.σ → ρ.o i = n) (hfree : t.free ρ ((dw m.u H).away m) = true) :
  ∃ I4, HR I4 w2 (t.H ρ z ((dw m.u H).away m)) ∧ (∀ i, VR I4 w2 ((t.T ρ z).getD i .undef) (vals i)) ∧ Ext I w I4 w2 ∧ (∀ n sz v, n ∉ m.u → I.ι n = some (.row sz v) → I4.ι n = some (.row sz v)) ∧ t.ks.length ≤ T2.length := by
 obtain ⟨p1, p2, p3⟩ := Kq hH2 hpr hV
 have hu0 := (List.nodup_append.1 h0.nd).1
 have hd := hH.dels hu0 h0.rows
 -- what has a name within has one around
 have nm : ∀ n e g, I0.ι n = some e → e.blk = some g → ∃ n' e', I.ι n' = some e' ∧ e'.blk = some g ∧ (n' ∈ m.u ∨ n' ∈ m.σ.map (·.2)) := by
  intro n e g hn hg
  by_cases hm : n ∈ tin.names dy
  ·exact h0.old n e g hm hn hg
  ·rw [h0.out n hm] at hn
   cases hn
 have dl : ∀ n e, (I.dels m.u).ι n = some e → I.ι n = some e ∧ n ∉ m.u := by
  intro n e hn
  simp only [In.dels] at hn
  split at hn
  ·cases hn
  ·rename_i hnu
   exact ⟨hn, hnu⟩
 have ob : ∀ i n, (i, n) ∈ m.σ → i < tin.os.length ∧ i < t.os.length ∧ (i, i) ∈ m1.σ ∧ ρ.o i = n ∧ ∃ q, I.ι n = some (.obj q) ∧ I2.ι i = some (.obj q) := by
  intro i n hin
  have hi := h0.met _ hin
  have hii := p1 (ze hi)
  refine ⟨hi, p2 _ hii, hii, hρ i n hin, ?_⟩
  obtain ⟨n', q, e1, e2, e3⟩ := h0.obj i hi
  have : (i, n') = (i, n) := fK h0.key e1 hin rfl
  simp only [ah, true_and] at this
  subst this
  exact ⟨q, e2, he.obj _ _ e3⟩
 have away : ∀ n q, ((dw m.u H).away m) n = some q → (dw m.u H) n = some q ∧ n ∉ m.σ.map (·.2) := by
  intro n q hn
  simp only [Heap.away] at hn
  split at hn
  ·cases hn
  ·rename_i hs
   refine ⟨hn, fun hm => hs ?_⟩
   obtain ⟨e, e1, e2⟩ := List.mem_map.1 hm
   exact List.any_eq_true.2 ⟨e, e1, by simpa using e2⟩
 have awayN : ∀ n, ((dw m.u H).away m) n = none → (dw m.u H) n = none ∨ ∃ i, (i, n) ∈ m.σ := by
  intro n hn
  simp only [Heap.away] at hn
  split at hn
  ·rename_i hs
   obtain ⟨e, e1, e2⟩ := List.any_eq_true.1 hs
   simp only [ae] at e2
   exact .inr ⟨e.1, by rw [← e2]; exact e1⟩
  ·exact .inl hn
 have hnone : ∀ n, n ∈ t.names ρ → ((dw m.u H).away m) n = none := by
  unfold Tmpl.free at hfree
  simp only [ai, aR, Option.isNone_iff_eq_none] at hfree
  exact hfree.2
 have apart : ∀ n e g, (I.dels m.u).ι n = some e → e.blk = some g → n ∉ m.σ.map (·.2) → ∀ n' e', I0.ι n' = some e' → e'.blk ≠ some g := by
  intro n e g hn hg hns n' e' hn' hg'
  obtain ⟨n2, e2, k1, k2, k3⟩ := nm n' e' g hn' hg'
  obtain ⟨d1, d2⟩ := dl n e hn
  have := hH.inj n n2 e e2 g d1 k1 hg k2
  subst this
  rcases k3 with k3 | k3
  ·exact d2 k3
  ·exact hns k3
 have nsig : ∀ n, n ∉ t.names ρ → n ∉ m.σ.map (·.2) := by
  intro n hn hm
  obtain ⟨⟨i, n'⟩, e1, e2⟩ := List.mem_map.1 hm
  simp only at e2
  subst e2
  obtain ⟨_, i2, _, i4, _⟩ := ob i n' e1
  exact hn (i4 ▸ JM i2)
 have hbase : Base I2 (I.dels m.u) w2 t ρ m1 ((dw m.u H).away m) := by
  refine ⟨fun n q hq => ?_, fun n hn hm => ?_, fun n e hm hn => ?_, fun n e g hm hn hg => ?_, fun n n' e e' g _ _ hn hn' hg hg' => hd.inj n n' e e' g hn hn' hg hg', fun g hg => he.ro g (by rw [h0.R]; exact hg), fun n e n' e' g hm hn hn' _ hg hg' => ?_⟩
  ·obtain ⟨h1, h2⟩ := away n q hq
   have hs : Same (I.dels m.u) (I.dels m.u) w w2 := by
    refine ⟨⟨fun _ h => h, fun g hg => he.same g (hH.rlt g hg) fun n' e' hn' hg' => ?_⟩, fun _ _ h => h, fun _ _ _ h => h⟩
    obtain ⟨n2, e2, k1, k2, _⟩ := nm n' e' g hn' hg'
    exact (hH.lt n2 e2 g k1 k2).2 hg
   exact (hd.br h1).keep hs fun e g hn hg => he.same g (hd.lt n e g hn hg).1 (apart n e g hn hg h2)
  ·rcases awayN n hn with h1 | ⟨i, h1⟩
   ·exact hd.dom n h1
   ·exact absurd (bn (f := (·.2)) h1) (nsig n hm)
  ·rcases awayN n (hnone n hm) with h1 | ⟨i, h1⟩
   ·rw [hd.dom n h1] at hn; cases hn
   ·obtain ⟨_, _, i3, i4, q, i5, i6⟩ := ob i n h1
    refine ⟨i, i, i3, i4.symm, ?_⟩
    rw [(dl n e hn).1] at i5
    rw [i5]
    exact i6
  ·have h1 := hd.lt n e g hn hg
   refine ⟨bk h1.1 he.size, fun hR => ?_⟩
   rcases he.newR g hR with h2 | ⟨n', e', h2, h3⟩ | h2
   ·rw [h0.R] at h2
    exact h1.2 h2
   ·exact apart n e g hn hg (nsig n hm) n' e' h2 h3
   ·omega
  ·have h1 := hd.lt n e g hn hg
   rcases he.own n' e' g hn' hg' with ⟨n2, e2, h2, h3⟩ | h2
   ·exact apart n e g hn hg (nsig n hm) n2 e2 h2 h3
   ·omega
 obtain ⟨⟨I4, hl⟩, hlen, _⟩ := mw hH2 rfl hpr hV hbase hfree
 have keep : ∀ n e, n ∉ m.u → I.ι n = some e → I4.ι n = some e := fun n e hn h => hl.same n e (by simp only [In.dels, hn, au]; exact h)
 refine ⟨I4, hl.hr, hl.val, ⟨fun n g hn => ?_, fun g hg => ?_, fun g hg hn => ?_, fun n e g hn hg => ?_, fun g hg => ?_, he.size, he.os, he.tape, he.output⟩, fun n sz v hn h => keep n _ hn h, hlen⟩
 ·refine keep n _ (fun hu => ?_) hn
  obtain ⟨sz, v, h1⟩ := h0.rows n hu
  rw [hn] at h1
  cases h1
 ·rw [hl.R]
  exact he.ro g (by rw [h0.R]; exact hg)
 ·refine he.same g hg fun n e hn' he' => ?_
  obtain ⟨n2, e2, k1, k2, _⟩ := nm n e g hn' he'
  exact hn n2 e2 k1 k2
 ·have within : ∀ n' e', I2.ι n' = some e' → e'.blk = some g → (∃ m e', I.ι m = some e' ∧ e'.blk = some g) ∨ w.heap.size ≤ g := by
   intro n' e' h1 h2
   rcases he.own n' e' g h1 h2 with ⟨n2, e2, h3, h4⟩ | h3
   ·obtain ⟨n3, e3, k1, k2, _⟩ := nm n2 e2 g h3 h4
    exact .inl ⟨n3, e3, k1, k2⟩
   ·exact .inr h3
  by_cases hm : n ∈ t.names ρ
  ·obtain ⟨n', e', h1, h2, _⟩ := hl.old n e g hm hn hg
   exact within n' e' h1 h2
  ·rw [hl.out n hm] at hn
   exact .inl ⟨n, e, (dl n e hn).1, hg⟩
 ·rw [hl.R] at hg
  rcases he.newR g hg with h1 | ⟨n, e, h1, h2⟩ | h1
  ·rw [h0.R] at h1
   exact .inl h1
  ·obtain ⟨n3, e3, k1, k2, _⟩ := nm n e g h1 h2
   exact .inr (.inl ⟨n3, e3, k1, k2⟩)
  ·exact .inr (.inr h1)
theorem JN {I0 I1 I2 : In} {w w1 : World} {t : Tmpl} {x z : t.Ty} {m0 m : Met} {v0 vals : Nat → Value} {I : In} (h0 : Lay I ⟨fun _ => none, I.R⟩ I0 w t dy x m0 v0 (fun _ => none)) (he : Ext I0 w I1 w1) (hl : Lay I1 ⟨fun _ => none, I1.R⟩ I2 w1 t dy z m vals (fun _ => none)) (hm : (l3 t.os.length).σ ⊆ m.σ) : Ext I0 w I2 w1 := by
 refine ⟨fun n b hn => ?_, fun g hg => by rw [hl.R]; exact he.ro g hg, he.same, fun n e g hn hg => ?_, fun g hg => by rw [hl.R] at hg; exact he.newR g hg, he.size, he.os, he.tape, he.output⟩
 ·by_cases hnm : n ∈ t.names dy
  ·rcases h0.row n _ hnm hn with ⟨b', e1, i, hi, hni⟩ | ⟨sz, v, e1⟩
   ·have hni' : n = i := hni
    subst hni'
    have h1 := he.obj _ _ hn
    obtain ⟨n', b2, e2, e3, e4⟩ := hl.obj n hi
    have : (n, n') = (n, n) := fK hl.key e2 (hm (ze hi)) rfl
    simp only [ah, true_and] at this
    subst this
    rw [h1] at e3
    simp only [aa, Ent.obj.injEq] at e3
    subst e3
    exact e4
   ·cases e1
  ·rw [h0.out n hnm] at hn
   cases hn
 ·by_cases hnm : n ∈ t.names dy
  ·obtain ⟨n', e', h1, h2, _⟩ := hl.old n e g hnm hn hg
   exact he.own n' e' g h1 h2
  ·rw [hl.out n hnm] at hn
   cases hn
theorem my {I2 : In} {w : World} {t : Tmpl} {x : t.Ty} {ρ : Nam} {a : Act} (hv : ∀ i, VR I2 w ((t.T ρ x).getD i .undef) (a.tmps.getD i undef)) (hl : t.ks.length ≤ a.tmps.size) (hd : a.defers = []) : TR I2 w (t.T ρ x) a :=
 ⟨by unfold Tmpl.T; rw [gn]; exact hl, hv, hd⟩
theorem Kr {cx : Cx} {fuel f d : Nat} {L : Loop} {c : Code} {step : (L.X → Option L.R) → L.X → Option L.R} (hg : Good cx) (hsub : ∀ id L', cx.loops f id = some L' → ∀ c', (id, c') ∈ ey c → LoopOk cx.P L' c') (heq : RoundEq cx fuel f d L c step) (hfn : ∀ x y, L.fn x = some y → ∃ n, it step n x = some y) (hib : ∀ y, L.into (L.back y) = y) (hoi : ∀ o, L.out (L.inn o) = o)
  (hnam : L.tin.free dy (fun _ => none) = true) : LoopOk cx.P L (.loop c) := by
 refine xf ?_
 intro α I w T a H b k r hT hH h
 unfold rJ at h
 split at h
 ·rename_i x m hx
  obtain ⟨y, hy, hout⟩ := Option.bind_eq_some_iff.1 h
  obtain ⟨n, hn⟩ := hfn _ _ hy
  obtain ⟨⟨I0, hL0⟩, hlen, _⟩ := mw (ρ := dy) hH rfl hx hT.val (ki I w L.tin dy m) hnam
  refine r4 (n := n) (fun n a' w' => ∃ I' X, Ext I0 w I' w' ∧ HR I' w' (L.tin.H dy (L.into X) fun _ => none) ∧ TR I' w' (L.tin.T dy (L.into X)) a' ∧ it step n X = some y) ?_ ?_ ?_
  ·refine ⟨I0, L.back x, Ext.refl I0 w, by rw [hib]; exact hL0.hr, ?_, hn⟩
   rw [hib]
   exact my hL0.val (aX hlen hT.len) hT.df
  ·rintro a w ⟨I', X, _, _, _, h⟩
   cases h
  ·rintro n a1 w1 ⟨I1, X, he1, hH1, hT1, h1⟩
   have h2 := (heq (it step n) X).trans h1
   refine Code.wp_mono ?_ (r5 hg (oA hg fuel (d + 1)) c hsub hT1 hH1 h2)
   rintro e a2 w2 ⟨I2, T2, H2, ex, hex, he2, hH2, hT2, h3⟩
   have he := he1.trans he2
   have out : oB L.tin.os.length ex T2 H2 L.outs L.inn = some y → PostC I w k r e a2 w2 := by
    intro hxk
    obtain ⟨t, z, m1, o, hz, hyo, hK⟩ := nj hxk
    rw [hyo, hoi, hK] at hout
    simp only at hout
    split at hout
    ·rename_i hfree
     obtain ⟨I4, g1, g2, g3, _, g4⟩ := yk hH hL0 he hH2 hz hT2.val (fun i n hin => Bk hL0.key hin) hfree
     exact ⟨I4, _, _, ex, hex, g3, g1, my g2 (aX g4 hT2.len) hT2.df, hout⟩
    ·cases hout
   cases ex with
   | norm =>
    cases e <;> first | exact hex.elim | skip
    simp only [sd] at h3
    split at h3
    ·rename_i z m1 hz
     obtain ⟨⟨I3, hL3⟩, hlen3, hm3⟩ := mw (ρ := dy) hH2 rfl hz hT2.val (ki I2 w2 L.tin dy m1) hnam
     refine ⟨I3, L.back z, JN hL0 he hL3 hm3, by rw [hib]; exact hL3.hr, ?_, h3⟩
     rw [hib]
     exact my hL3.val (aX hlen3 hT2.len) hT2.df
    ·cases h3
   | exit i =>
    have := out h3
    cases e <;> first | exact hex.elim | exact this
   | goto i =>
    have := out h3
    cases e <;> first | exact hex.elim | exact this
   | ret =>
    have := out h3
    cases e <;> first | exact hex.elim | exact this
 ·cases h
def Jr (L : Loop) : Ex → List DV → Heap → Option L.R := fun e T H => oB L.tin.os.length e T H L.outs L.inn
theorem Ks {cx : Cx} {fuel f d : Nat} {L : Loop} {c : Code} (hg : Good cx) (hsub : ∀ id L', cx.loops f id = some L' → ∀ c', (id, c') ∈ ey c → LoopOk cx.P L' c') (heq : ∀ x, dO cx (fN cx fuel (d + 1)) f d c (L.tin.T dy (L.into x)) (L.tin.H dy (L.into x) fun _ => none) (Jr L) = L.fn x) (hib : ∀ y, L.into (L.back y) = y) (hoi : ∀ o, L.out (L.inn o) = o)
  (hnam : L.tin.free dy (fun _ => none) = true) : LoopOk cx.P L c := by
 refine xf ?_
 intro α I w T a H b k r hT hH h
 unfold rJ at h
 split at h
 ·rename_i x m hx
  obtain ⟨y, hy, hout⟩ := Option.bind_eq_some_iff.1 h
  obtain ⟨⟨I0, hL0⟩, hlen, _⟩ := mw (ρ := dy) hH rfl hx hT.val (ki I w L.tin dy m) hnam
  have hT1 : TR I0 w (L.tin.T dy (L.into (L.back x))) a := by
   rw [hib]
   exact my hL0.val (aX hlen hT.len) hT.df
  have hH1 : HR I0 w (L.tin.H dy (L.into (L.back x)) fun _ => none) := by rw [hib]; exact hL0.hr
  refine Code.wp_mono ?_ (r5 hg (oA hg fuel (d + 1)) c hsub hT1 hH1 ((heq _).trans hy))
  rintro e a2 w2 ⟨I2, T2, H2, ex, hex, he, hH2, hT2, hxk⟩
  obtain ⟨t, z, m1, o, hz, hyo, hK⟩ := nj hxk
  rw [hyo, hoi, hK] at hout
  simp only at hout
  split at hout
  ·rename_i hfree
   obtain ⟨I4, g1, g2, g3, _, g4⟩ := yk hH hL0 he hH2 hz hT2.val (fun i n hin => Bk hL0.key hin) hfree
   exact ⟨I4, _, _, ex, hex, g3, g1, my g2 (aX g4 hT2.len) hT2.df, hout⟩
  ·cases hout
 ·cases h
def Av : Nat → DV → Option (List DV)
 | 1, v => some [v]
 | n, .tup l => if l.length = n then some l else none
 | _, _ => none
def Kt (S : FS) : DV → Heap → Option S.R := fun v H => match Av S.tout.ks.length v with
 | some l => match (if jS S.tout.ks = true then jF l [] H else (l, [], H)) with
  | (l, _, H) => match S.tout.pr (l3 S.tin.os.length) l H with
   | some (z, _) => some (S.inn z)
   | none => none
 | none => none
def dk (cx : Cx) (fuel f d : Nat) (S : FS) : Prop := ∀ x, jV cx (fN cx fuel (d + 1)) f d (S.tin.T dy x) (S.tin.H dy x fun _ => none) (Kt S) = S.fn x
theorem Bl {I : In} {w : World} {n : Nat} {v : DV} {u : Value} {l : List DV} (hv : VR I w v u) (h : Av n v = some l) : ∃ us : List Value, us.length = n ∧ LR I w l us ∧ (∀ {I' : In} {l' : List DV}, LR I' w l' us → VR I' w (gf l') u) := by
 unfold Av at h
 split at h
 ·simp only [aa] at h
  subst h
  refine ⟨[u], rfl, .cons _ _ _ _ hv .nil, fun {I' l'} hl => ?_⟩
  cases hl with | cons d r _ _ hd hr => cases hr; exact hd
 ·rename_i l0 hn
  split at h
  ·rename_i hlen
   simp only [aa] at h
   subst h
   cases hv with | tup _ vs hl =>
   refine ⟨vs.toList, by rw [← hlen, hl.length], hl, fun {I' l'} hl' => ?_⟩
   have h1 := hl'.length
   have h2 := hl.length
   cases l' with
   | nil => exact .tup _ vs hl'
   | cons d r => cases r with
    | nil =>
     exfalso
     apply hn
     rw [← hlen, h2, ← h1]
     rfl
    | cons d' r' => exact .tup _ vs hl'
  ·cases h
 ·cases h
theorem LR.of {I : In} {w : World} : ∀ {l : List DV} {us : List Value}, l.length = us.length → (∀ i, VR I w (l.getD i .undef) (us.getD i undef)) → LR I w l us
 | [], [], _, _ => .nil
 | [], u :: us, h, _ => by simp at h
 | d :: l, [], h, _ => by simp at h
 | d :: l, u :: us, h, hv => .cons _ _ _ _ (hv 0) (LR.of (by simpa using h) (fun i => by simpa using hv (i + 1)))
theorem Bm {cx : Cx} {fuel f d : Nat} {S : FS} (hg : Good cx) (heq : dk cx fuel f d S) (hoi : ∀ o, S.out (S.inn o) = o) (hnam : S.tin.free dy (fun _ => none) = true) : jd cx.P f S := by
 intro α I w H A args ρ k r x m hH hA hx hρ h
 obtain ⟨y, hy, hk⟩ := Option.bind_eq_some_iff.1 h
 obtain ⟨⟨I0, hL0⟩, hlen, _⟩ := mw (ρ := dy) hH rfl hx (vals := fun i => args.getD i undef) (fun i => hA.getD i) (ki I w S.tin dy m) hnam
 have hle : (S.tin.T dy x).length ≤ args.length := by
  unfold Tmpl.T
  rw [gn, ← hA.length]
  exact hlen
 have hb := (heq x).trans hy
 refine Calls.mono (vm hg (oA hg fuel (d + 1)) hL0.hr hle hL0.val hb) ?_
 rintro e w' he
 cases e with
 | returned z =>
  obtain ⟨I', v, H', h1, h2, h3, h4⟩ := he
  unfold Kt at h1
  split at h1
  ·rename_i l hl
   split at h1
   rename_i A1 T1 H1 hs
   obtain ⟨us, u1, u2', u3⟩ := Bl h4 hl
   obtain ⟨I1, h3', h2', u2⟩ : ∃ I1, HR I1 w' H1 ∧ Ext I' w' I1 w' ∧ LR I1 w' A1 us := by
    split at hs
    ·obtain ⟨I1, q1, q2, _, q4⟩ := ja (a := ⟨#[], []⟩) h3 ⟨ak _, fun i => .undef _, rfl⟩ u2' hs
     exact ⟨I1, q1, q2, q4⟩
    ·simp only [ah] at hs
     obtain ⟨rfl, rfl, rfl⟩ := hs
     exact ⟨I', h3, Ext.refl _ _, u2'⟩
   split at h1
   ·rename_i zz m1 hz
    simp only [aa] at h1
    rw [← h1, hoi] at hk
    split at hk
    ·rename_i hfree
     obtain ⟨I4, g1, g2, g3, g4, g5⟩ := yk hH hL0 (h2.trans h2') h3' hz (vals := fun i => us.getD i undef) (fun i => u2.getD i) hρ hfree
     refine ⟨I4, _, _, _, hk, g3, g1, u3 (LR.of ?_ g2), fun l hl n sz v hn hi => ?_⟩
     ·unfold Tmpl.T
      rw [gn, u1]
     ·simp only [aa] at hl
      subst hl
      exact g4 n sz v hn hi
    ·cases hk
   ·cases h1
  ·cases h1
 | _ => exact he.elim
theorem lL : ∀ {ks : List IK} {H : Heap} {T : List DV} {m m' : Met} {x : hP ks}, jS ks = true → eb H ks T m = some (x, m') → m' = m ∧ ∀ H', eb H' ks T m = some (x, m)
 | [], H, T, m, m', x, hp, h => by
  cases T with
  | cons d r => simp only [eb] at h; cases h
  | nil =>
  simp only [eb, aa, ah] at h
  exact ⟨h.2.symm, fun H' => rfl⟩
 | .any :: r, H, T, m, m', x, hp, h => by
  simp only [eb] at h ⊢
  split at h
  ·exact lL hp h
  ·cases h
 | .val s :: r, H, T, m, m', x, hp, h => by
  simp only [eb] at h ⊢
  split at h
  ·split at h
   ·rename_i y hy
    split at h
    ·rename_i z m1 hz
     simp only [aa, ah] at h
     obtain ⟨rfl, rfl⟩ := h
     obtain ⟨h1, h2⟩ := lL (ks := r) hp hz
     exact ⟨h1, fun H' => by simp only [hy, h2 H']⟩
    ·cases h
   ·cases h
  ·cases h
 | .agf s F :: r, H, T, m, m', x, hp, h => by
  simp only [eb] at h ⊢
  split at h
  ·split at h
   ·rename_i y F' hy
    split at h
    ·rename_i hF
     split at h
     ·rename_i z m1 hz
      simp only [aa, ah] at h
      obtain ⟨rfl, rfl⟩ := h
      obtain ⟨h1, h2⟩ := lL (ks := r) hp hz
      exact ⟨h1, fun H' => by simp only [hy, hF, if_true, h2 H']⟩
     ·cases h
    ·cases h
   ·cases h
  ·cases h
 | .row E s :: r, H, T, m, m', x, hp, h => by cases hp
 | .obj i :: r, H, T, m, m', x, hp, h => by cases hp
 | .clo F [] :: r, H, T, m, m', x, hp, h => by
  simp only [eb] at h ⊢
  split at h
  ·split at h
   ·rename_i hF
    split at h
    ·rename_i m1 hm
     have hm' := hm
     simp only [pk] at hm
     split at hm
     ·simp only [aa] at hm
      subst hm
      obtain ⟨h1, h2⟩ := lL (ks := r) hp h
      exact ⟨h1, fun H' => by simp only [hF, if_true, hm', h2 H']⟩
     ·cases hm
    ·cases h
   ·cases h
  ·cases h
 | .clo F (i :: is) :: r, H, T, m, m', x, hp, h => by cases hp
 | .tab ks vs :: r, H, T, m, m', x, hp, h => by cases h
theorem iG {ρ : Nam} : ∀ {ks : List IK} {c : Nat} {x : hP ks} {H : Heap}, jS ks = true → fC ρ c ks x H = H ∧ dV ρ c ks = []
 | [], _, _, _, _ => ⟨rfl, rfl⟩
 | .any :: r, c, x, H, hp => by simp only [fC, dV]; exact iG (ks := r) hp
 | .val s :: r, c, x, H, hp => by simp only [fC, dV]; exact iG (ks := r) hp
 | .agf s F :: r, c, x, H, hp => by simp only [fC, dV]; exact iG (ks := r) hp
 | .row E s :: r, c, x, H, hp => by cases hp
 | .obj i :: r, c, x, H, hp => by cases hp
 | .clo F [] :: r, c, x, H, hp => by simp only [fC, dV]; exact iG (ks := r) hp
 | .clo F (i :: is) :: r, c, x, H, hp => by cases hp
 | .tab _ _ :: r, c, x, H, hp => by simp only [fC, dV]; exact iG (ks := r) hp
theorem Sh.same_self : ∀ s : Sh, s.same s = some ⟨rfl⟩
 | .int k => by simp [Sh.same]
 | .bool => rfl
 | .str => rfl
 | .pair a b => by simp [Sh.same, same_self a, same_self b]
 | .sl e => by simp [Sh.same, same_self e]
 | .arr n e => by simp [Sh.same, same_self e]
theorem Sh.dec_enc : ∀ (s : Sh) (x : s.T) (r : List DV), s.dec (s.enc x ++ r) = some (x, r)
 | .int k, x, r => by simp [Sh.enc, Sh.dec]
 | .bool, x, r => by simp [Sh.enc, Sh.dec]
 | .str, x, r => by simp [Sh.enc, Sh.dec]
 | .pair a b, x, r => by simp only [Sh.enc, Sh.dec, aL, dec_enc a, dec_enc b]
 | .sl e, x, r => by simp [Sh.enc, Sh.dec, Sh.same_self]
 | .arr n e, x, r => by simp [Sh.enc, Sh.dec, Sh.same_self]
theorem Fw (s : Sh) (x : s.T) : wE s (s.val x) = some x := by
 have h := Sh.dec_enc s x []
 rw [aK] at h
 unfold wE Sh.val
 split
 ·simp only [h]
 ·rename_i hm
  have : s.enc x = [((s.enc x).head?).getD .undef] := by
   cases s <;> first | rfl | exact absurd rfl hm
  rw [← this, h]
theorem mz {ρ : Nam} : ∀ {ks : List IK} {H H' : Heap} {T : List DV} {m m' : Met} {x : hP ks} {c : Nat}, jS ks = true → eb H ks T m = some (x, m') → eb H' ks (mW ρ c ks x) m = some (x, m)
 | [], H, H', T, m, m', x, c, hp, h => rfl
 | .any :: r, H, H', T, m, m', x, c, hp, h => by
  simp only [eb, mW] at h ⊢
  split at h
  ·exact mz (ks := r) hp h
  ·cases h
 | .val s :: r, H, H', T, m, m', x, c, hp, h => by
  simp only [eb, mW] at h ⊢
  split at h
  ·split at h
   ·rename_i y hy
    split at h
    ·rename_i z m1 hz
     simp only [aa, ah] at h
     obtain ⟨rfl, rfl⟩ := h
     simp only [Fw, mz (ks := r) (H' := H') (c := c + 1) hp hz]
    ·cases h
   ·cases h
  ·cases h
 | .agf s F :: r, H, H', T, m, m', x, c, hp, h => by
  simp only [eb, mW] at h ⊢
  split at h
  ·split at h
   ·split at h
    ·split at h
     ·rename_i z m1 hz
      simp only [aa, ah] at h
      obtain ⟨rfl, rfl⟩ := h
      simp only [Sh.dec_enc, if_true, mz (ks := r) (H' := H') (c := c + 1) hp hz]
     ·cases h
    ·cases h
   ·cases h
  ·cases h
 | .row E s :: r, H, H', T, m, m', x, c, hp, h => by cases hp
 | .obj i :: r, H, H', T, m, m', x, c, hp, h => by cases hp
 | .clo F [] :: r, H, H', T, m, m', x, c, hp, h => by
  simp only [eb, mW] at h ⊢
  split at h
  ·split at h
   ·split at h
    ·rename_i m1 hm
     simp only [pk] at hm
     split at hm
     ·simp only [aa] at hm
      subst hm
      simp only [List.map_nil, if_true, pk, List.isEmpty_nil, mz (ks := r) (H' := H') (c := c + 1) hp h]
     ·cases hm
    ·cases h
   ·cases h
  ·cases h
 | .clo F (i :: is) :: r, H, H', T, m, m', x, c, hp, h => by cases hp
 | .tab ks vs :: r, H, H', T, m, m', x, c, hp, h => by cases h
theorem lM {H : Heap} : ∀ {ks : List IK} {T : List DV} {m : Met} {p : hP ks × Met}, jS ks = true → eb H ks T m = some p → T.length = ks.length
 | [], [], m, p, hp, h => rfl
 | [], d :: T, m, p, hp, h => by cases h
 | .any :: r, T, m, p, hp, h => by
  simp only [eb] at h
  split at h
  ·simp [lM (ks := r) hp h]
  ·cases h
 | .val s :: r, T, m, p, hp, h => by
  simp only [eb] at h
  split at h
  ·split at h
   ·split at h
    ·rename_i hz
     simp [lM (ks := r) hp hz]
    ·cases h
   ·cases h
  ·cases h
 | .agf s F :: r, T, m, p, hp, h => by
  simp only [eb] at h
  split at h
  ·split at h
   ·split at h
    ·split at h
     ·rename_i hz
      simp [lM (ks := r) hp hz]
     ·cases h
    ·cases h
   ·cases h
  ·cases h
 | .row E s :: r, T, m, p, hp, h => by cases hp
 | .obj i :: r, T, m, p, hp, h => by cases hp
 | .clo F [] :: r, T, m, p, hp, h => by
  simp only [eb] at h
  split at h
  ·split at h
   ·split at h
    ·simp [lM (ks := r) hp h]
    ·cases h
   ·cases h
  ·cases h
 | .clo F (i :: is) :: r, T, m, p, hp, h => by cases hp
 | .tab ks vs :: r, T, m, p, hp, h => by cases h
theorem D9 {I I0 I' : In} {w w' : World} {d : DV} {z : Value} (hR : I0.R = I.R) (h0 : ∀ n, I0.ι n = none) (he : Ext I0 w I' w') (hH : HR I' w' fun _ => none) (h : VR I' w' d z) : VR (I.grow w w') w' d z := by
 have hn : ∀ n, I'.ι n = none := fun n => hH.dom n rfl
 refine VR.keep ⟨⟨fun b hb => ?_, fun _ _ => rfl⟩, fun n b h => by rw [hn] at h; (cases h), fun n sz v h => by rw [hn] at h; (cases h)⟩ h
 rcases he.newR b hb with h1 | ⟨m, e, h1, _⟩ | h1
 ·exact .inl (hR ▸ h1)
 ·rw [h0] at h1; cases h1
 ·exact .inr ⟨h1, hH.rlt b hb⟩
theorem GrowW.of {I0 I' : In} {w w' : World} (h0 : ∀ n, I0.ι n = none) (he : Ext I0 w I' w') : GrowW w w' :=
 ⟨he.size, fun b hb => he.same b hb fun n e h => by rw [h0] at h; (cases h), he.os, he.tape, he.output⟩
theorem Ku {P : Program} {f : FuncId} {S : FS} (h : jd P f S) (hp : FS.pure S = true) : rT P f S := by
 intro I w H A args X m Y hH hA hX hY
 obtain ⟨⟨ks, os⟩, ⟨oks, oos⟩, R, out, inn, fn⟩ := S
 simp only [FS.pure, ai, List.isEmpty_iff] at hp
 obtain ⟨⟨⟨p1, p2⟩, p3⟩, p4⟩ := hp
 subst p2 p4
 have hpr : m = ⟨[], []⟩ ∧ Tmpl.pr ⟨ks, []⟩ ⟨[], []⟩ A H = some (X, m) ∧ A.length = ks.length ∧ Tmpl.pr ⟨ks, []⟩ ⟨[], []⟩ (Tmpl.T ⟨ks, []⟩ dy X) (fun _ => none) = some (X, ⟨[], []⟩) := by
  unfold Tmpl.pr at hX ⊢
  split at hX
  ·rename_i x m1 hx
   obtain ⟨rfl, h2⟩ := lL p1 hx
   simp only [mX] at hX
   split at hX
   ·rename_i hc
    simp only [aa, ah] at hX
    obtain ⟨rfl, rfl⟩ := hX
    refine ⟨rfl, ?_, lM p1 hx, ?_⟩
    ·simp only [h2 H, mX]
     rw [if_pos hc]
    ·unfold Tmpl.T
     simp only [mz (H' := fun _ => none) (ρ := dy) (c := 0) p1 hx, mX]
     rw [if_pos hc]
   ·cases hX
  ·cases hX
 obtain ⟨rfl, hpr, hlA, hagain⟩ := hpr
 have hnames : ∀ (t : List IK) (y : hP t) (ρ : Nam), jS t = true → Tmpl.names ⟨t, []⟩ ρ = [] := by
  intro t y ρ hp
  unfold Tmpl.names
  simp only [fP, aK]
  exact (iG (ρ := ρ) (c := 0) (x := y) (H := H) hp).2
 have hfree : ∀ (t : List IK) (y : hP t) (ρ : Nam) (H : Heap), jS t = true → Tmpl.free ⟨t, []⟩ ρ H = true := by
  intro t y ρ H hp
  unfold Tmpl.free
  rw [hnames t y ρ hp]
  rfl
 obtain ⟨⟨I0, hL0⟩, hlen, _⟩ := mw (ρ := dy) hH rfl hpr (vals := fun i => args.getD i undef) (fun i => hA.getD i) (ki I w ⟨ks, []⟩ dy ⟨[], []⟩) (hfree ks X.1 dy _ p1)
 have hHn : ∀ (t : List IK) (y : hP t × oS []) (ρ : Nam) (H0 : Heap), jS t = true → Tmpl.H ⟨t, []⟩ ρ y H0 = H0 := fun t y ρ H0 hp => by
  unfold Tmpl.H
  simp only [rC]
  exact (iG hp).1
 have hH0 : HR I0 w fun _ => none := by
  have := hL0.hr
  rw [hHn ks X dy _ p1] at this
  exact this
 have hι : ∀ n, I0.ι n = none := fun n => hH0.dom n rfl
 have hT0 : (Tmpl.T ⟨ks, []⟩ dy X).length = ks.length := by unfold Tmpl.T; rw [gn]
 have hA0 : LR I0 w (Tmpl.T ⟨ks, []⟩ dy X) args := LR.of (by rw [hT0, ← hlA, hA.length]) hL0.val
 refine Calls.mono (h (ρ := dy) (k := fun v H u => some (v, H, u)) hH0 hA0 hagain (fun i n h => by cases h) (by have hY' : fn X = some Y := hY; simp only [hY', ab]; exact if_pos (hfree oks (out Y).1 _ _ p3))) ?_
 rintro e w' he
 cases e with
 | returned z =>
  obtain ⟨I', v, H', u, h1, h2, h3, h4, h5⟩ := he
  simp only [aa, ah] at h1
  obtain ⟨rfl, rfl, rfl⟩ := h1
  have h3' : HR I' w' fun _ => none := by
   have e1 : (dw [] (fun _ => none)).away ⟨[], []⟩ = (fun _ => none) := rfl
   have e2 := hHn oks (out Y) dy (fun _ => none) p3
   have h3' : HR I' w' (Tmpl.H ⟨oks, []⟩ dy (out Y) ((dw [] (fun _ => none)).away ⟨[], []⟩)) := h3
   rw [e1, e2] at h3'
   exact h3'
  exact ⟨GrowW.of hι h2, D9 hL0.R hι h2 h3' h4⟩
 | _ => exact he.elim
def Cx.addSpec (cx : Cx) (f : FuncId) (S : FS) : Cx := ⟨cx.P, cx.loops, fun g => if Nat.beq g f then S :: cx.specs g else cx.specs g, cx.tabs, cx.qs⟩
def Cx.addLoop (cx : Cx) (f : FuncId) (id : Nat) (L : Loop) : Cx := ⟨cx.P, fun g i => if Nat.beq g f && Nat.beq i id then some L else cx.loops g i, cx.specs, cx.tabs, cx.qs⟩
def Cx.bare (cx : Cx) : Cx := ⟨cx.P, fun _ _ => none, cx.specs, cx.tabs, cx.qs⟩
def Pc (P : Program) : Cx := ⟨P, fun _ _ => none, fun _ => [], fun _ => none, fun _ => []⟩
theorem Ea (P : Program) : Good (Pc P) := ⟨fun f S h => (by cases h), fun f id L h => (by cases h), fun f S h => (by cases h), fun f t h => (by cases h), fun f S h => (by cases h)⟩
theorem Good.bare {cx : Cx} (h : Good cx) : Good cx.bare := ⟨h.specs, fun f id L hl => (by cases hl), h.pures, h.tabs, h.qs⟩
theorem Good.addSpec {cx : Cx} (h : Good cx) {f : FuncId} {S : FS} (hS : jd cx.P f S) : Good (cx.addSpec f S) := by
 have key : ∀ g S', S' ∈ (cx.addSpec f S).specs g → S' ∈ cx.specs g ∨ (g = f ∧ S' = S) := by
  intro g S' hm
  simp only [Cx.addSpec] at hm
  split at hm
  ·rename_i hg
   rcases aC.1 hm with rfl | hm
   ·exact .inr ⟨bU hg, rfl⟩
   ·exact .inl hm
  ·exact .inl hm
 refine ⟨fun g S' hm => ?_, h.loops, fun g S' hm hp => ?_, h.tabs, h.qs⟩
 ·rcases key g S' hm with hm | ⟨rfl, rfl⟩
  ·exact h.specs g S' hm
  ·exact hS
 ·rcases key g S' hm with hm | ⟨rfl, rfl⟩
  ·exact h.pures g S' hm hp
  ·exact Ku hS hp
def ii (P : Program) (f : FuncId) (id : Nat) : List Code := match P.funcs[f]? with
 | some fn => match fn.body with
  | some c => (ey c).filterMap fun p => if Nat.beq p.1 id then some p.2 else none
  | none => []
 | none => []
theorem Cz : ∀ {c c' : Code} {id : Nat} {p : Nat × Code}, (id, c') ∈ ey c → p ∈ ey c' → p ∈ ey c := by
 intro c
 induction c with
 | seq a b iha ihb =>
  intro c' id p h h2
  simp only [ey, az, aC, ah] at h ⊢
  rcases h with ⟨rfl, rfl⟩ | h | h
  ·exact .inr (.inl h2)
  ·exact .inr (.inl (iha h h2))
  ·exact .inr (.inr (ihb h h2))
 | cond c a b iha ihb =>
  intro c' id p h h2
  simp only [ey, az] at h ⊢
  exact h.imp (fun h => iha h h2) (fun h => ihb h h2)
 | block id c ih => intro c' id p h h2; exact ih h h2
 | scope c ih => intro c' id p h h2; exact ih h h2
 | loop c ih =>
  intro c' id p h h2
  simp only [ey, aC, ah] at h
  rcases h with ⟨rfl, rfl⟩ | h
  ·exact h2
  ·simp only [ey, aC]
   exact .inr (ih h h2)
 | _ => intro c' id p h; simp [ey] at h
theorem CA {P : Program} {f : FuncId} {id : Nat} {c0 : Code} (h : c0 ∈ ii P f id) : ∃ fn c, P.funcs[f]? = some fn ∧ fn.body = some c ∧ (id, c0) ∈ ey c := by
 unfold ii at h
 split at h
 ·rename_i fn hf
  split at h
  ·rename_i c hb
   obtain ⟨⟨i, c'⟩, h1, h2⟩ := List.mem_filterMap.1 h
   split at h2
   ·rename_i hi
    simp only [aa] at h2
    subst h2
    have := bU hi
    simp only at this
    subst this
    exact ⟨fn, c, hf, hb, h1⟩
   ·cases h2
  ·cases h
 ·cases h
theorem Good.addLoop {cx : Cx} (h : Good cx) {f : FuncId} {id : Nat} {L : Loop} {c0 : Code} (h1 : ii cx.P f id = [c0]) (hL : LoopOk cx.P L c0) : Good (cx.addLoop f id L) := by
 refine ⟨h.specs, fun g i L' hl fn c c' hf hb hc => ?_, h.pures, h.tabs, h.qs⟩
 simp only [Cx.addLoop] at hl
 split at hl
 ·rename_i hg
  simp only [ai] at hg
  have e1 := bU hg.1
  have e2 := bU hg.2
  subst e1 e2
  simp only [aa] at hl
  subst hl
  have hf' : cx.P.funcs[g]? = some fn := hf
  have : c' ∈ ii cx.P g i := by
   unfold ii
   rw [hf']
   simp only [hb]
   rw [List.mem_filterMap]
   exact ⟨(i, c'), hc, by simp⟩
  rw [h1] at this
  simp only [ax] at this
  subst this
  intro α I w T a H b k r hT hH hh
  exact hL hT hH hh
 ·exact h.loops g i L' hl fn c c' hf hb hc
theorem Good.sub {cx : Cx} (h : Good cx) {f : FuncId} {id : Nat} {c0 : Code} (hm : c0 ∈ ii cx.P f id) : ∀ i L', cx.loops f i = some L' → ∀ c', (i, c') ∈ ey c0 → LoopOk cx.P L' c' := by
 obtain ⟨fn, c, hf, hb, hc⟩ := CA hm
 intro i L' hl c' hc'
 intro α I w T a H b k r hT hH hh
 exact h.loops f i L' hl fn c c' hf hb (Cz hc hc') hT hH hh
def dQ (cx : Cx) (fuel f d id : Nat) (L : Loop) (F : L.X → Option L.R) (x : L.X) : Option L.R := match ii cx.P f id with
 | [.loop c] => dO cx (fN cx fuel (d + 1)) f d c (L.tin.T dy (L.into x)) (L.tin.H dy (L.into x) fun _ => none) (sd L F)
 | _ => none
def Fx : List Code → Bool
 | [.loop _] => true
 | _ => false
theorem Good.loop {cx : Cx} (h : Good cx) (fuel d : Nat) {f : FuncId} {id : Nat} {L : Loop} {step : (L.X → Option L.R) → L.X → Option L.R} (h1 : Fx (ii cx.P f id) = true) (heq : ∀ F x, dQ cx fuel f d id L F x = step F x) (n : Nat) (hfn : ∀ x, L.fn x = it step n x) (hib : ∀ y, L.into (L.back y) = y) (hoi : ∀ o, L.out (L.inn o) = o)
  (hnam : L.tin.free dy (fun _ => none) = true) : Good (cx.addLoop f id L) := by
 obtain ⟨c0, hc0⟩ : ∃ c0, ii cx.P f id = [.loop c0] := by
  unfold Fx at h1
  split at h1
  ·rename_i c hc
   exact ⟨c, hc⟩
  ·cases h1
 have hr : RoundEq cx fuel f d L c0 step := fun F x => by
  have := heq F x
  unfold dQ at this
  rw [hc0] at this
  exact this
 refine h.addLoop hc0 (Kr h (fun i L' hl c' hc' => ?_) hr (fun x y hy => ⟨n, by rw [← hfn x]; exact hy⟩) hib hoi hnam)
 exact fun hT hH hh => h.sub (c0 := .loop c0) (by rw [hc0]; simp) i L' hl c' (aB _ hc') hT hH hh
def f7 (cx : Cx) (fuel f d id : Nat) (L : Loop) (x : L.X) : Option L.R := match ii cx.P f id with
 | [c] => dO cx (fN cx fuel (d + 1)) f d c (L.tin.T dy (L.into x)) (L.tin.H dy (L.into x) fun _ => none) (Jr L)
 | _ => none
theorem fg {cx : Cx} (h : Good cx) (fuel d : Nat) {f : FuncId} {id : Nat} {L : Loop} (h1 : (ii cx.P f id).length = 1) (heq : ∀ x, f7 cx fuel f d id L x = L.fn x) (hib : ∀ y, L.into (L.back y) = y) (hoi : ∀ o, L.out (L.inn o) = o)
  (hnam : L.tin.free dy (fun _ => none) = true) : Good (cx.addLoop f id L) := by
 obtain ⟨c0, hc0⟩ := List.length_eq_one_iff.1 h1
 refine h.addLoop hc0 (Ks (fuel := fuel) (d := d) h (h.sub (by rw [hc0]; simp)) (fun x => ?_) hib hoi hnam)
 have := heq x
 unfold f7 at this
 rw [hc0] at this
 exact this
theorem Good.fn {cx : Cx} (h : Good cx) (fuel d : Nat) {f : FuncId} {S : FS} (heq : dk cx fuel f d S) (hoi : ∀ o, S.out (S.inn o) = o) (hnam : S.tin.free dy (fun _ => none) = true) : Good (cx.bare.addSpec f S) :=
 h.bare.addSpec (Bm h heq hoi hnam)
@[reducible] def di (n : Nat) : Nat → List (Nat × IK) → List IK
 | i, [] => List.replicate (n - i) .any
 | i, e :: r => List.replicate (e.1 - i) .any ++ e.2 :: di n (e.1 + 1) r
def FS.with (S : FS) (W : S.tin.Ty → Option S.R) : FS := ⟨S.tin, S.tout, S.R, S.out, S.inn, W⟩
structure SpecS (P : Program) (f : FuncId) (S : FS) : Prop where
 ok : jd P f S
theorem lN {H : Heap} : ∀ {ks : List IK} {T : List DV} {m : Met} {p : hP ks × Met}, eb H ks T m = some p → T.length = ks.length
 | [], [], m, p, h => rfl
 | [], d :: T, m, p, h => by cases h
 | .any :: r, T, m, p, h => by
  simp only [eb] at h
  split at h
  ·simp only [aS]; rw [lN h]
  ·cases h
 | .val s :: r, T, m, p, h => by
  simp only [eb] at h
  repeat' split at h
  all_goals first | (cases h; done) | (rename_i hz; simp only [aS]; rw [lN hz])
 | .agf s F :: r, T, m, p, h => by
  simp only [eb] at h
  repeat' split at h
  all_goals first | (cases h; done) | (rename_i hz; simp only [aS]; rw [lN hz])
 | .row E s :: r, T, m, p, h => by
  simp only [eb] at h
  repeat' split at h
  all_goals first | (cases h; done) | (rename_i hz; simp only [aS]; rw [lN hz])
 | .obj i :: r, T, m, p, h => by
  simp only [eb] at h
  repeat' split at h
  all_goals first | (cases h; done) | (simp only [aS]; rw [lN h])
 | .clo F is :: r, T, m, p, h => by
  simp only [eb] at h
  repeat' split at h
  all_goals first | (cases h; done) | (simp only [aS]; rw [lN h])
 | .tab ks vs :: r, T, m, p, h => by cases h
end Go.Proofs.Dk
namespace Go.Proofs.Dk
open Go Go.RowKit Go.ChangeShapes Go.WideShapes
def Sh.Ok : (s : Sh) → s.T → Prop
 | .int k, n => (Lit.int k n).wf = true
 | .bool, _ => True
 | .str, s => s.size ≤ maxLen
 | .pair a b, x => a.Ok x.1 ∧ b.Ok x.2
 | .sl e, l => l.length ≤ maxLen ∧ ∀ x ∈ l, e.Ok x
 | .arr n e, l => l.length = n ∧ ∀ x ∈ l, e.Ok x
def uc (g : TypeId → Sh → Bool) : List Field → Nat → Sh → Bool
 | [], _, _ => false
 | [f], o, s => f.offset == o && g f.type s
 | f :: f' :: r, o, s => match s with
  | .pair a b => f.offset == o && g f.type a && uc g (f' :: r) (o + a.sz) b
  | _ => false
def nk (P : Program) : Nat → TypeId → Sh → Bool
 | 0, _, _ => false
 | n + 1, t, s => P.cellsOf t == s.sz && match P.underlying t with
  | some (.int k) => (match s with | .int k' => decide (k = k') | _ => false)
  | some .bool => (match s with | .bool => true | _ => false)
  | some .string => (match s with | .str => true | _ => false)
  | some (.slice e) => (match s with | .sl s => decide (0 < s.sz) && nk P n e s | _ => false)
  | some (.array m e) => (match s with | .arr m' s => decide (m = m') && decide (0 < s.sz) && nk P n e s | _ => false)
  | some (.struct fs) => uc (nk P n) fs.toList 0 s
  | _ => false
section
variable {P : Program}
def Fy (P : Program) (t : TypeId) (s : Sh) : Prop := P.cellsOf t = s.sz ∧ ∀ {H : Type} (enc : TypeId × Value → H) (w : World) (fuel : Nat) (cs : List Value) (x : DataW H × List MemPlace), DataW.trod enc P w 0 (fun _ => true) true fuel t cs = some x → ∃ a, s.K (fun b => b < w.heap.size) w a cs ∧ s.Ok a
theorem Fz {w : World} {a : Addr} {n : Nat} {cs : List Value} (h : w.cells? 0 a n = some cs) : cs.length = n ∧ ∀ i u, cs[i]? = some u → w.cell? (a.add i) = some u := by
 have hs := World.cells?_some h
 refine ⟨hs.2.1, fun i u hu => ?_⟩
 have hi : i < n := by rw [← hs.2.1]; exact (List.getElem?_eq_some_iff.1 hu).1
 rw [← hu]
 exact hs.2.2 i hi
theorem JO {w : World} {a : Addr} {u : Value} (h : w.cell? a = some u) : a.spot = none ∧ a.block < w.heap.size := by
 unfold World.cell? at h
 split at h
 ·rename_i c e r hb
  split at h
  ·cases h
  ·rename_i hs
   refine ⟨by simpa using hs, (Array.getElem?_eq_some_iff.1 hb).1⟩
 ·cases h
theorem Bn {g : TypeId → Sh → Bool} (hg : ∀ t s, g t s = true → Fy P t s) : ∀ (fs : List Field) (o : Nat) (s : Sh), uc g fs o s = true → ∀ {H : Type} (enc : TypeId × Value → H) (w : World) (n : Nat) (cs : List Value), o + s.sz ≤ cs.length → (∀ (i : Nat) (f : Field), fs[i]? = some f → ∃ x, DataW.trod enc P w 0 (fun _ => true) true n f.type ((cs.drop f.offset).take (P.cellsOf f.type)) = some x) → ∃ a, s.K (fun b => b < w.heap.size) w a ((cs.drop o).take s.sz) ∧ s.Ok a
 | [], o, s, h => by simp [uc] at h
 | [f], o, s, h => by
  intro enc w n cs hl hx
  simp only [uc, ai, ae] at h
  obtain ⟨ho, hs⟩ := h
  obtain ⟨hc, hop⟩ := hg _ _ hs
  obtain ⟨x, hx⟩ := hx 0 f rfl
  rw [ho, hc] at hx
  exact hop enc w n _ _ hx
 | f :: f' :: r, o, s, h => by
  intro enc w n cs hl hx
  simp only [uc] at h
  split at h
  ·rename_i a b
   simp only [ai, ae] at h
   obtain ⟨⟨ho, hs⟩, hr⟩ := h
   obtain ⟨hc, hop⟩ := hg _ _ hs
   have hl' : o + (a.sz + b.sz) ≤ cs.length := hl
   obtain ⟨x, hx0⟩ := hx 0 f rfl
   rw [ho, hc] at hx0
   obtain ⟨y, hy, hoy⟩ := hop enc w n _ _ hx0
   obtain ⟨z, hz, hoz⟩ := Bn hg (f' :: r) (o + a.sz) b hr enc w n cs (by omega) (fun i g hg => hx (i + 1) g hg)
   refine ⟨(y, z), ⟨_, _, ?_, hy, hz⟩, hoy, hoz⟩
   show (cs.drop o).take (a.sz + b.sz) = _
   rw [List.take_add, bG]
  ·cases h
theorem qG : ∀ (n : Nat) (t : TypeId) (s : Sh), nk P n t s = true → Fy P t s
 | 0, t, s, h => by simp [nk] at h
 | n + 1, t, s, h => by
  simp only [nk, ai, ae] at h
  obtain ⟨hc, h⟩ := h
  refine ⟨hc, ?_⟩
  intro H enc w fuel cs x hx
  split at h
  ·rename_i k ht
   split at h
   ·rename_i k'
    simp only [aj] at h
    subst h
    obtain ⟨m, rfl, _, hw⟩ := DataW.trod_int ht hx
    exact ⟨m, rfl, hw⟩
   ·cases h
  ·rename_i ht
   split at h
   ·obtain ⟨b, rfl, _⟩ := DataW.trod_bool ht hx
    exact ⟨b, rfl, trivial⟩
   ·cases h
  ·rename_i ht
   split at h
   ·obtain ⟨b, rfl, _, hw⟩ := DataW.trod_string ht hx
    exact ⟨b, rfl, hw⟩
   ·cases h
  ·rename_i e ht
   split at h
   ·rename_i s
    simp only [ai, aj] at h
    obtain ⟨hz, h⟩ := h
    obtain ⟨hce, hop⟩ := qG n e s h
    rcases Go.Deep.open_slice ht hx with ⟨rfl, _⟩ | ⟨a, len, cap, m, n', D, Pl, rfl, _, hl, hm, hmm, _, hx2⟩
    ·exact ⟨[], ⟨none, 0, rfl, ak _, fun hn => absurd rfl hn⟩, by simp [maxLen], fun x hx => by cases hx⟩
    simp only [if_true] at hmm
    subst hmm
    have hall : ∀ i, i < len → ∃ x : s.T, ∃ c, c.length = s.sz ∧ s.K (fun b => b < w.heap.size) w x c ∧ (∀ j u, c[j]? = some u → w.cell? (a.add (i * s.sz + j)) = some u) ∧ s.Ok x := by
     intro i hi
     obtain ⟨cs', h1, h2⟩ := hx2 i (by omega)
     rw [hce] at h1
     obtain ⟨h3, h4⟩ := Fz h1
     obtain ⟨x, hk, ho⟩ := hop enc w n' cs' _ h2
     exact ⟨x, cs', h3, hk, fun j u hj => by rw [← Go.Deep.add_add]; exact h4 j u hj, ho⟩
    have : Inhabited s.T := ⟨s.dflt⟩
    obtain ⟨X, hX⟩ := Go.Deep.choose_lt hall
    refine ⟨(List.range len).map X, ⟨some a, m, by simp, by simpa using hl, fun hne => ?_⟩, by simpa using aX hl hm, fun x hx => ?_⟩
    ·have hlen : 0 < len := by
      rcases bV len with h0 | h0
      ·rw [h0] at hne; simp at hne
      ·exact h0
     obtain ⟨c, h1, h2, h3, _⟩ := hX 0 hlen
     have hc0 : c[0]? = some (c[0]'(by omega)) := aF _
     have h5 := h3 0 _ hc0
     have ha0 : a.add (0 * s.sz + 0) = a := by simp [Addr.add]
     rw [ha0] at h5
     obtain ⟨g1, g2⟩ := JO h5
     refine ⟨a, rfl, g1, g2, fun i p hi => ?_⟩
     have hi2 : i < len := by
      have := (List.getElem?_eq_some_iff.1 hi).1
      simpa using this
     obtain ⟨c, h1, h2, h3, _⟩ := hX i hi2
     have : X i = p := by simpa [cd, List.getElem?_range hi2] using hi
     subst this
     exact ⟨c, h1, h2, h3⟩
    ·obtain ⟨i, hi, rfl⟩ := List.mem_map.1 hx
     obtain ⟨_, _, _, _, ho⟩ := hX i (bf.1 hi)
     exact ho
   ·cases h
  ·rename_i m e ht
   split at h
   ·rename_i m' s
    simp only [ai, aj] at h
    obtain ⟨⟨rfl, hz⟩, h⟩ := h
    obtain ⟨hce, hop⟩ := qG n e s h
    obtain ⟨xs, k, _, rfl, hl, hxl, hx2⟩ := DataW.trod_array ht hx
    have hall : ∀ i, i < m → ∃ x : s.T, s.K (fun b => b < w.heap.size) w x ((cs.drop (i * s.sz)).take s.sz) ∧ s.Ok x := by
     intro i hi
     have h1 := hx2 i hi
     rw [hce, aF (by omega)] at h1
     exact hop enc w k _ _ h1
    have : Inhabited s.T := ⟨s.dflt⟩
    obtain ⟨X, hX⟩ := Go.Deep.choose_lt hall
    refine ⟨(List.range m).map X, ⟨by simp, by rw [hl, hc]; rfl, fun i p hi => ?_⟩, by simp, fun x hx => ?_⟩
    ·have hi2 : i < m := by
      have := (List.getElem?_eq_some_iff.1 hi).1
      simpa using this
     have : X i = p := by simpa [cd, List.getElem?_range hi2] using hi
     subst this
     exact (hX i hi2).1
    ·obtain ⟨i, hi, rfl⟩ := List.mem_map.1 hx
     exact (hX i (bf.1 hi)).2
   ·cases h
  ·rename_i fs ht
   obtain ⟨xs, k, _, rfl, hl, hxl, hx2⟩ := DataW.trod_struct ht hx
   obtain ⟨a, ha, ho⟩ := Bn (fun t s h => qG n t s h) fs.toList 0 s h enc w k cs (by omega) (fun i f hi => by
    have h1 := hx2 i f (by simpa using hi)
    have hlt : i < xs.length := by
     have := (List.getElem?_eq_some_iff.1 hi).1
     rw [hxl]
     simpa using this
    rw [aF hlt] at h1
    exact ⟨_, h1⟩)
   rw [cc, aW (by omega)] at ha
   exact ⟨a, ha, ho⟩
  ·cases h
def I0 (w : World) : In := ⟨fun _ => none, fun b => b < w.heap.size⟩
theorem Qm (w : World) : HR (I0 w) w fun _ => none := ⟨fun n cs h => (by cases h), fun n E s xs h => (by cases h), fun n T es h => (by cases h), fun n h => rfl, fun n e b h => (by cases h), fun n m e e' b h => (by cases h), fun b h => h⟩
theorem Bo {t : TypeId} {s : Sh} (n : Nat) (ho : nk P n t s = true) (hst : (match P.underlying t with | some (.struct _) => s.multi | _ => true) = true) {H : Type} {enc : TypeId × Value → H} {w : World} {base : Nat} {v : Value} {x : DataW H} {ps : List MemPlace} (hv : Value.okWide P w .any base t v) (h : DataW.Trod enc P w 0 (fun _ => true) true t v x ps) : ∃ a, VR (I0 w) w (s.val a) v ∧ s.Ok a := by
 obtain ⟨hc, hop⟩ := qG n t s ho
 obtain ⟨fuel, hf⟩ := h
 obtain ⟨a, hk, hok⟩ := hop enc w fuel _ _ hf
 refine ⟨a, ?_, hok⟩
 have one : ∀ {s : Sh} {a : s.T}, s.multi = false → s.K (fun b => b < w.heap.size) w a v.cells.toList → v.cells.toList = [v] → VR (I0 w) w (s.val a) v := by
  intro s a hm hk hc
  rw [hc] at hk
  cases s with
  | int k => cases hk; exact .sc _ rfl
  | bool => cases hk; exact .sc _ rfl
  | str => cases hk; exact .sc _ rfl
  | sl e => exact .vs e a v hk
  | pair a b => cases hm
  | arr n e => cases hm
 have many : s.multi = true → (∃ cs, v = .agg cs) → VR (I0 w) w (s.val a) v := by
  rintro hm ⟨cs, rfl⟩
  unfold Sh.val
  rw [if_pos hm]
  exact .agg _ _ (Sh.enc_ok (I := I0 w) hk)
 cases n with
 | zero => simp [nk] at ho
 | succ n =>
 simp only [nk, ai, ae] at ho
 obtain ⟨_, ho⟩ := ho
 have scal : (∀ cs, v ≠ .agg cs) → v.cells.toList = [v] := fun hn => by
  cases v <;> first | rfl | exact absurd rfl (hn _)
 split at ho
 ·rename_i k ht
  split at ho
  ·refine one rfl hk (scal fun cs => ?_)
   rintro rfl
   simp [Value.okWide, ht, Cell.okWide, Cell.ok] at hv
  ·cases ho
 ·rename_i ht
  split at ho
  ·refine one rfl hk (scal fun cs => ?_)
   rintro rfl
   simp [Value.okWide, ht, Cell.okWide, Cell.ok] at hv
  ·cases ho
 ·rename_i ht
  split at ho
  ·refine one rfl hk (scal fun cs => ?_)
   rintro rfl
   simp [Value.okWide, ht, Cell.okWide, Cell.ok] at hv
  ·cases ho
 ·rename_i e ht
  split at ho
  ·refine one rfl hk (scal fun cs => ?_)
   rintro rfl
   obtain ⟨_, _, _, h⟩ := okWide_slice ht hv
   cases h
  ·cases ho
 ·rename_i m e ht
  split at ho
  ·refine many rfl ?_
   simp only [Value.okWide, ht] at hv
   obtain ⟨cs, h1, _⟩ := hv
   exact ⟨cs, h1⟩
  ·cases ho
 ·rename_i fs ht
  rw [ht] at hst
  obtain ⟨cs, h1, _⟩ := okWide_struct ht hv
  exact many hst ⟨cs, h1⟩
 ·cases ho
theorem FA {f : FuncId} {S : FS} (hS : jd P f S) {w : World} {A : List DV} {args : List Value} {x : S.tin.Ty} {y : S.R} (hA : LR (I0 w) w A args) (hx : S.tin.pr ⟨[], []⟩ A (fun _ => none) = some (x, ⟨[], []⟩)) (hfn : S.fn x = some y) (hfree : ∀ ρ H, S.tout.free ρ H = true) (hT : ∀ ρ, gf (S.tout.T ρ (S.out y)) = .sc (.bool true)) : Calls P f args.toArray w fun e w' => e = .returned (.bool true) ∧ Below w.heap.size w w' := by
 refine Calls.mono (hS (ρ := dy) (k := fun v H u => some v) (r := .sc (.bool true)) (Qm w) hA hx (fun i n h => by cases h) ?_) ?_
 ·rw [hfn, ab]
  simp only [hfree, if_true, hT]
 ·rintro e w' he
  cases e with
  | returned z =>
   obtain ⟨I', v, H', u, h1, h2, h3, h4, h5⟩ := he
   simp only [aa] at h1
   subst h1
   refine ⟨by rw [h4.sc_eq], h2.os, h2.tape, h2.output, h2.size, fun b hb => h2.same b hb fun n e hn => by cases hn⟩
  | _ => exact he.elim
end
end Go.Proofs.Dk
namespace Go.Proofs.Dk
open Go Go.RowKit
def Eb : List (List Int) → List FuncId → Int → Option FuncId
 | l :: ks, d :: vs, n => if (l.any fun x => n == x) = true then some d else Eb ks vs n
 | _, _, _ => none
theorem nX {f : FuncId → DV} : ∀ (ks : List (List Int)) (Fs : List FuncId) (n : Int), d9 ks (Fs.map f) n = (Eb ks Fs n).map f
 | [], Fs, n => by cases Fs <;> rfl
 | l :: ks, [], n => rfl
 | l :: ks, F :: Fs, n => by
  simp only [List.map_cons, d9, Eb]
  split
  ·rfl
  ·exact nX ks Fs n
theorem FB {I : In} {w : World} {H : Heap} {d : DV} {v : Value} {ks : List (List Int)} {vs : List DV} (hH : HR I w H) (hv : VR I w d v) (h : kN H d = some (ks, vs)) : ∃ b es clock val, v = .map (some b) ∧ (I.R b ∨ ∃ n, I.ι n = some (.obj b)) ∧ w.heap[b]? = some (.map es clock) ∧ TabE ks vs val es.toList ∧ ∀ m d, d9 ks vs m = some d → VR I w d (val m) := by
 unfold kN at h
 split at h
 ·simp only [aa, ah] at h
  obtain ⟨rfl, rfl⟩ := h
  cases hv with | tab _ _ val b es cl hR hb hE hL => exact ⟨b, es, cl, val, rfl, .inl hR, hb, hE, hL⟩
 ·rename_i n
  split at h
  ·rename_i ks' vs' hn
   simp only [aa, ah] at h
   obtain ⟨rfl, rfl⟩ := h
   cases hv with | mh _ b hi =>
   obtain ⟨b', es, cl, val, k1, k2, k3, k4⟩ := hH.mp n _ _ hn
   rw [hi] at k1
   simp only [aa, Ent.obj.injEq] at k1
   subst k1
   exact ⟨b, es, cl, val, rfl, .inr ⟨n, hi⟩, k2, k3, k4⟩
  ·cases h
 ·cases h
theorem FC {I : In} {w : World} : ∀ {vs us : List Value}, LR I w (vs.map DV.sc) us → us = vs
 | [], us, h => by cases h; rfl
 | v :: vs, us, h => by
  cases h with | cons _ _ u us' hd hr =>
  rw [hd.sc_eq, FC hr]
theorem CX {I : In} {w : World} : ∀ {vs : List Value}, (∀ v ∈ vs, v.oneCell' = true) → LR I w (vs.map DV.sc) vs
 | [], _ => .nil
 | v :: vs, h => .cons _ _ _ _ (.sc v (h v (aM ..))) (CX fun u hu => h u (aB _ hu))
theorem CY {I : In} {w : World} : ∀ {A : List DV} {vs : List Value}, LR I w A vs → A.all wF = true → ∀ v ∈ vs, v.oneCell' = true
 | _, _, .nil, _, v, hv => by cases hv
 | _, _, .cons d r u vs hd hr, h, v, hv => by
  simp only [bY, ai] at h
  rcases aC.1 hv with rfl | hv
  ·cases hd <;> simp [wF] at h
   rfl
  ·exact CY hr h.2 v hv
theorem Js {cx : Cx} (hg : Good cx) {g : FuncId} {ar : Nat} {ks : List (List Int)} {Fs : List FuncId} (fuel : Nat) (heq : ∀ vs : List Value, vs.length = ar → jV cx (fN cx fuel 1) g 0 (vs.map DV.sc) (fun _ => none) (fun v H => kN H v) = some (ks, Fs.map fun F => .fn (.func F) (vs.map DV.sc) [])) : l9 cx.P g (ar, ks, Fs) := by
 intro I w H A args hH hA hl hp
 have hone := CY hA hp
 have hlen : args.length = ar := by rw [← hA.length]; exact hl
 have hH1 : HR ⟨fun _ => none, fun _ => False⟩ w fun _ => none := ⟨fun n cs h => (by cases h), fun n E s xs h => (by cases h), fun n ks vs h => (by cases h), fun n h => rfl, fun n e b h => (by cases h), fun n m e e' b h => (by cases h), fun b h => h.elim⟩
 have hA1 : LR ⟨fun _ => none, fun _ => False⟩ w (args.map DV.sc) args := CX hone
 refine Calls.mono (vm hg (oA hg fuel 1) hH1 (aV hA1.length) (fun i => hA1.getD i) (heq args hlen)) ?_
 rintro e w' he
 cases e with
 | returned z =>
  obtain ⟨I', v, H', h1, h2, h3, h4⟩ := he
  obtain ⟨b, es, cl, val, rfl, hnew, hb, hE, hL⟩ := FB h3 h4 h1
  have hb0 : w.heap.size ≤ b := by
   rcases hnew with hR | ⟨n, hn⟩
   ·rcases h2.newR b hR with h | ⟨m, e', h, _⟩ | h
    ·exact h.elim
    ·cases h
    ·exact h
   ·rcases h2.own n _ b hn rfl with ⟨m, e', h, _⟩ | h
    ·cases h
    ·exact h
  have hw : ∀ c, c < w.heap.size → w'.heap[c]? = w.heap[c]? := fun c hc => h2.same c hc fun n e h => by cases h
  have hbw : b < w'.heap.size := (Array.getElem?_eq_some_iff.1 hb).1
  obtain ⟨q1, q2⟩ := hH.grow (I' := ⟨I.ι, fun c => I.R c ∨ (w.heap.size ≤ c ∧ c < w'.heap.size)⟩) rfl (fun c => Iff.rfl) hw h2.size
  refine ⟨⟨I.ι, fun c => I.R c ∨ (w.heap.size ≤ c ∧ c < w'.heap.size)⟩, ⟨fun n c h => h, fun c h => .inl h, fun c h _ => hw c h, fun n e c h k => .inl ⟨n, e, h, k⟩, fun c h => ?_, h2.size, h2.os, h2.tape, h2.output⟩, ⟨fun n sz v h => h⟩, q1, ?_⟩
  ·rcases h with h | h
   ·exact .inl h
   ·exact .inr (.inr h.1)
  ·refine .tab ks _ val b es cl (.inr ⟨hb0, hbw⟩) hb ⟨hE.keys, fun e he n hn => ⟨(hE.here e he n hn).1, ?_⟩, fun n hn => ?_⟩ fun n d hd => ?_
   ·have := (hE.here e he n hn).2
    rw [nX, Option.isSome_map] at this ⊢
    exact this
   ·refine hE.all n ?_
    rw [nX, Option.isSome_map] at hn ⊢
    exact hn
   ·rw [nX] at hd
    obtain ⟨F, hF, rfl⟩ := Option.map_eq_some_iff.1 hd
    have := hL n (.fn (.func F) (args.map DV.sc) []) (by rw [nX, hF]; rfl)
    generalize val n = u at this
    cases this with | fn _ _ _ a' b' k1 k2 =>
    have e1 := FC k1
    refine .fn _ _ _ _ _ ?_ ?_
    ·rw [e1]; exact LR.keep q2 hA
    ·cases hbb : b'.toList with
     | nil => exact .nil
     | cons c r => rw [hbb] at k2; cases k2
 | _ => exact he.elim
theorem Kv {cx : Cx} (hg : Good cx) {g : FuncId} {ks : List (List Int)} {Fs : List FuncId} (fuel : Nat) (heq : ∀ p : Value, jV cx (fN cx fuel 1) g 0 [.sc p] (fun _ => none) (fun v H => kN H v) = some (ks, Fs.map fun F => .fn (.func F) [.sc p] [])) : l9 cx.P g (1, ks, Fs) :=
 fun hH hA hl hp => Js hg fuel (fun vs h => by
  match vs, h with
  | [p], _ => exact heq p) hH hA hl hp
theorem Kw {cx : Cx} (hg : Good cx) {g : FuncId} {ks : List (List Int)} {Fs : List FuncId} (fuel : Nat) (heq : jV cx (fN cx fuel 1) g 0 [] (fun _ => none) (fun v H => kN H v) = some (ks, Fs.map fun F => .fn (.func F) [] [])) : l9 cx.P g (0, ks, Fs) :=
 fun hH hA hl hp => Js hg fuel (fun vs h => by
  match vs, h with
  | [], _ => exact heq) hH hA hl hp
def Cx.addTab (cx : Cx) (f : FuncId) (t : Nat × List (List Int) × List FuncId) : Cx := ⟨cx.P, cx.loops, cx.specs, fun g => if Nat.beq g f then some t else cx.tabs g, cx.qs⟩
theorem Good.addTab {cx : Cx} (h : Good cx) {f : FuncId} {t : Nat × List (List Int) × List FuncId} (ht : l9 cx.P f t) : Good (cx.addTab f t) := by
 refine ⟨h.specs, h.loops, h.pures, fun g t' hg => ?_, h.qs⟩
 simp only [Cx.addTab] at hg
 split at hg
 ·rename_i hgf
  have := bU hgf
  subst this
  simp only [aa] at hg
  subst hg
  intro I w H A args hH hA hl hp
  exact ht hH hA hl hp
 ·intro I w H A args hH hA hl hp
  exact h.tabs g t' hg hH hA hl hp
theorem Good.known {cx : Nat → Cx} (hg : ∀ n, Good (cx n)) {f : FuncId} {S : Nat → FS} (N : Nat) (h : jd (cx N).P f (S N)) (hz : ∀ n, n ≠ N → ∀ x, (S n).fn x = none) (n : Nat) : Good ((cx n).bare.addSpec f (S n)) := by
 refine (hg n).bare.addSpec fun hH hA hx hρ hk => ?_
 by_cases e : n = N
 ·subst e; exact h hH hA hx hρ hk
 ·rw [hz n e] at hk
  cases hk
theorem Hz {α : Type} {n N : Nat} {v : α} (h : n ≠ N) : (if Nat.beq n N = true then some v else none) = none := if_neg fun e => h (bU e)
def eD (o : Oper) : Bool := match o.op with
 | .move _ | .assign _ | .pick _ _ _ | .load _ _ | .nilCheck _ | .binOp _ _ _ _ _ | .unOp _ _ _ | .fieldAddr _ _ _ | .field _ _ _ | .indexAddr _ _ _ | .index _ _ _ | .extract _ _ => true
 | .call c => match c.callee with
  | .builtin .len => true
  | .builtin .min => true
  | .builtin .max => true
  | _ => false
 | _ => false
section
variable {α : Type} {P : Program} {I : In} {w : World} {T : List DV} {a : Act} {H : Heap}
def DoneQ (P : Program) (o : Oper) (a : Act) (I : In) (w : World) (v : DV) : Prop := ∃ u, (execOp a.eval o).run P w = .ok (.value u) w ∧ VR I w v u
theorem DoneQ.pure {o : Oper} {v : DV} {u : Value} (hr : (execOp a.eval o).run P w = .ok (.value u) w) (h : VR I w v u) : DoneQ P o a I w v := ⟨u, hr, h⟩
theorem DoneQ.makes {o : Oper} {v : DV} {s : Sem Value} (ho : execOp a.eval o = (do Pure.pure (Next.value (← s)))) (h : i1 P I w s v) : DoneQ P o a I w v := by
 obtain ⟨u, h1, h2⟩ := h
 exact ⟨u, by rw [ho]; exact jW h1, h2⟩
theorem HA {o : Oper} {t : TypeId} {x : Operand} {v : DV} (ho : o.op = .load t x) (hT : TR I w T a) (hH : HR I w H) (h : jT P t H (dh T x) = some v) : DoneQ P o a I w v := by
 obtain ⟨ad, u, h1, h2, h3⟩ := yc (dm hT x) hH h
 exact DoneQ.pure (yM ho h1 h2) h3
theorem FD {d : Nat} {o : Oper} {k : DV → fD → Option α} {r : α} (hT : TR I w T a) (hH : HR I w H) (hq : eD o = true) (h : eh P d o T H k = some r) : ∃ v, k v none = some r ∧ DoneQ P o a I w v := by
 unfold eh at h
 simp only at h
 split at h
 ·rename_i x ho
  exact ⟨_, h, DoneQ.pure (yL ho) (dm hT x)⟩
 ·rename_i x ho
  exact ⟨_, h, DoneQ.pure (uG ho) (dm hT x)⟩
 ·rename_i c x y ho
  obtain ⟨v, h1, h2⟩ := AN (P := P) (dm hT c) (dm hT x) (dm hT y) h
  refine ⟨_, h1, ?_⟩
  obtain ⟨u, g1, g2⟩ := h2
  refine DoneQ.pure ?_ g2
  unfold execOp
  rw [ho]
  simp only [Sem.run_bind] at g1 ⊢
  cases hb : (asBool (a.eval c)).run P w <;> rw [hb] at g1 <;> simp_all
 ·rename_i e ho
  simp [eD, ho] at hq
 ·rename_i e x ho
  simp [eD, ho] at hq
 ·rename_i t ps ho
  simp [eD, ho] at hq
 ·rename_i t n ps ho
  simp [eD, ho] at hq
 ·rename_i t x ho
  obtain ⟨v, h1, h2⟩ := fZ h
  exact ⟨_, h2, HA ho hT hH h1⟩
 ·rename_i t x y ho
  simp [eD, ho] at hq
 ·rename_i x ho
  have hx := dm hT x
  generalize hd : dh T x = dx at h hx
  generalize hv : a.eval x = u at hx
  have he : ∀ {v : Value}, u = v → (match v with | .pointer (some _) => True | .func (.func _) _ _ => True | _ => False) → (execOp a.eval o).run P w = .ok (.value v) w := by
   rintro v rfl hm
   unfold execOp
   rw [ho]
   simp only [hv]
   cases u with
   | pointer q => cases q with
    | none => exact hm.elim
    | some q => rfl
   | func F x y => cases F with
    | func f => rfl
    | _ => exact hm.elim
   | _ => exact hm.elim
  split at h
  ·refine ⟨_, h, ?_⟩
   cases hx with | ptr _ _ _ b h1 hp => exact DoneQ.pure (he rfl trivial) (.ptr _ _ _ b h1 hp)
  ·refine ⟨_, h, ?_⟩
   cases hx with | rp _ _ _ _ b len cap h1 hi hp => exact DoneQ.pure (he rfl trivial) (.rp _ _ _ _ b len cap h1 hi hp)
  ·refine ⟨_, h, ?_⟩
   cases hx with | pi _ ad cs h0 hR him hC hc => exact DoneQ.pure (he rfl trivial) (.pi _ ad cs h0 hR him hC hc)
  ·refine ⟨_, h, ?_⟩
   cases hx with | fn F q1 q2 a' b' h1 h2 => exact DoneQ.pure (he rfl trivial) (.fn _ _ _ a' b' h1 h2)
  ·cases h
 ·rename_i op t x y sp ho
  obtain ⟨v, h1, h2⟩ := CK (P := P) (x := x) (y := y) (dm hT x) (dm hT y) h
  exact ⟨_, h1, DoneQ.makes (by unfold execOp; rw [ho]) h2⟩
 ·rename_i op t x ho
  have hx := dm hT x
  generalize hd : dh T x = dx at h hx
  generalize hv : a.eval x = u at hx
  split at h
  ·obtain rfl := hx.sc_eq
   exact ⟨_, h, DoneQ.makes (by unfold execOp; rw [ho]) ⟨_, by rw [hv]; rfl, .sc _ rfl⟩⟩
  ·obtain rfl := hx.sc_eq
   exact ⟨_, h, DoneQ.makes (by unfold execOp; rw [ho]) ⟨_, by rw [hv]; rfl, .sc _ rfl⟩⟩
  ·cases h
 ·rename_i s t x ho
  simp [eD, ho] at hq
 ·rename_i F q1 q2 ho
  simp [eD, ho] at hq
 ·rename_i t l c ho
  simp [eD, ho] at hq
 ·rename_i t x lo hi mx ho
  simp [eD, ho] at hq
 ·rename_i t x f ho
  obtain ⟨v, h1, h2⟩ := fZ h
  exact ⟨_, h2, DoneQ.makes (by unfold execOp; rw [ho]) (ra (dm hT x) h1)⟩
 ·rename_i t x f ho
  obtain ⟨v, h1, h2⟩ := fZ h
  exact ⟨_, h2, DoneQ.makes (by unfold execOp; rw [ho]) (yO (dm hT x) h1)⟩
 ·rename_i t x i ho
  have hi := dm hT i
  split at h
  ·rename_i kd j hj
   rw [hj] at hi
   obtain ⟨v, h1, h2⟩ := uK (P := P) (kd := kd) hH (dm hT x) h
   exact ⟨_, h1, DoneQ.makes (by unfold execOp; rw [ho]) (hi.sc_eq ▸ h2)⟩
  ·cases h
 ·rename_i t x i ho
  have hi := dm hT i
  split at h
  ·rename_i kd j hj
   rw [hj] at hi
   obtain ⟨v, h1, h2⟩ := yN (P := P) (kd := kd) (dm hT x) h
   exact ⟨_, h1, DoneQ.makes (by unfold execOp; rw [ho]) (hi.sc_eq ▸ h2)⟩
  ·cases h
 ·rename_i t ho
  simp [eD, ho] at hq
 ·rename_i t m i x ho
  simp [eD, ho] at hq
 ·rename_i t x i c ho
  simp [eD, ho] at hq
 ·rename_i x i ho
  have hx := dm hT x
  generalize hd : dh T x = dx at h hx
  generalize hv : a.eval x = u at hx
  split at h
  ·rename_i vs
   obtain ⟨v, h1, h2⟩ := fZ h
   cases hx with | tup _ vs' hL =>
   obtain ⟨u, g1, g2⟩ := hL.get h1
   refine ⟨_, h2, DoneQ.makes (by unfold execOp; rw [ho]) ⟨u, ?_, g2⟩⟩
   rw [cb] at g1
   simp [Instr.extract, hv, g1]
  ·cases h
 ·rename_i c ho
  split at h
  ·rename_i hc
   split at h
   ·rename_i x t hx ht
    split at h
    ·rename_i n hn
     refine ⟨_, h, DoneQ.makes (gu (b := .len) (s := Builtin.len_ c.argTypes o.type (c.args.map a.eval)) ho hc rfl) ⟨_, ?_, .sc _ rfl⟩⟩
     have e1 : c.args.map a.eval = #[a.eval x] := by
      apply Array.toList_inj.1
      rw [cm, hx]; rfl
     have := CL (ty := o.type) hH (dm hT x) hn
     rw [e1]
     have e2 : ∀ (A : Array TypeId), A[0]? = some t → Builtin.len_ A o.type #[a.eval x] = Builtin.len_ #[t] o.type #[a.eval x] := by
      intro A hA
      unfold Builtin.len_
      have : A.getD 0 0 = t := by simp [hA]
      simp [hA]
     rw [e2 _ ht]
     exact this
    ·cases h
   ·cases h
  ·rename_i hc
   split at h
   ·rename_i kk x rr hx
    obtain ⟨v, h1, h2⟩ := fZ h
    have hL := kh hT c.args
    rw [hx] at hL
    generalize hA : (c.args.map a.eval).toList = vs at hL
    cases hL with | cons _ _ u vs' hd hr =>
    obtain rfl := hd.sc_eq
    obtain ⟨n, rfl, g2⟩ := yf (P := P) hr h1
    refine ⟨_, h2, DoneQ.makes (gu (b := .min) (s := Builtin.min_ c.argTypes o.type (c.args.map a.eval)) ho hc rfl) ⟨_, ?_, .sc _ rfl⟩⟩
    unfold Builtin.min_
    rw [hA]
    exact g2
   ·cases h
  ·rename_i hc
   split at h
   ·rename_i kk x rr hx
    obtain ⟨v, h1, h2⟩ := fZ h
    have hL := kh hT c.args
    rw [hx] at hL
    generalize hA : (c.args.map a.eval).toList = vs at hL
    cases hL with | cons _ _ u vs' hd hr =>
    obtain rfl := hd.sc_eq
    obtain ⟨n, rfl, g2⟩ := yg (P := P) hr h1
    refine ⟨_, h2, DoneQ.makes (gu (b := .max) (s := Builtin.max_ c.argTypes o.type (c.args.map a.eval)) ho hc rfl) ⟨_, ?_, .sc _ rfl⟩⟩
    unfold Builtin.max_
    rw [hA]
    exact g2
   ·cases h
  ·cases h
 ·cases h
end
section
variable {α : Type} (cx : Cx)
def HB : DV → Bool
 | .sc _ => true
 | _ => false
def oC (g : FuncId) (A : List DV) (H : Heap) (k : DV → Option α) : Option α := if gm cx.P g = true then match jn (cx.specs g) A k with
  | some q => q
  | none => match jG (cx.qs g) A H (fun v _ => k v) with
   | some q => q
   | none => match jF A [] H with
    | (A, _, _) => match jn (cx.specs g) A (fun v => if HB v = true then k v else none) with
     | some q => q
     | none => none
 else none
def kW (d : Nat) (ops : Array Oper) (H : Heap) : List Oper → List DV → (List DV → Option α) → Option α
 | [], T, k => k T
 | o :: r, T, k =>
  let run (T : List DV) : Option α := match o.op with
   | .call c => match c.callee with
    | .value f => match dh T f with
     | .fn (.func g) a b => oC cx g (a ++ c.args.toList.map (dh T) ++ b) H fun v => kW d ops H r (dv T o.dst v) k
     | _ => none
    | _ => if eD o = true then eh cx.P d o T H fun v _ => kW d ops H r (dv T o.dst v) k else none
   | _ => if eD o = true then eh cx.P d o T H fun v _ => kW d ops H r (dv T o.dst v) k else none
  match o.guard with
  | none => run T
  | some (j, want) => match (ops[j]?).bind (·.dst) with
   | some g => match T.getD g .undef with
    | .sc (.bool b) =>
     if b then (if want then run (T.set g (.sc (.bool true))) else kW d ops H r (dv (T.set g (.sc (.bool true))) o.dst (.tup [])) k)
     else (if want then kW d ops H r (dv (T.set g (.sc (.bool false))) o.dst (.tup [])) k else run (T.set g (.sc (.bool false))))
    | .tup [] => kW d ops H r (dv T o.dst (.tup [])) k
    | _ => none
   | none => none
def Bp : DV → Bool
 | .sc _ => true
 | .ptr _ _ _ => true
 | .rp _ _ _ _ => true
 | _ => false
def vo (d : Nat) (H : Heap) : List Oper → List DV → (List DV → Option α) → Option α
 | [], T, k => k T
 | o :: r, T, k => if o.guard.isSome then none else match o.op with
   | .call c => match c.callee with
    | .value f => match dh T f with
     | .fn (.func g) a b => oC cx g (a ++ c.args.toList.map (dh T) ++ b) H fun v => if Bp v = true then vo d H r (dv T o.dst v) k else none
     | _ => none
    | _ => if eD o = true then eh cx.P d o T H fun v _ => if Bp v = true then vo d H r (dv T o.dst v) k else none else none
   | _ => if eD o = true then eh cx.P d o T H fun v _ => if Bp v = true then vo d H r (dv T o.dst v) k else none else none
def uT (d : Nat) (H : Heap) : Code → List DV → (Ex → List DV → Option α) → Option α
 | .skip, T, k => k .norm T
 | .region _ ops draw, T, k => if draw then (if (cx.P.follows .mixedOrders && Region.lexB .any ops) = true then vo cx d H ops.toList T fun T => k .norm T else none) else kW cx d ops H ops.toList T fun T => k .norm T
 | .seq a b, T, k => uT d H a T fun e T => match e with
  | .norm => uT d H b T k
  | e => k e T
 | .cond c a b, T, k => match dh T c with
  | .sc (.bool t) => if t then uT d H a (AL c true T) k else uT d H b (AL c false T) k
  | _ => none
 | .exit id, T, k => k (.exit id) T
 | .ret, T, k => k .ret T
 | _, _, _ => none
def Ec (f d : Nat) (A : List DV) (H : Heap) (k : DV → Option α) : Option α := match cx.P.funcs[f]? with
 | some fn => match fn.body with
  | some c => uT cx d H c (A ++ List.replicate (fn.ntmps - A.length) .undef) fun e T => match e with
   | .norm => (match lH cx.P T H fn.results.toList with | some vs => k (gf vs) | none => none)
   | .ret => (match lH cx.P T H fn.results.toList with | some vs => k (gf vs) | none => none)
   | _ => none
  | none => none
 | none => none
end
section
variable {α : Type} {cx : Cx} {I : In} {w : World} {H : Heap}
theorem vq (hg : Good cx) {w1 : World} (hH : HR I w H) (hg1 : GrowW w w1) {g : FuncId} {A : List DV} {args : List Value} {k : DV → Option α} {r : α} (hA : LR (I.grow w w1) w1 A args) (h : oC cx g A H k = some r) :
  wQ cx.P g ∧ Calls cx.P g args.toArray w1 (rQ fun z w' => ∃ v, k v = some r ∧ GrowW w1 w' ∧ VR ((I.grow w w1).grow w1 w') w' v z) := by
 unfold oC at h
 split at h
 ·rename_i he
  refine ⟨kx he, ?_⟩
  have hH1 := (hg1.hr hH).1
  split at h
  ·rename_i q hq
   obtain ⟨S, X, m, h1, h2, h3, rfl⟩ := kT hq
   obtain ⟨Y, h4, h5⟩ := Option.bind_eq_some_iff.1 h
   refine Calls.mono (hg.pures g S h1 h2 hH1 hA h3 h4) ?_
   rintro e w' he
   cases e with
   | returned z => exact ⟨_, h5, he.1, he.2⟩
   | _ => exact he.elim
  ·split at h
   ·rename_i q hq
    obtain ⟨S, X, m, h1, h2, rfl⟩ := pb hq
    obtain ⟨Y, h4, h5⟩ := Option.bind_eq_some_iff.1 h
    refine Calls.mono (hg.qs g S h1 hH1 hA h2 h4) ?_
    rintro e w' he
    cases e with
    | returned z => exact ⟨_, h5, he.1, he.2⟩
    | _ => exact he.elim
   ·split at h
    rename_i A1 T1 H1 hs
    split at h
    ·rename_i q hq
     obtain ⟨S, X, m, h1, h2, h3, rfl⟩ := kT hq
     obtain ⟨Y, h4, h5⟩ := Option.bind_eq_some_iff.1 h
     split at h5
     ·rename_i hsc
      obtain ⟨I1, g1, g2, _, g4⟩ := ja (a := ⟨#[], []⟩) hH1 ⟨ak _, fun i => .undef _, rfl⟩ hA hs
      refine Calls.mono (hg.pures g S h1 h2 g1 g4 h3 h4) ?_
      rintro e w' he
      cases e with
      | returned z =>
       refine ⟨_, h5, he.1, ?_⟩
       have hv := he.2
       revert hsc hv
       generalize gf (S.tout.T dy (S.out Y)) = v
       intro hsc hv
       cases v with
       | sc v0 => cases hv with | sc _ h => exact .sc _ h
       | _ => cases hsc
      | _ => exact he.elim
     ·cases h5
    ·cases h
 ·cases h
theorem CZ (hg : Good cx) (hH : HR I w H) {d : Nat} {ops : Array Oper} {k : List DV → Option α} {r : α} {Q : Exit → Act → World → Prop} : ∀ {l : List Oper} {w1 : World} {T : List DV} {a : Act}, GrowW w w1 → TR (I.grow w w1) w1 T a → kW cx d ops H l T k = some r →
  (∀ w' T' a', GrowW w w' → TR (I.grow w w') w' T' a' → k T' = some r → Q .normal a' w') → wpList cx.P ops Q l a w1
 | [], w1, T, a, h1, hT, h, hQ => hQ w1 T a h1 hT h
 | o :: l, w1, T, a, h1, hT, h, hQ => by
  have next : ∀ {w' : World} {T' : List DV} {a' : Act}, GrowW w w' → TR (I.grow w w') w' T' a' → kW cx d ops H l T' k = some r → wpList cx.P ops Q l a' w' := fun he hT' h' => CZ hg hH he hT' h' hQ
  have hrun : ∀ {R : Option α}, (match o.op with
   | .call c => match c.callee with
    | .value f => match dh T f with
     | .fn (.func g) a b => oC cx g (a ++ c.args.toList.map (dh T) ++ b) H fun v => kW cx d ops H l (dv T o.dst v) k
     | _ => none
    | _ => if eD o = true then eh cx.P d o T H fun v _ => kW cx d ops H l (dv T o.dst v) k else none
   | _ => if eD o = true then eh cx.P d o T H fun v _ => kW cx d ops H l (dv T o.dst v) k else none) = some r → o.wp cx.P a w1 (wpList cx.P ops Q l) Q := by
   intro R h
   have plain : (if eD o = true then eh cx.P d o T H fun v _ => kW cx d ops H l (dv T o.dst v) k else none) = some r → o.wp cx.P a w1 (wpList cx.P ops Q l) Q := by
    intro h
    split at h
    ·rename_i hq
     obtain ⟨v, g1, u, g2, g3⟩ := FD hT (h1.hr hH).1 hq h
     unfold Oper.wp
     rw [g2]
     exact next h1 (hT.put _ g3) g1
    ·cases h
   split at h
   ·rename_i c ho
    split at h
    ·rename_i f hc
     split at h
     ·rename_i g x y hf
      obtain ⟨x', y', e1, e2⟩ := iA (c := c) hT hf
      obtain ⟨he, hcs⟩ := vq hg hH h1 e2 h
      unfold Oper.wp
      rw [jb ho hc e1 he, Oper.upon_enter]
      refine Calls.mono hcs ?_
      rintro e w' he'
      cases e with
      | returned z =>
       obtain ⟨v, g1, g2, g3⟩ := he'
       have hs := (g2.hr (h1.hr hH).1).2
       rw [je h1 g2] at hs g3
       exact next (h1.trans g2) ((hT.keep hs).put _ g3) g1
      | _ => exact he'.elim
     ·cases h
    ·exact plain h
   ·exact plain h
  unfold kW at h
  try simp only at h
  unfold wpList
  split at h
  ·rename_i hg
   rw [if_pos (by simp [Region.wanted, hg])]
   exact .inl (hrun (R := some r) h)
  ·rename_i j want hg
   split at h
   ·rename_i g hj
    split at h
    ·rename_i b hb
     have hy := oY hT hj hb
     have hfix : T.set g (.sc (.bool b)) = T := wR hb (by simp)
     cases b with
     | true =>
      simp only [if_true] at h
      rw [hfix] at h
      cases want with
      | true =>
       rw [if_pos (by simp [Region.wanted, hg, hy])]
       exact .inl (hrun (R := some r) h)
      | false =>
       rw [if_neg (by simp [Region.wanted, hg, hy])]
       exact next h1 (lK hT o.dst) h
     | false =>
      simp only [aD, au] at h
      rw [hfix] at h
      cases want with
      | true =>
       rw [if_neg (by simp [Region.wanted, hg, hy])]
       exact next h1 (lK hT o.dst) h
      | false =>
       rw [if_pos (by simp [Region.wanted, hg, hy])]
       exact .inl (hrun (R := some r) h)
    ·rename_i hb
     have hy := oZ hT hj hb
     rw [if_neg (by simp [Region.wanted, hg, hy])]
     exact next h1 (lK hT o.dst) h
    ·cases h
   ·cases h
theorem yl {I : In} {w w' : World} {d : DV} {u u' : Value} (hd : Bp d = true) (h : VR I w d u) (h' : VR I w' d u') : u = u' := by
 cases d with
 | sc v => rw [h.sc_eq, h'.sc_eq]
 | ptr n o p => cases h with | ptr _ _ _ b h1 hp => cases h' with | ptr _ _ _ b' h1' hp' =>
  rw [h1] at h1'
  simp only [aa, Ent.obj.injEq] at h1'
  rw [h1']
 | rp n sz i p => cases h with | rp _ _ _ _ b len cap h1 hi hp => cases h' with | rp _ _ _ _ b' len' cap' h1' hi' hp' =>
  rw [h1] at h1'
  simp only [aa, Ent.row.injEq, Value.slice.injEq, Addr.mk.injEq] at h1'
  rw [h1'.2.1.1]
 | _ => cases hd
theorem qH {P : Program} {f : FuncId} {args : Array Value} {w : World} {R : Ending → World → Prop} (h : Calls P f args w R) : ∃ e w', R e w' := by
 obtain ⟨e, w', fr, h1, _⟩ := h []
 exact ⟨e, w', h1⟩
theorem FE {g : FuncId} {A : List DV} {k : DV → Option α} : oC cx g A H k = (oC cx g A H some).bind k := by
 unfold oC
 split
 ·rw [iB (k := k), kV (k := fun v _ => k v), iB (k := some), kV (k := fun v _ => some v)]
  cases jn (cx.specs g) A (fun v => some v) with
  | some q => cases q <;> rfl
  | none =>
   simp only [Option.map_none]
   cases jG (cx.qs g) A H (fun v rd => some (v, rd)) with
   | some q => cases q <;> rfl
   | none =>
    simp only [Option.map_none]
    rw [iB (k := fun v => if HB v = true then k v else none), iB (k := fun v => if HB v = true then some v else none)]
    cases jn (cx.specs g) (jF A [] H).1 (fun v => some v) with
    | none => rfl
    | some q =>
     cases q with
     | none => rfl
     | some v =>
      simp only [bs, ab]
      split <;> rfl
 ·rfl
theorem ym (hg : Good cx) (hH : HR I w H) {w1 : World} (h1 : GrowW w w1) {d : Nat} {ops : Array Oper} {k : List DV → Option α} {r : α} {Q : Act → Prop} : ∀ {l : List Oper} {T : List DV} {a : Act}, TR (I.grow w w1) w1 T a → vo cx d H l T k = some r →
  (∀ T' a', TR (I.grow w w1) w1 T' a' → k T' = some r → Q a') → wpQuiet cx.P ops (fun w' => GrowW w1 w') Q l a
 | [], T, a, hT, h, hQ => hQ T a hT h
 | o :: l, T, a, hT, h, hQ => by
  unfold vo at h
  split at h
  ·cases h
  rename_i hgd
  have hgn : o.guard = none := by cases hq : o.guard with | none => rfl | some q => rw [hq] at hgd; exact absurd rfl hgd
  unfold wpQuiet
  rw [if_pos (by simp [Region.wanted, hgn])]
  have hH1 := (h1.hr hH).1
  -- in every world that has grown the frame is what it was
  have at_ : ∀ w', GrowW w1 w' → TR ((I.grow w w1).grow w1 w') w' T a ∧ HR ((I.grow w w1).grow w1 w') w' H := fun w' hw' => ⟨hT.keep (hw'.hr hH1).2, (hw'.hr hH1).1⟩
  have plain : (if eD o = true then eh cx.P d o T H fun v _ => if Bp v = true then vo cx d H l (dv T o.dst v) k else none else none) = some r → o.quiet cx.P a (fun w' => GrowW w1 w') (wpQuiet cx.P ops (fun w' => GrowW w1 w') Q l) := by
   intro h
   split at h
   ·rename_i hq
    rw [nC] at h
    obtain ⟨⟨v, act⟩, g1, g2⟩ := Option.bind_eq_some_iff.1 h
    simp only at g2
    split at g2
    ·rename_i hd
     have run : ∀ {I' : In} {w' : World}, TR I' w' T a → HR I' w' H → DoneQ cx.P o a I' w' v := fun hT' hH' => by
      obtain ⟨v', e1, e2⟩ := FD hT' hH' hq g1
      simp only [aa, ah] at e1
      rw [← e1.1]
      exact e2
     obtain ⟨u, q1, q2⟩ := run hT hH1
     refine ⟨u, fun w' hw' => ?_, ym hg hH h1 (hT.put _ q2) g2 hQ⟩
     obtain ⟨t1, t2⟩ := at_ w' hw'
     obtain ⟨u', q3, q4⟩ := run t1 t2
     unfold Oper.quietAt
     rw [q3]
     have hk := VR.keep (hw'.hr hH1).2 q2
     exact ⟨rfl, (yl hd hk q4).symm⟩
    ·cases g2
   ·cases h
  split at h
  ·rename_i c ho
   split at h
   ·rename_i f hc
    split at h
    ·rename_i g x y hf
     rw [FE] at h
     obtain ⟨v, g1, g2⟩ := Option.bind_eq_some_iff.1 h
     split at g2
     ·rename_i hd
      obtain ⟨x', y', e1, e2⟩ := iA (c := c) hT hf
      obtain ⟨he, hcs⟩ := vq hg hH h1 e2 g1
      -- what it gives is one value
      have one : ∃ u, VR (I.grow w w1) w1 v u ∧ ∀ (w' : World) (z : Value), GrowW w1 w' → VR ((I.grow w w1).grow w1 w') w' v z → z = u := by
       cases v with
       | sc v0 => exact ⟨v0, (by
         obtain ⟨z, w', hz⟩ : ∃ z w', VR ((I.grow w w1).grow w1 w') w' (.sc v0) z := by
          obtain ⟨e, w', he'⟩ := qH hcs
          cases e with
          | returned z => obtain ⟨v1, k1, _, k3⟩ := he'; simp only [aa] at k1; subst k1; exact ⟨z, w', k3⟩
          | _ => exact he'.elim
         cases hz with | sc _ h => exact .sc _ h), fun w' z hw' hz => hz.sc_eq⟩
       | ptr n o' p =>
        obtain ⟨z, w', hz⟩ : ∃ z w', VR ((I.grow w w1).grow w1 w') w' (.ptr n o' p) z := by
         obtain ⟨e, w', he'⟩ := qH hcs
         cases e with
         | returned z => obtain ⟨v1, k1, _, k3⟩ := he'; simp only [aa] at k1; subst k1; exact ⟨z, w', k3⟩
         | _ => exact he'.elim
        cases hz with | ptr _ _ _ b h1' hp =>
        have hv : VR (I.grow w w1) w1 (.ptr n o' p) (.pointer (some ⟨b, o' + dT p, none⟩)) := .ptr _ _ _ b h1' hp
        exact ⟨_, hv, fun w' z hw' hz => (yl (d := .ptr n o' p) rfl hz (VR.keep (hw'.hr hH1).2 hv))⟩
       | rp n sz i p =>
        obtain ⟨z, w', hz⟩ : ∃ z w', VR ((I.grow w w1).grow w1 w') w' (.rp n sz i p) z := by
         obtain ⟨e, w', he'⟩ := qH hcs
         cases e with
         | returned z => obtain ⟨v1, k1, _, k3⟩ := he'; simp only [aa] at k1; subst k1; exact ⟨z, w', k3⟩
         | _ => exact he'.elim
        cases hz with | rp _ _ _ _ b len cap h1' hi hp =>
        have hv : VR (I.grow w w1) w1 (.rp n sz i p) (.pointer (some ⟨b, i * sz + dT p, none⟩)) := .rp _ _ _ _ b len cap h1' hi hp
        exact ⟨_, hv, fun w' z hw' hz => (yl (d := .rp n sz i p) rfl hz (VR.keep (hw'.hr hH1).2 hv))⟩
       | _ => cases hd
      obtain ⟨u, q1, q2⟩ := one
      refine ⟨u, fun w' hw' => ?_, ym hg hH h1 (hT.put _ q1) g2 hQ⟩
      obtain ⟨t1, t2⟩ := at_ w' hw'
      obtain ⟨x2, y2, e3, e4⟩ := iA (c := c) t1 hf
      have hw2 := h1.trans hw'
      rw [je h1 hw'] at e4
      obtain ⟨_, hcs2⟩ := vq hg hH hw2 e4 g1
      unfold Oper.quietAt
      rw [jb ho hc e3 he]
      refine ⟨rfl, Calls.mono hcs2 ?_⟩
      rintro e w2 he'
      cases e with
      | returned z =>
       obtain ⟨v1, k1, k2, k3⟩ := he'
       simp only [aa] at k1
       subst k1
       have k4 := hw'.trans k2
       rw [je hw2 k2, ← je h1 k4] at k3
       rw [q2 w2 z k4 k3]
       exact ⟨rfl, k4⟩
      | _ => exact he'.elim
     ·cases g2
    ·cases h
   ·exact plain h
  ·exact plain h
def NW (I : In) (w : World) (k : Ex → List DV → Option α) (r : α) : Exit → Act → World → Prop := fun e a' w' => ∃ T' x, Pb x e ∧ GrowW w w' ∧ TR (I.grow w w') w' T' a' ∧ k x T' = some r
theorem Kx (hg : Good cx) (hH : HR I w H) {d : Nat} : ∀ (c : Code) {w1 : World} {T : List DV} {a : Act} {k : Ex → List DV → Option α} {r : α}, GrowW w w1 → TR (I.grow w w1) w1 T a → uT cx d H c T k = some r → c.wp cx.P (NW I w k r) a w1 := by
 intro c
 induction c with
 | skip => intro w1 T a k r h1 hT h; exact wp_skip ⟨T, .norm, trivial, h1, hT, h⟩
 | exit id => intro w1 T a k r h1 hT h; exact wp_exit ⟨T, .exit id, rfl, h1, hT, h⟩
 | ret => intro w1 T a k r h1 hT h; exact wp_ret ⟨T, .ret, trivial, h1, hT, h⟩
 | region id ops draw =>
  intro w1 T a k r h1 hT h
  simp only [uT] at h
  cases draw with
  | true =>
   simp only [if_true] at h
   split at h
   ·rename_i hf
    rw [ai] at hf
    refine wp_region_quiet (C := fun w' => GrowW w1 w') hf.1 hf.2 ⟨ak _, fun _ _ => rfl, rfl, rfl, rfl⟩ (ym hg hH h1 hT h fun T' a' hT' h' w' hw' => ?_)
    have := hT'.keep (hw'.hr (h1.hr hH).1).2
    rw [je h1 hw'] at this
    exact ⟨T', .norm, trivial, h1.trans hw', this, h'⟩
   ·cases h
  | false =>
   simp only [aD, au] at h
   exact wp_region_list (CZ hg hH h1 hT h fun w' T' a' he hT' h' => ⟨T', .norm, trivial, he, hT', h'⟩)
 | seq x y ihx ihy =>
  intro w1 T a k r h1 hT h
  simp only [uT] at h
  refine wp_seq (Code.wp_mono ?_ (ihx h1 hT h))
  rintro e a2 w2 ⟨T2, x', hx, he2, hT2, h2⟩
  cases e <;> cases x' <;> first | exact hx.elim | skip
  ·exact ihy he2 hT2 h2
  ·exact ⟨T2, _, hx, he2, hT2, h2⟩
  ·exact ⟨T2, _, hx, he2, hT2, h2⟩
  ·exact ⟨T2, _, hx, he2, hT2, h2⟩
 | cond c x y ihx ihy =>
  intro w1 T a k r h1 hT h
  simp only [uT] at h
  split at h
  ·rename_i t ht
   have hv := dm hT c
   rw [ht] at hv
   refine wp_cond hv.sc_eq ?_
   cases t with
   | true =>
    simp only [if_true, qA ht] at h ⊢
    exact ihx h1 hT h
   | false =>
    simp only [aD, au, qA ht] at h ⊢
    exact ihy h1 hT h
  ·cases h
 | _ => intros; simp only [uT] at *; contradiction
theorem HC (hg : Good cx) (hH : HR I w H) {d : Nat} {f : FuncId} {A : List DV} {args : List Value} {k : DV → Option α} {r : α} (hl : A.length ≤ args.length) (hA : ∀ i, VR I w (A.getD i .undef) (args.getD i undef)) (h : Ec cx f d A H k = some r) :
  Calls cx.P f args.toArray w (rQ fun z w' => ∃ v, k v = some r ∧ GrowW w w' ∧ VR (I.grow w w') w' v z) := by
 unfold Ec at h
 split at h
 ·rename_i fn hf
  split at h
  ·rename_i c hb
   have hfr := Bf (n := fn.ntmps) hl hA
   have hfr' := hfr
   rw [← A8 I w] at hfr'
   refine calls_of_wp hf hb (Code.wp_mono ?_ (Kx hg hH c (GrowW.refl w) hfr' h))
   rintro e a' w' ⟨T', x, hx, he, hT', h'⟩
   have fin : (match lH cx.P T' H fn.results.toList with | some vs => k (gf vs) | none => none) = some r → a'.defers = [] ∧ ∃ v, (results fn a'.tmps).run cx.P w' = .ok v w' ∧ ∃ v', k v' = some r ∧ GrowW w w' ∧ VR (I.grow w w') w' v' v := by
    intro h'
    split at h'
    ·rename_i vs hvs
     obtain ⟨z, g1, g2⟩ := xg (P := cx.P) hT' (he.hr hH).1 hvs
     exact ⟨hT'.df, z, g1, _, h', he, g2⟩
    ·cases h'
   cases e <;> cases x <;> first | exact hx.elim | skip
   ·exact fin h'
   ·cases h'
   ·cases h'
   ·exact fin h'
  ·cases h
 ·cases h
def Ky (S : FS) : DV → Option S.R := fun v => match Av S.tout.ks.length v with
 | some l => match S.tout.pr ⟨[], []⟩ l (fun _ => none) with
  | some (z, _) => some (S.inn z)
  | none => none
 | none => none
def nl (cx : Cx) (f d : Nat) (S : FS) : Prop := ∀ x, Ec cx f d (S.tin.T dy x) (S.tin.H dy x fun _ => none) (Ky S) = S.fn x
def FS.looks (S : FS) : Bool := jS S.tout.ks && S.tout.os.isEmpty
theorem JP (hg : Good cx) {f d : Nat} {S : FS} (heq : nl cx f d S) (hoi : ∀ o, S.out (S.inn o) = o) (hnam : S.tin.free dy (fun _ => none) = true) (hp : S.looks = true) : nD cx.P f S := by
 intro I w H A args X m Y hH hA hX hY
 obtain ⟨⟨I0, hL0⟩, hlen, _⟩ := mw (ρ := dy) hH rfl hX (vals := fun i => args.getD i undef) (fun i => hA.getD i) (ki I w S.tin dy m) hnam
 have hle : (S.tin.T dy X).length ≤ args.length := by
  unfold Tmpl.T
  rw [gn, ← hA.length]
  exact hlen
 refine Calls.mono (HC hg hL0.hr hle hL0.val ((heq X).trans hY)) ?_
 rintro e w' he
 cases e with
 | returned z =>
  obtain ⟨v, h1, h2, h3⟩ := he
  refine ⟨h2, ?_⟩
  unfold Ky at h1
  split at h1
  ·rename_i l hl
   split at h1
   ·rename_i zz m1 hz
    simp only [aa] at h1
    rw [← h1, hoi]
    obtain ⟨us, u1, u2, u3⟩ := Bl h3 hl
    obtain ⟨tin, ⟨oks, oos⟩, R, out, inn, fn⟩ := S
    simp only [FS.looks, ai, List.isEmpty_iff] at hp
    obtain ⟨p3, p4⟩ := hp
    subst p4
    have hlen2 : l.length = oks.length := by
     unfold Tmpl.pr at hz
     split at hz
     ·rename_i x1 m2 hx1
      exact lM p3 hx1
     ·cases hz
    have hfree : Tmpl.free ⟨oks, []⟩ dy (fun _ => none) = true := by
     have : Tmpl.names ⟨oks, []⟩ dy = [] := by
      unfold Tmpl.names
      simp only [fP, aK]
      exact (iG (ρ := dy) (c := 0) (x := zz.1) (H := H) p3).2
     unfold Tmpl.free
     rw [this]
     rfl
    -- under no names at all
    have hH2 : HR ⟨fun _ => none, (I0.grow w w').R⟩ w' fun _ => none := by
     have hb := (h2.hr hL0.hr).1
     exact ⟨fun n cs h => (by cases h), fun n E s xs h => (by cases h), fun n ks vs h => (by cases h), fun n _ => rfl, fun n e b h => (by cases h), fun n m e e' b h => (by cases h), hb.rlt⟩
    have hz' : Tmpl.pr ⟨oks, []⟩ ⟨[], []⟩ l (tin.H dy X fun _ => none) = some (zz, m1) := by
     unfold Tmpl.pr at hz ⊢
     split at hz
     ·rename_i x1 m2 hx1
      obtain ⟨rfl, hx2⟩ := lL p3 hx1
      simp only [mX] at hz
      split at hz
      ·rename_i hc
       simp only [aa, ah] at hz
       obtain ⟨rfl, rfl⟩ := hz
       simp only [hx2, mX]
       rw [if_pos hc]
      ·cases hz
     ·cases hz
    obtain ⟨⟨I2, hL2⟩, _, _⟩ := mw (ρ := dy) (h2.hr hL0.hr).1 rfl hz' (vals := fun i => us.getD i undef) (fun i => u2.getD i) (ki (I0.grow w w') w' ⟨oks, []⟩ dy m1) hfree
    have hι : ∀ n, I2.ι n = none := fun n => hL2.out n (by
     have : Tmpl.names ⟨oks, []⟩ dy = [] := by
      unfold Tmpl.names
      simp only [fP, aK]
      exact (iG (ρ := dy) (c := 0) (x := zz.1) (H := H) p3).2
     rw [this]
     simp)
    have hs : Same I2 (I.grow w w') w' w' := by
     refine ⟨⟨fun b hb => ?_, fun _ _ => rfl⟩, fun n b h => by rw [hι] at h; (cases h), fun n sz v h => by rw [hι] at h; (cases h)⟩
     rw [hL2.R] at hb
     rcases hb with hb | hb
     ·exact .inl (by rw [← hL0.R]; exact hb)
     ·exact .inr hb
    refine u3 (LR.of ?_ fun i => VR.keep hs (hL2.val i))
    unfold Tmpl.T
    rw [gn, u1]
   ·cases h1
  ·cases h1
 | _ => exact he.elim
def Cx.addQ (cx : Cx) (f : FuncId) (S : FS) : Cx := ⟨cx.P, cx.loops, cx.specs, cx.tabs, fun g => if Nat.beq g f then S :: cx.qs g else cx.qs g⟩
theorem Good.addQ {cx : Cx} (h : Good cx) {f : FuncId} {S : FS} (hq : nD cx.P f S) : Good (cx.addQ f S) := by
 refine ⟨h.specs, h.loops, h.pures, h.tabs, fun g S' hm => ?_⟩
 simp only [Cx.addQ] at hm
 split at hm
 ·rename_i hgf
  have := bU hgf
  subst this
  rcases aC.1 hm with rfl | hm
  ·intro I w H A args X m Y hH hA hX hY
   exact hq hH hA hX hY
  ·intro I w H A args X m Y hH hA hX hY
   exact h.qs g S' hm hH hA hX hY
 ·intro I w H A args X m Y hH hA hX hY
  exact h.qs g S' hm hH hA hX hY
theorem kj {cx : Cx} (h : Good cx) (d : Nat) {f : FuncId} {S : FS} (heq : nl cx f d S) (hoi : ∀ o, S.out (S.inn o) = o) (hnam : S.tin.free dy (fun _ => none) = true) (hp : S.looks = true) : Good (cx.bare.addQ f S) :=
 h.bare.addQ (JP h heq hoi hnam hp)
end
end Go.Proofs.Dk
namespace Go.Proofs.YtofeifhecboinaaGreatH
open Go
def gC (S : Nat → Bool) : Nat → Nat
 | 0 => 0
 | n + 1 => gC S n + (if S n then 0 else 1)
def don (S : Nat → Bool) (i : Nat) : Nat → Bool := fun j => if j = i then true else S j
theorem cnt_le (S : Nat → Bool) (i : Nat) : ∀ n, n ≤ i → gC (don S i) n = gC S n
 | 0, _ => rfl
 | n + 1, h => by
  simp only [gC]
  rw [cnt_le S i n (by omega)]
  simp [don, show n ≠ i by omega]
theorem cnt_don (S : Nat → Bool) (i : Nat) (hi : S i = false) : ∀ n, i < n → gC S n = gC (don S i) n + 1
 | 0, h => by omega
 | n + 1, h => by
  simp only [gC]
  by_cases e : n = i
  ·subst e
   rw [cnt_le S n n (Nat.le_refl _)]
   simp [don, hi]
  ·rw [cnt_don S i hi n (by omega)]
   simp [don, e]
   omega
theorem nV (S : Nat → Bool) : ∀ n, gC S n = 0 → ∀ i, i < n → S i = true
 | 0, _, i, hi => by omega
 | n + 1, h, i, hi => by
  simp only [gC] at h
  by_cases e : i = n
  ·subst e
   cases hs : S i with
   | true => rfl
   | false => rw [hs] at h; simp at h
  ·exact nV S n (by omega) i (by omega)
section
variable {P : Program} {ops : Array Oper} {Q : Exit → Act → World → Prop}
theorem mem_ready' {listed : Array Bool} (hs : listed.size = ops.size) {i : Nat} : i ∈ Region.ready .any ops listed ↔ listed.getD i false = false ∧ ∃ o, ops[i]? = some o ∧ ∀ e ∈ o.after, Region.binds .any e = true → listed.getD e.on false = true := by
 rw [mem_ready]
 constructor
 ·rintro ⟨h, o, ho, ha⟩
  have hlt : i < listed.size := by rw [hs]; exact (Array.getElem?_eq_some_iff.1 ho).1
  exact ⟨by simpa [hlt] using h, o, ho, ha⟩
 ·rintro ⟨h, o, ho, ha⟩
  have hlt : i < listed.size := by rw [hs]; exact (Array.getElem?_eq_some_iff.1 ho).1
  exact ⟨by simpa [hlt] using h, o, ho, ha⟩
theorem all_done (hback : ∀ (i : Nat) (o : Oper), ops[i]? = some o → ∀ e ∈ o.after, e.on < i) (listed : Array Bool) (hs : listed.size = ops.size) (h : Region.ready .any ops listed = []) : ∀ i, i < ops.size → listed.getD i false = true := by
 intro i
 induction i using Nat.strongRecOn with
 | _ i ih =>
  intro hi
  cases hl : listed.getD i false with
  | true => rfl
  | false =>
   exfalso
   have hm : i ∈ Region.ready .any ops listed := by
    rw [mem_ready' hs]
    refine ⟨hl, ops[i], by simp [hi], fun e he _ => ?_⟩
    have hlt := hback i ops[i] (by simp [hi]) e he
    exact ih e.on hlt (by omega)
   rw [h] at hm
   cases hm
theorem wpAny_inv (I : (Nat → Bool) → Act → World → Prop) (hback : ∀ (i : Nat) (o : Oper), ops[i]? = some o → ∀ e ∈ o.after, e.on < i)
  (hstep : ∀ S i o a w, ops[i]? = some o → S i = false → (∀ e ∈ o.after, Region.binds .any e = true → S e.on = true) → I S a w → wpOp P ops Q i (I (don S i)) a w)
  (hend : ∀ S a w, (∀ i, i < ops.size → S i = true) → I S a w → Q .normal a w) :
  ∀ (fuel : Nat) (listed : Array Bool) (a : Act) (w : World), listed.size = ops.size → gC (fun i => listed.getD i false) ops.size ≤ fuel → I (fun i => listed.getD i false) a w → wpAny P .any ops Q fuel listed a w
 | 0, listed, a, w, hs, hc, hI => by
  have hall := nV _ _ (Nat.le_zero.1 hc)
  refine ⟨?_, hend _ a w hall hI⟩
  cases hr : Region.ready .any ops listed with
  | nil => rfl
  | cons i rs =>
   have hm : i ∈ Region.ready .any ops listed := by rw [hr]; exact List.mem_cons_self
   rw [mem_ready' hs] at hm
   obtain ⟨h1, o, ho, _⟩ := hm
   have := hall i (Array.getElem?_eq_some_iff.1 ho).1
   rw [this] at h1
   cases h1
 | fuel + 1, listed, a, w, hs, hc, hI => by
  refine ⟨fun hr => hend _ a w (all_done hback listed hs hr) hI, fun i hm => ?_⟩
  rw [mem_ready' hs] at hm
  obtain ⟨h1, o, ho, ha⟩ := hm
  have hlt : i < ops.size := (Array.getElem?_eq_some_iff.1 ho).1
  have hS : (fun j => (listed.setIfInBounds i true).getD j false) = don (fun j => listed.getD j false) i := by
   funext j
   simp only [don]
   by_cases e : j = i
   ·subst e
    simp [hs, hlt]
   ·rw [if_neg e, getD_set_ne false (Ne.symm e)]
  refine wpOp_mono (fun a' w' h => ?_) (hstep _ i o a w ho h1 ha hI)
  refine wpAny_inv I hback hstep hend fuel _ a' w' (by simp [hs]) ?_ ?_
  ·rw [hS]
   have := cnt_don (fun j => listed.getD j false) i h1 ops.size hlt
   omega
  ·rw [hS]
   exact h
theorem wp_region_inv {id : Nat} {a : Act} {w : World} (hm : P.follows .mixedOrders = true) (I : (Nat → Bool) → Act → World → Prop) (hback : ∀ (i : Nat) (o : Oper), ops[i]? = some o → ∀ e ∈ o.after, e.on < i)
  (hstep : ∀ S i o a w, ops[i]? = some o → S i = false → (∀ e ∈ o.after, Region.binds .any e = true → S e.on = true) → I S a w → wpOp P ops Q i (I (don S i)) a w)
  (hend : ∀ S a w, (∀ i, i < ops.size → S i = true) → I S a w → Q .normal a w) (h0 : I (fun _ => false) a w.drew) : (Code.region id ops true).wp P Q a w := by
 refine wp_region_any hm (wpAny_inv I hback hstep hend ops.size _ a _ (by simp) ?_ ?_)
 ·have : ∀ (S : Nat → Bool) n, gC S n ≤ n := by
   intro S n
   induction n with
   | zero => exact Nat.le_refl _
   | succ n ih => simp only [gC]; split <;> omega
  exact this _ _
 ·have e : (fun i => (Array.replicate ops.size false).getD i false) = fun _ => false := by
   funext i
   by_cases hi : i < ops.size <;> simp [hi]
  rw [e]
  exact h0
end
def backB (ops : Array Oper) : Bool := (List.range ops.size).all fun i => match ops[i]? with | some o => o.after.all (fun e => decide (e.on < i)) | none => true
theorem back_of {ops : Array Oper} (h : backB ops = true) : ∀ (i : Nat) (o : Oper), ops[i]? = some o → ∀ e ∈ o.after, e.on < i := by
 intro i o ho e he
 have hlt : i < ops.size := (Array.getElem?_eq_some_iff.1 ho).1
 have h1 := List.all_eq_true.1 h i (List.mem_range.2 hlt)
 rw [ho] at h1
 have h2 := Array.all_eq_true_iff_forall_mem.1 h1 e he
 exact of_decide_eq_true h2
end Go.Proofs.YtofeifhecboinaaGreatH
namespace Go.Proofs.YtofeifhecboinaaGreat.E
open Go.RowKit Go.Proofs.YtofeifhecboinaaGreatH
theorem blk_cell {w : World} {g : Nat} {t : TypeId} {cs : Array Value} (h : w.heap[g]? = some (.cells cs t (0, 0))) (i : Nat) : w.cell? ⟨g, i, none⟩ = cs[i]? := cell_of_row w g i cs t (0, 0) h
theorem run_store_func {P : Program} {w : World} {a : Addr} {m : Mode} (f : Fn) (x y : Array Value) : (store a (.func f x y) m).run P w = stored P w a (.func f x y) m := run_store P w a _ m rfl
attribute [local go_sem] run_store_func
inductive GK | al (s : ByteArray) | dup | swp | two
def gk (k : Int) : Option (ByteArray × GK) :=
 if k = 1 ∨ k = 11 ∨ k = 13 ∨ k = 15 ∨ k = 17 then some (⟨#[]⟩, .al ⟨#[105]⟩)
 else if k = 12 ∨ k = 14 ∨ k = 16 ∨ k = 18 then some (⟨#[105]⟩, .al ⟨#[]⟩)
 else if k = 2 then some (⟨#[32]⟩, .al ⟨#[]⟩)
 else if k = 3 then some (⟨#[32]⟩, .dup)
 else if k = 4 then some (⟨#[32, 32]⟩, .swp)
 else if k = 5 then some (⟨#[105, 105]⟩, .two)
 else if k = 6 then some (⟨#[105]⟩, .al ⟨#[105]⟩)
 else if k = 7 then some (⟨#[98]⟩, .al ⟨#[98]⟩)
 else if k = 8 ∨ k = 9 then some (⟨#[98, 98]⟩, .al ⟨#[98]⟩)
 else if k = 10 then some (⟨#[98]⟩, .al ⟨#[105]⟩)
 else if k = 20 then some (⟨#[98]⟩, .al ⟨#[]⟩)
 else none
def gfn (BB : Nat) (w : World) (f : Value) : GK → Prop
 | .al s => ∃ p : Nat, BB ≤ p ∧ f = .func (.func 281) #[] #[.pointer (some ⟨p, 0, none⟩)] ∧ w.heap[p]? = some (.cells #[.string s] 9 (0, 0))
 | .dup => f = .func (.func 271) #[] #[]
 | .swp => f = .func (.func 272) #[] #[]
 | .two => f = .func (.func 273) #[] #[]
def Good (BB : Nat) (w : World) (k : Int) (v : Value) : Prop := ∃ t g f, gk k = some (t, g) ∧ v = .agg #[.string t, f] ∧ gfn BB w f g
def KeepC (w w' : World) : Prop := ∀ (k : Nat) (cs : Array Value) (t : TypeId) (sh : Nat × Nat), w.heap[k]? = some (.cells cs t sh) → w'.heap[k]? = some (.cells cs t sh)
theorem KeepC.refl (w : World) : KeepC w w := fun _ _ _ _ h => h
theorem KeepC.trans {a b c : World} (h : KeepC a b) (h2 : KeepC b c) : KeepC a c := fun k cs t sh hk => h2 k cs t sh (h k cs t sh hk)
theorem KeepC.alloc (w : World) (o : Obj) : KeepC w (w.alloc o) := fun k cs t sh hk => by
 have hlt : k < w.heap.size := (Array.getElem?_eq_some_iff.1 hk).1
 rw [Below.heap_alloc _ _ _ hlt]
 exact hk
theorem KeepC.below {w w' : World} (h : Below w.heap.size w w') : KeepC w w' := fun k cs t sh hk => by
 have hlt : k < w.heap.size := (Array.getElem?_eq_some_iff.1 hk).1
 rw [h.block k hlt]
 exact hk
theorem KeepC.map {w w' : World} {b : Nat} {es : Array MapEntry} {c : Nat} (hb : w.heap[b]? = some (.map es c)) (hg : w.grownBy w' (some b)) : KeepC w w' := fun k cs t sh hk => by
 have hlt : k < w.heap.size := (Array.getElem?_eq_some_iff.1 hk).1
 rw [hg.block k hlt (fun e => by injection e with e; subst e; rw [hb] at hk; cases hk)]
 exact hk
theorem gfn_keep {BB : Nat} {w w' : World} (h : KeepC w w') {f : Value} : ∀ {g : GK}, gfn BB w f g → gfn BB w' f g
 | .al s, ⟨p, e0, e, hp⟩ => ⟨p, e0, e, h _ _ _ _ hp⟩
 | .dup, e => e
 | .swp, e => e
 | .two, e => e
theorem Good.keep {BB : Nat} {w w' : World} (h : KeepC w w') {k : Int} {v : Value} : Good BB w k v → Good BB w' k v
 | ⟨t, g, f, e, e2, hg⟩ => ⟨t, g, f, e, e2, gfn_keep h hg⟩
def vp (BB : Nat) : Nat → Option (Nat × (World → Value → Prop))
 | 1 => some (11, (fun W v => Good BB W 1 v))
 | 3 => some (12, (fun W v => Good BB W 11 v))
 | 5 => some (13, (fun W v => Good BB W 13 v))
 | 7 => some (14, (fun W v => Good BB W 15 v))
 | 9 => some (15, (fun W v => Good BB W 17 v))
 | 11 => some (16, (fun W v => Good BB W 12 v))
 | 13 => some (17, (fun W v => Good BB W 14 v))
 | 15 => some (18, (fun W v => Good BB W 16 v))
 | 17 => some (19, (fun W v => Good BB W 18 v))
 | 19 => some (20, (fun W v => gfn BB W v (.al ⟨#[]⟩)))
 | 20 => some (21, (fun W v => Good BB W 2 v))
 | 22 => some (22, (fun W v => Good BB W 3 v))
 | 24 => some (23, (fun W v => Good BB W 4 v))
 | 26 => some (24, (fun W v => Good BB W 5 v))
 | 28 => some (25, (fun W v => gfn BB W v (.al ⟨#[105]⟩)))
 | 29 => some (26, (fun W v => Good BB W 6 v))
 | 31 => some (27, (fun W v => gfn BB W v (.al ⟨#[98]⟩)))
 | 32 => some (28, (fun W v => Good BB W 7 v))
 | 34 => some (29, (fun W v => Good BB W 8 v))
 | 36 => some (30, (fun W v => Good BB W 9 v))
 | 38 => some (31, (fun W v => gfn BB W v (.al ⟨#[105]⟩)))
 | 39 => some (32, (fun W v => Good BB W 10 v))
 | 41 => some (33, (fun W v => gfn BB W v (.al ⟨#[]⟩)))
 | 42 => some (34, (fun W v => Good BB W 20 v))
 | _ => none
def ins : Nat → Option Int
 | 2 => some 1
 | 4 => some 11
 | 6 => some 13
 | 8 => some 15
 | 10 => some 17
 | 12 => some 12
 | 14 => some 14
 | 16 => some 16
 | 18 => some 18
 | 21 => some 2
 | 23 => some 3
 | 25 => some 4
 | 27 => some 5
 | 30 => some 6
 | 33 => some 7
 | 35 => some 8
 | 37 => some 9
 | 40 => some 10
 | 43 => some 20
 | _ => none
def vidx : Nat → Nat
 | 11 => 1
 | 12 => 3
 | 13 => 5
 | 14 => 7
 | 15 => 9
 | 16 => 11
 | 17 => 13
 | 18 => 15
 | 19 => 17
 | 20 => 19
 | 21 => 20
 | 22 => 22
 | 23 => 24
 | 24 => 26
 | 25 => 28
 | 26 => 29
 | 27 => 31
 | 28 => 32
 | 29 => 34
 | 30 => 36
 | 31 => 38
 | 32 => 39
 | 33 => 41
 | 34 => 42
 | _ => 0
def iidx (k : Int) : Nat := if k = 1 then 2 else if k = 11 then 4 else if k = 13 then 6 else if k = 15 then 8 else if k = 17 then 10 else if k = 12 then 12 else if k = 14 then 14 else if k = 16 then 16 else if k = 18 then 18 else if k = 2 then 21 else if k = 3 then 23 else if k = 4 then 25 else if k = 5 then 27 else if k = 6 then 30 else if k = 7 then 33 else if k = 8 then 35 else if k = 9 then 37 else if k = 10 then 40 else if k = 20 then 43 else 0
def RV (v : Value) : Option (DataW Value × List MemPlace) := some (.held v, [])
structure Inv (BB : Nat) (W0 : World) (B1 B2 B3 : Nat) (S : Nat → Bool) (a : Act) (W : World) : Prop where
 base : BB ≤ W0.heap.size
 size : a.tmps.size = 36
 defs : a.defers = []
 keep : KeepC W0 W
 below : Below W0.heap.size W0 W
 s1 : a.eval (.tmp 1) = .pointer (some ⟨B1, 0, none⟩)
 s2 : a.eval (.tmp 2) = .pointer (some ⟨B2, 0, none⟩)
 s3 : a.eval (.tmp 3) = .pointer (some ⟨B3, 0, none⟩)
 vals : ∀ j t p, vp BB j = some (t, p) → S j = true → p W (a.eval (.tmp t))
 made : ∀ j k, ins j = some k → S j = true → S 0 = true
 map : S 0 = true → ∃ (b n : Nat) (D : DataW Value), a.eval (.tmp 10) = .map (some b) ∧ W0.heap.size ≤ b ∧ W.ownsMap Tryz.prog 3 RV b n D ∧ n + gC S 46 ≤ 46 ∧ ∀ k : Int, (Lit.int .i64 k).wf = true → ((∃ v, (∀ zd, D.atKey (.int .i64 k) zd = .held v) ∧ Good BB W k v ∧ ∃ j, ins j = some k ∧ S j = true) ∨ ((∀ zd, D.atKey (.int .i64 k) zd = zd) ∧ ∀ j, ins j = some k → S j = false))
 mv : S 44 = true → S 0 = true ∧ a.eval (.tmp 35) = a.eval (.tmp 10)
 rs : S 45 = true → S 44 = true ∧ a.eval (.tmp 0) = a.eval (.tmp 35)
theorem eval_put_ne (a : Act) (d t : Nat) (v : Value) (h : d ≠ t) : (a.put (some d) v).eval (.tmp t) = a.eval (.tmp t) := Act.eval_put (fun d' e e2 => by cases e; cases e2; exact h rfl)
theorem eval_put_eq (a : Act) (d : Nat) (v : Value) (h : d < a.tmps.size) : (a.put (some d) v).eval (.tmp d) = v := by
 simp [Act.put, Act.eval, h]
theorem vp_keep {BB : Nat} {w w' : World} (h : KeepC w w') {j t : Nat} {p : World → Value → Prop} (hv : vp BB j = some (t, p)) {v : Value} (hp : p w v) : p w' v := by
 unfold vp at hv
 split at hv <;> first
  | (injection hv with hv; injection hv with h1 h2; subst h2; exact Good.keep h hp)
  | (injection hv with hv; injection hv with h1 h2; subst h2; exact gfn_keep h hp)
  | cases hv
theorem vp_tmp {BB : Nat} {j t : Nat} {p : World → Value → Prop} (hv : vp BB j = some (t, p)) : 11 ≤ t ∧ t ≤ 34 ∧ vidx t = j ∧ 0 < j ∧ j < 44 ∧ ins j = none := by
 unfold vp at hv
 split at hv <;> first
  | (injection hv with hv; injection hv with h1 h2; subst h1; decide)
  | cases hv
theorem ins_idx {BB : Nat} {j : Nat} {k : Int} (hv : ins j = some k) : iidx k = j ∧ 0 < j ∧ j < 44 ∧ vp BB j = none ∧ (Lit.int .i64 k).wf = true := by
 unfold ins at hv
 split at hv <;> first
  | (injection hv with hv; subst hv; exact ⟨by decide, by decide, by decide, rfl, by decide⟩)
  | cases hv
theorem don_ne {S : Nat → Bool} {i j : Nat} (h : i ≠ j) : don S j i = S i := by simp [don, h]
theorem don_eq {S : Nat → Bool} {j : Nat} : don S j j = true := by simp [don]
section
variable {BB : Nat} {W0 W W' : World} {B1 B2 B3 : Nat} {S : Nat → Bool} {a : Act}
theorem Inv.value (h : Inv BB W0 B1 B2 B3 S a W) {j t : Nat} {p : World → Value → Prop} {v : Value} (hv : vp BB j = some (t, p)) (hS : S j = false) (hk : KeepC W W') (hb : Below W0.heap.size W0 W') (hm : ∀ b n D, W.ownsMap Tryz.prog 3 RV b n D → W'.ownsMap Tryz.prog 3 RV b n D) (hp : p W' v) : Inv BB W0 B1 B2 B3 (don S j) (a.put (some t) v) W' := by
 obtain ⟨t1, t2, t3, t4, t5, t6⟩ := vp_tmp hv
 have hne : ∀ x : Nat, x < 11 ∨ 34 < x → (a.put (some t) v).eval (.tmp x) = a.eval (.tmp x) := fun x hx => eval_put_ne a t x v (by omega)
 refine ⟨h.base, by simpa [Act.put] using h.size, h.defs, h.keep.trans hk, hb, (hne 1 (by omega)).trans h.s1, (hne 2 (by omega)).trans h.s2, (hne 3 (by omega)).trans h.s3, ?_, ?_, ?_, ?_, ?_⟩
 ·intro j' t' p' hv' hS'
  by_cases e : j' = j
  ·subst e
   rw [hv] at hv'
   injection hv' with hv'
   injection hv' with e1 e2
   subst e1
   subst e2
   rw [eval_put_eq a t v (by have := h.size; omega)]
   exact hp
  ·rw [don_ne e] at hS'
   rw [eval_put_ne a t t' v (fun e2 => by subst e2; exact e ((vp_tmp hv').2.2.1.symm.trans t3))]
   exact vp_keep hk hv' (h.vals j' t' p' hv' hS')
 ·intro j' k hi hS'
  have e : j' ≠ j := fun e => by subst e; rw [t6] at hi; cases hi
  rw [don_ne e] at hS'
  rw [don_ne (by omega)]
  exact h.made j' k hi hS'
 ·intro h0
  rw [don_ne (by omega)] at h0
  obtain ⟨b, n, D, g1, g2, g3, g4, g5⟩ := h.map h0
  refine ⟨b, n, D, (hne 10 (by omega)).trans g1, g2, hm _ _ _ g3, ?_, fun k hw => ?_⟩
  ·have := cnt_don S j hS 46 (by omega)
   omega
  ·rcases g5 k hw with ⟨x, x1, x2, j', x3, x4⟩ | ⟨x1, x2⟩
   ·exact .inl ⟨x, x1, x2.keep hk, j', x3, by rw [don_ne (fun e => by subst e; rw [t6] at x3; cases x3)]; exact x4⟩
   ·exact .inr ⟨x1, fun j' x3 => by rw [don_ne (fun e => by subst e; rw [t6] at x3; cases x3)]; exact x2 j' x3⟩
 ·intro h0
  rw [don_ne (by omega)] at h0
  rw [don_ne (by omega), hne 35 (by omega), hne 10 (by omega)]
  exact h.mv h0
 ·intro h0
  rw [don_ne (by omega)] at h0
  rw [don_ne (by omega), hne 0 (by omega), hne 35 (by omega)]
  exact h.rs h0
theorem Inv.insert (h : Inv BB W0 B1 B2 B3 S a W) {j : Nat} {k : Int} {v : Value} {b n : Nat} {D : DataW Value} (hi : ins j = some k) (hS : S j = false) (hS0 : S 0 = true) (g1 : a.eval (.tmp 10) = .map (some b)) (g2 : W0.heap.size ≤ b) (g3 : W.ownsMap Tryz.prog 3 RV b n D) (g4 : n + gC S 46 ≤ 46) (g5 : ∀ k : Int, (Lit.int .i64 k).wf = true → ((∃ v, (∀ zd, D.atKey (.int .i64 k) zd = .held v) ∧ Good BB W k v ∧ ∃ j, ins j = some k ∧ S j = true) ∨ ((∀ zd, D.atKey (.int .i64 k) zd = zd) ∧ ∀ j, ins j = some k → S j = false))) (hg : Good BB W k v)
  (hm : W'.ownsMap Tryz.prog 3 RV b (n + 1) (D.put (.int .i64 k) (.held v))) (hgr : W.grownBy W' (some b)) : Inv BB W0 B1 B2 B3 (don S j) a W' := by
 obtain ⟨t1, t2, t3, t4, t5⟩ := ins_idx (BB := BB) hi
 have hk : KeepC W W' := by
  obtain ⟨es, c, hb, _⟩ := g3
  exact KeepC.map hb hgr
 have hD : Maps.IsMap D := by
  obtain ⟨es, c, hb, _, _, e⟩ := g3
  exact ⟨_, e⟩
 refine ⟨h.base, h.size, h.defs, h.keep.trans hk, h.below.grown hgr h.below.size (fun j hj => by cases hj; exact g2), h.s1, h.s2, h.s3, ?_, ?_, ?_, ?_, ?_⟩
 ·intro j' t' p' hv' hS'
  rw [don_ne (fun e => by subst e; rw [t4] at hv'; cases hv')] at hS'
  exact vp_keep hk hv' (h.vals j' t' p' hv' hS')
 ·intro j' k' hi' hS'
  rw [don_ne (by omega)]
  exact hS0
 ·intro _
  refine ⟨b, n + 1, _, g1, g2, hm, ?_, fun k' hw => ?_⟩
  ·have := cnt_don S j hS 46 (by omega)
   omega
  ·by_cases e : k' = k
   ·subst e
    exact .inl ⟨v, fun zd => Maps.atKey_put_same hD (by first | exact trivial | simp [WideAt.IsKeyLit]) _ zd, hg.keep hk, j, hi, don_eq⟩
   ·have hne : (Lit.int IntKind.i64 k') ≠ .int .i64 k := fun e2 => e (by injection e2)
    rcases g5 k' hw with ⟨x, x1, x2, j', x3, x4⟩ | ⟨x1, x2⟩
    ·refine .inl ⟨x, fun zd => (Maps.atKey_put_other hne _ zd).trans (x1 zd), x2.keep hk, j', x3, ?_⟩
     rw [don_ne (fun e2 => by subst e2; rw [hi] at x3; injection x3 with x3; exact e x3.symm)]
     exact x4
    ·refine .inr ⟨fun zd => (Maps.atKey_put_other hne _ zd).trans (x1 zd), fun j' x3 => ?_⟩
     rw [don_ne (fun e2 => by subst e2; rw [hi] at x3; injection x3 with x3; exact e x3.symm)]
     exact x2 j' x3
 ·intro h0
  rw [don_ne (by omega)] at h0 ⊢
  exact h.mv h0
 ·intro h0
  rw [don_ne (by omega)] at h0 ⊢
  exact h.rs h0
end
theorem wpOp_of {P : Program} {ops : Array Oper} {Q : Exit → Act → World → Prop} {i : Nat} {o : Oper} {a : Act} {w : World} {K : Act → World → Prop} (ho : ops[i]? = some o) (hg : o.guard = none) (h : o.wp P a w K Q) : wpOp P ops Q i K a w := by
 unfold wpOp
 rw [ho]
 have hw : Region.wanted o (yielded ops a.tmps) = true := by simp [Region.wanted, hg]
 simp only [hw, if_true]
 exact .inl h
set_option maxHeartbeats 8000000 in
set_option maxRecDepth 100000 in
theorem always_calls (s : ByteArray) (w : World) : Calls Tryz.prog 270 #[.string s] w fun e w' => e = .returned (.func (.func 281) #[] #[.pointer (some ⟨w.heap.size, 0, none⟩)]) ∧ w' = w.alloc (.cells #[.string s] 9) := by
 go_enter Tryz.func270, Tryz.ntmps270
 go_wp2
 go_ret
 exact ⟨rfl, rfl⟩
section
variable {BB : Nat} {W0 W : World} {B1 B2 B3 : Nat} {S : Nat → Bool} {a : Act} {ops : Array Oper} {o : Oper} {Q : Exit → Act → World → Prop}
theorem st_load {j t s B : Nat} {k : Int} {x y : Value} (h : Inv BB W0 B1 B2 B3 S a W) (ho : ops[j]? = some o) (hop : o.op = .load 311 (.tmp s)) (hd : o.dst = some t) (hg : o.guard = none) (hs : a.eval (.tmp s) = .pointer (some ⟨B, 0, none⟩)) (hB : W0.heap[B]? = some (.cells #[x, y] 311 (0, 0))) (hv : vp BB j = some (t, fun W v => Good BB W k v)) (hS : S j = false) (hgd : Good BB W0 k (.agg #[x, y])) : wpOp Tryz.prog ops Q j (Inv BB W0 B1 B2 B3 (don S j)) a W := by
 have hBW := h.keep B _ _ _ hB
 have hx0 : W.cell? ⟨B, 0, none⟩ = some x := (blk_cell hBW 0).trans rfl
 have hx1 : W.cell? ⟨B, 1, none⟩ = some y := (blk_cell hBW 1).trans rfl
 have hu := Tryz.underlying311
 have hI := h.value hv hS (KeepC.refl W) h.below (fun _ _ _ hm => hm) (hgd.keep h.keep)
 refine wpOp_of ho hg ?_
 unfold Oper.wp
 simp only [execOp, hop, hs, hd]
 go_simp
 first | exact hI | trace_state
theorem st_call {j t : Nat} {s : ByteArray} (h : Inv BB W0 B1 B2 B3 S a W) (ho : ops[j]? = some o) (hop : o.op = .call { callee := .value (.func 270), args := #[.const (.string s)], argTypes := #[9] }) (hd : o.dst = some t) (hg : o.guard = none) (hv : vp BB j = some (t, fun W v => gfn BB W v (.al s))) (hS : S j = false) : wpOp Tryz.prog ops Q j (Inv BB W0 B1 B2 B3 (don S j)) a W := by
 refine wpOp_of ho hg ?_
 unfold Oper.wp
 have hrun : (execOp a.eval o).run Tryz.prog W = .ok (.enter 270 #[.string s]) W := by
  simp only [execOp, hop]
  go_simp
 rw [hrun]
 refine (always_calls s W).mono ?_
 rintro e w' ⟨rfl, rfl⟩
 rw [hd]
 exact h.value hv hS (KeepC.alloc W _) (h.below.alloc h.below.size _) (fun _ _ _ hm => hm.alloc _) ⟨W.heap.size, Nat.le_trans h.base h.below.size, rfl, Go.heap_alloc_new W _⟩
theorem st_build {j t : Nat} {k : Int} {F : Fn} {xs ys : Array Value} {x : Operand} {tk : ByteArray} (h : Inv BB W0 B1 B2 B3 S a W) (ho : ops[j]? = some o) (hop : o.op = .build 311 #[(0, .const (.string tk)), (1, x)]) (hd : o.dst = some t) (hg : o.guard = none) (hx : a.eval x = .func F xs ys) (hv : vp BB j = some (t, fun W v => Good BB W k v)) (hS : S j = false) (hgd : Good BB W k (.agg #[.string tk, .func F xs ys])) : wpOp Tryz.prog ops Q j (Inv BB W0 B1 B2 B3 (don S j)) a W := by
 have hu := Tryz.underlying311
 have hI := h.value hv hS (KeepC.refl W) h.below (fun _ _ _ hm => hm) hgd
 refine wpOp_of ho hg ?_
 unfold Oper.wp
 have hrun : (execOp a.eval o).run Tryz.prog W = .ok (.value (.agg #[.string tk, .func F xs ys])) W := by
  have hc : ∀ v, a.eval (.const v) = v := fun _ => rfl
  generalize a.eval = ρ at hx hc
  simp only [execOp, hop]
  go_simp
 rw [hrun]
 show Inv BB W0 B1 B2 B3 (don S j) (a.put o.dst _) W
 rw [hd]
 exact hI
theorem st_ins {j t jv : Nat} {k : Int} (h : Inv BB W0 B1 B2 B3 S a W) (ho : ops[j]? = some o) (hop : o.op = .insert 312 (.tmp 10) (.const (.int .i64 k)) (.tmp t)) (hd : o.dst = none) (hg : o.guard = none) (hi : ins j = some k) (hS : S j = false) (hS0 : S 0 = true) (hv : vp BB jv = some (t, fun W v => Good BB W k v)) (hSv : S jv = true) : wpOp Tryz.prog ops Q j (Inv BB W0 B1 B2 B3 (don S j)) a W := by
 obtain ⟨b, n, D, g1, g2, g3, g4, g5⟩ := h.map hS0
 have hgd := h.vals jv t _ hv hSv
 obtain ⟨t1, t2, t3, t4, t5⟩ := ins_idx (BB := BB) hi
 have hkey : keyOf Tryz.prog 3 (.int .i64 k) = some (.int .i64 k) := Maps.keyOf_int_mk Tryz.underlying3 t5
 obtain ⟨w', hrun, r1, r2⟩ := g3.update (Maps.int_keyed Tryz.underlying3) Tryz.underlying312 (by unfold maxLen; omega) hkey (val := a.eval (.tmp t)) (ps := []) rfl
 refine wpOp_of ho hg ?_
 unfold Oper.wp
 simp [execOp, hop, g1, hrun, Result.andThen, BigFrame.eval_const]
 show Inv BB W0 B1 B2 B3 (don S j) (a.put o.dst undef) w'
 rw [hd]
 exact h.insert hi hS hS0 g1 g2 g3 g4 g5 hgd r1 r2
end
theorem cnt_max (S : Nat → Bool) : ∀ n, gC S n ≤ n
 | 0 => Nat.le_refl _
 | n + 1 => by
  have := cnt_max S n
  simp only [gC]
  split <;> omega
theorem gk_ins {k : Int} (h : gk k ≠ none) : ∃ j, ins j = some k := by
 unfold gk at h
 repeat' split at h
 all_goals first
  | exact absurd rfl h
  | (rename_i hk; rcases hk with rfl | rfl | rfl | rfl | rfl <;> first | exact ⟨2, rfl⟩ | exact ⟨4, rfl⟩ | exact ⟨6, rfl⟩ | exact ⟨8, rfl⟩ | exact ⟨10, rfl⟩)
  | (rename_i hk; rcases hk with rfl | rfl | rfl | rfl <;> first | exact ⟨12, rfl⟩ | exact ⟨14, rfl⟩ | exact ⟨16, rfl⟩ | exact ⟨18, rfl⟩)
  | (rename_i hk; rcases hk with rfl | rfl <;> first | exact ⟨35, rfl⟩ | exact ⟨37, rfl⟩)
  | (rename_i hk; subst hk; first | exact ⟨21, rfl⟩ | exact ⟨23, rfl⟩ | exact ⟨25, rfl⟩ | exact ⟨27, rfl⟩ | exact ⟨30, rfl⟩ | exact ⟨33, rfl⟩ | exact ⟨40, rfl⟩ | exact ⟨43, rfl⟩)
section
variable {BB : Nat} {W0 W : World} {B1 B2 B3 : Nat} {S : Nat → Bool} {a : Act} {ops : Array Oper} {o : Oper} {Q : Exit → Act → World → Prop}
theorem st_make (h : Inv BB W0 B1 B2 B3 S a W) (ho : ops[0]? = some o) (hop : o.op = .makeMap 312 none) (hd : o.dst = some 10) (hg : o.guard = none) (hS : S 0 = false) : wpOp Tryz.prog ops Q 0 (Inv BB W0 B1 B2 B3 (don S 0)) a W := by
 have hmm := @run_makeMap Tryz.prog
 refine wpOp_of ho hg ?_
 have hrun : (execOp a.eval o).run Tryz.prog W = .ok (.value (.map (some W.heap.size))) (W.alloc (.map #[] 0)) := by
  simp only [execOp, hop]
  go_simp
 unfold Oper.wp
 rw [hrun]
 show Inv BB W0 B1 B2 B3 (don S 0) (a.put o.dst _) _
 rw [hd]
 have hno : ∀ j k, ins j = some k → S j = false := fun j k hi => by
  cases hj : S j with
  | false => rfl
  | true => have := h.made j k hi hj; rw [hS] at this; cases this
 have h44 : S 44 = false := by
  cases hj : S 44 with
  | false => rfl
  | true => have := (h.mv hj).1; rw [hS] at this; cases this
 have h45 : S 45 = false := by
  cases hj : S 45 with
  | false => rfl
  | true => have := (h.rs hj).1; rw [h44] at this; cases this
 have hne : ∀ x : Nat, x ≠ 10 → (a.put (some 10) (.map (some W.heap.size))).eval (.tmp x) = a.eval (.tmp x) := fun x hx => eval_put_ne a 10 x _ (by omega)
 refine ⟨h.base, by simpa [Act.put] using h.size, h.defs, h.keep.trans (KeepC.alloc W _), h.below.alloc h.below.size _, (hne 1 (by omega)).trans h.s1, (hne 2 (by omega)).trans h.s2, (hne 3 (by omega)).trans h.s3, ?_, ?_, ?_, ?_, ?_⟩
 ·intro j t p hv hSj
  obtain ⟨t1, t2, t3, t4, t5, t6⟩ := vp_tmp hv
  rw [don_ne (by omega)] at hSj
  rw [hne t (by omega)]
  exact vp_keep (KeepC.alloc W _) hv (h.vals j t p hv hSj)
 ·intro j k hi hSj
  exact don_eq
 ·intro _
  refine ⟨W.heap.size, 0, .map [], eval_put_eq a 10 _ (by have := h.size; omega), h.below.size, World.ownsMap_made _ _ _ _, by have := cnt_max (don S 0) 46; omega, fun k hw => .inr ⟨fun zd => rfl, fun j hi => ?_⟩⟩
  rw [don_ne (by have := ins_idx (BB := BB) hi; omega)]
  exact hno j k hi
 ·intro h0
  rw [don_ne (by omega), h44] at h0
  cases h0
 ·intro h0
  rw [don_ne (by omega), h45] at h0
  cases h0
theorem st_move (h : Inv BB W0 B1 B2 B3 S a W) (ho : ops[44]? = some o) (hop : o.op = .move (.tmp 10)) (hd : o.dst = some 35) (hg : o.guard = none) (hS : S 44 = false) (hS0 : S 0 = true) : wpOp Tryz.prog ops Q 44 (Inv BB W0 B1 B2 B3 (don S 44)) a W := by
 refine wpOp_of ho hg ?_
 have hrun : (execOp a.eval o).run Tryz.prog W = .ok (.value (a.eval (.tmp 10))) W := by
  simp only [execOp, hop]
  go_simp
 unfold Oper.wp
 rw [hrun]
 show Inv BB W0 B1 B2 B3 (don S 44) (a.put o.dst _) _
 rw [hd]
 have h45 : S 45 = false := by
  cases hj : S 45 with
  | false => rfl
  | true => have := (h.rs hj).1; rw [hS] at this; cases this
 have hne : ∀ x : Nat, x ≠ 35 → (a.put (some 35) (a.eval (.tmp 10))).eval (.tmp x) = a.eval (.tmp x) := fun x hx => eval_put_ne a 35 x _ (by omega)
 refine ⟨h.base, by simpa [Act.put] using h.size, h.defs, h.keep, h.below, (hne 1 (by omega)).trans h.s1, (hne 2 (by omega)).trans h.s2, (hne 3 (by omega)).trans h.s3, ?_, ?_, ?_, ?_, ?_⟩
 ·intro j t p hv hSj
  obtain ⟨t1, t2, t3, t4, t5, t6⟩ := vp_tmp hv
  rw [don_ne (by omega)] at hSj
  rw [hne t (by omega)]
  exact h.vals j t p hv hSj
 ·intro j k hi hSj
  rw [don_ne (by omega)]
  exact hS0
 ·intro h0
  obtain ⟨b, n, D, g1, g2, g3, g4, g5⟩ := h.map hS0
  refine ⟨b, n, D, (hne 10 (by omega)).trans g1, g2, g3, by have := cnt_don S 44 hS 46 (by omega); omega, fun k hw => ?_⟩
  rcases g5 k hw with ⟨x, x1, x2, j', x3, x4⟩ | ⟨x1, x2⟩
  ·exact .inl ⟨x, x1, x2, j', x3, by rw [don_ne (by have := ins_idx (BB := BB) x3; omega)]; exact x4⟩
  ·exact .inr ⟨x1, fun j' x3 => by rw [don_ne (by have := ins_idx (BB := BB) x3; omega)]; exact x2 j' x3⟩
 ·intro _
  rw [don_ne (by omega)]
  exact ⟨hS0, by rw [eval_put_eq a 35 _ (by have := h.size; omega), hne 10 (by omega)]⟩
 ·intro h0
  rw [don_ne (by omega), h45] at h0
  cases h0
theorem st_res (h : Inv BB W0 B1 B2 B3 S a W) (ho : ops[45]? = some o) (hop : o.op = .assign (.tmp 35)) (hd : o.dst = some 0) (hg : o.guard = none) (hS : S 45 = false) (hS44 : S 44 = true) : wpOp Tryz.prog ops Q 45 (Inv BB W0 B1 B2 B3 (don S 45)) a W := by
 refine wpOp_of ho hg ?_
 have hrun : (execOp a.eval o).run Tryz.prog W = .ok (.value (a.eval (.tmp 35))) W := by
  simp only [execOp, hop]
  go_simp
 unfold Oper.wp
 rw [hrun]
 show Inv BB W0 B1 B2 B3 (don S 45) (a.put o.dst _) _
 rw [hd]
 have hS0 := (h.mv hS44).1
 have hne : ∀ x : Nat, x ≠ 0 → (a.put (some 0) (a.eval (.tmp 35))).eval (.tmp x) = a.eval (.tmp x) := fun x hx => eval_put_ne a 0 x _ (by omega)
 refine ⟨h.base, by simpa [Act.put] using h.size, h.defs, h.keep, h.below, (hne 1 (by omega)).trans h.s1, (hne 2 (by omega)).trans h.s2, (hne 3 (by omega)).trans h.s3, ?_, ?_, ?_, ?_, ?_⟩
 ·intro j t p hv hSj
  obtain ⟨t1, t2, t3, t4, t5, t6⟩ := vp_tmp hv
  rw [don_ne (by omega)] at hSj
  rw [hne t (by omega)]
  exact h.vals j t p hv hSj
 ·intro j k hi hSj
  rw [don_ne (by omega)]
  exact hS0
 ·intro h0
  obtain ⟨b, n, D, g1, g2, g3, g4, g5⟩ := h.map hS0
  refine ⟨b, n, D, (hne 10 (by omega)).trans g1, g2, g3, by have := cnt_don S 45 hS 46 (by omega); omega, fun k hw => ?_⟩
  rcases g5 k hw with ⟨x, x1, x2, j', x3, x4⟩ | ⟨x1, x2⟩
  ·exact .inl ⟨x, x1, x2, j', x3, by rw [don_ne (by have := ins_idx (BB := BB) x3; omega)]; exact x4⟩
  ·exact .inr ⟨x1, fun j' x3 => by rw [don_ne (by have := ins_idx (BB := BB) x3; omega)]; exact x2 j' x3⟩
 ·intro _
  rw [don_ne (by omega), hne 35 (by omega), hne 10 (by omega)]
  exact h.mv hS44
 ·intro _
  rw [don_ne (by omega)]
  exact ⟨hS44, by rw [eval_put_eq a 0 _ (by have := h.size; omega), hne 35 (by omega)]⟩
end
end Go.Proofs.YtofeifhecboinaaGreat.E
namespace Go.Proofs.YtofeifhecboinaaGreat.E
open Go.RowKit Go.Proofs.YtofeifhecboinaaGreatH
attribute [local go_sem] run_store_func
theorem below_alloc {w W : World} (h : Below w.heap.size w W) (o : Obj) : Below w.heap.size w (W.alloc o) := h.alloc h.size o
theorem below_drew {B : Nat} {w W : World} (h : Below B w W) : Below B w W.drew := h.drew
theorem alloc_at {w W : World} {o : Obj} {n : Nat} (hn : W.heap.size = n) : (W.alloc o).heap[n]? = some o := by
 subst hn
 exact Go.heap_alloc_new W o
theorem alloc_sz {W : World} {o : Obj} {n : Nat} (hn : W.heap.size = n) : (W.alloc o).heap.size = n + 1 := by rw [World.size_alloc, hn]
theorem alloc_old {W : World} {o o2 : Obj} {n m : Nat} (hn : W.heap.size = n) (hm : m < n) (h : W.heap[m]? = some o2) : (W.alloc o).heap[m]? = some o2 := by
 rw [Below.heap_alloc _ _ _ (by omega)]
 exact h
theorem alloc6 (w : World) (o0 o1 o2 o3 o4 o5 : Obj) (W0 : World) (e : W0 = (((((w.alloc o0).alloc o1).alloc o2).alloc o3).alloc o4).alloc o5) : W0.heap[w.heap.size]? = some o0 ∧ W0.heap[w.heap.size + 1]? = some o1 ∧ W0.heap[w.heap.size + 1 + 1]? = some o2 ∧ W0.heap[w.heap.size + 1 + 1 + 1]? = some o3 ∧ W0.heap[w.heap.size + 1 + 1 + 1 + 1]? = some o4 ∧ W0.heap[w.heap.size + 1 + 1 + 1 + 1 + 1]? = some o5 := by
 subst e
 have e0 : w.heap.size = w.heap.size := rfl
 have e1 := alloc_sz (o := o0) e0
 have e2 := alloc_sz (o := o1) e1
 have e3 := alloc_sz (o := o2) e2
 have e4 := alloc_sz (o := o3) e3
 have e5 := alloc_sz (o := o4) e4
 refine ⟨?_, ?_, ?_, ?_, ?_, Go.Proofs.YtofeifhecboinaaGreat.E.alloc_at (w := w) e5⟩
 ·exact alloc_old e5 (by omega) (alloc_old e4 (by omega) (alloc_old e3 (by omega) (alloc_old e2 (by omega) (alloc_old e1 (by omega) (alloc_at (w := w) e0)))))
 ·exact alloc_old e5 (by omega) (alloc_old e4 (by omega) (alloc_old e3 (by omega) (alloc_old e2 (by omega) (alloc_at (w := w) e1))))
 ·exact alloc_old e5 (by omega) (alloc_old e4 (by omega) (alloc_old e3 (by omega) (alloc_at (w := w) e2)))
 ·exact alloc_old e5 (by omega) (alloc_old e4 (by omega) (alloc_at (w := w) e3))
 ·exact alloc_old e5 (by omega) (alloc_at (w := w) e4)
set_option maxHeartbeats 8000000 in
set_option maxRecDepth 100000 in
theorem effects_calls (w : World) : Calls Tryz.prog 237 #[] w fun e w' => ∃ (b n : Nat) (D : DataW Value), e = .returned (.map (some b)) ∧ w.heap.size ≤ b ∧ Below w.heap.size w w' ∧ w'.ownsMap Tryz.prog 3 RV b n D ∧ ∀ k : Int, (Lit.int .i64 k).wf = true → ((∃ v, (∀ zd, D.atKey (.int .i64 k) zd = .held v) ∧ Good w.heap.size w' k v) ∨ (gk k = none ∧ ∀ zd, D.atKey (.int .i64 k) zd = zd)) := by
 have hu311 := Tryz.underlying311
 go_enter Tryz.func237, Tryz.ntmps237
 go_wp2
 have HW : ∀ W0 : World, W0 = ((((((w.alloc (.cells #[.string ⟨#[105]⟩] 9)).alloc (.cells #[.string ⟨#[]⟩] 9)).alloc (.cells #[.string ⟨#[]⟩, .func (.func 281) #[] #[.pointer (some ⟨w.heap.size, 0, none⟩)]] 311)).alloc (.cells #[.string ⟨#[105]⟩, .func (.func 281) #[] #[.pointer (some ⟨w.heap.size + 1, 0, none⟩)]] 311)).alloc (.cells #[.string ⟨#[98]⟩] 9)).alloc (.cells #[.string ⟨#[98, 98]⟩, .func (.func 281) #[] #[.pointer (some ⟨w.heap.size + 1 + 1 + 1 + 1, 0, none⟩)]] 311)) → Below w.heap.size w W0 ∧ W0.heap[w.heap.size]? = some (.cells #[.string ⟨#[105]⟩] 9 (0, 0)) ∧ W0.heap[w.heap.size + 1]? = some (.cells #[.string ⟨#[]⟩] 9 (0, 0)) ∧ W0.heap[w.heap.size + 1 + 1]? = some (.cells #[.string ⟨#[]⟩, .func (.func 281) #[] #[.pointer (some ⟨w.heap.size, 0, none⟩)]] 311 (0, 0)) ∧ W0.heap[w.heap.size + 1 + 1 + 1]? = some (.cells #[.string ⟨#[105]⟩, .func (.func 281) #[] #[.pointer (some ⟨w.heap.size + 1, 0, none⟩)]] 311 (0, 0)) ∧ W0.heap[w.heap.size + 1 + 1 + 1 + 1]? = some (.cells #[.string ⟨#[98]⟩] 9 (0, 0)) ∧ W0.heap[w.heap.size + 1 + 1 + 1 + 1 + 1]? = some (.cells #[.string ⟨#[98, 98]⟩, .func (.func 281) #[] #[.pointer (some ⟨w.heap.size + 1 + 1 + 1 + 1, 0, none⟩)]] 311 (0, 0)) := by
  rintro W0 e
  refine ⟨?_, alloc6 w _ _ _ _ _ _ W0 e⟩
  subst e
  repeat (first | exact Below.refl _ _ | refine below_alloc ?_ _)
 obtain ⟨qb, q0, q1, q2, q3, q4, q5⟩ := HW _ rfl
 clear HW
 generalize ((((((w.alloc (.cells #[.string ⟨#[105]⟩] 9)).alloc (.cells #[.string ⟨#[]⟩] 9)).alloc (.cells #[.string ⟨#[]⟩, .func (.func 281) #[] #[.pointer (some ⟨w.heap.size, 0, none⟩)]] 311)).alloc (.cells #[.string ⟨#[105]⟩, .func (.func 281) #[] #[.pointer (some ⟨w.heap.size + 1, 0, none⟩)]] 311)).alloc (.cells #[.string ⟨#[98]⟩] 9)).alloc (.cells #[.string ⟨#[98, 98]⟩, .func (.func 281) #[] #[.pointer (some ⟨w.heap.size + 1 + 1 + 1 + 1, 0, none⟩)]] 311)) = W0 at *
 refine wp_region_inv (by kernel_rfl) (Inv w.heap.size W0 (w.heap.size + 1 + 1) (w.heap.size + 1 + 1 + 1) (w.heap.size + 1 + 1 + 1 + 1 + 1)) ?_ ?_ ?_ ?_
 ·exact back_of (by kernel_rfl)
 ·intro S i o a W ho hS ha hI
  have hlt : i < 46 := (Array.getElem?_eq_some_iff.1 ho).1
  have hcs : i = 0 ∨ i = 1 ∨ i = 2 ∨ i = 3 ∨ i = 4 ∨ i = 5 ∨ i = 6 ∨ i = 7 ∨ i = 8 ∨ i = 9 ∨ i = 10 ∨ i = 11 ∨ i = 12 ∨ i = 13 ∨ i = 14 ∨ i = 15 ∨ i = 16 ∨ i = 17 ∨ i = 18 ∨ i = 19 ∨ i = 20 ∨ i = 21 ∨ i = 22 ∨ i = 23 ∨ i = 24 ∨ i = 25 ∨ i = 26 ∨ i = 27 ∨ i = 28 ∨ i = 29 ∨ i = 30 ∨ i = 31 ∨ i = 32 ∨ i = 33 ∨ i = 34 ∨ i = 35 ∨ i = 36 ∨ i = 37 ∨ i = 38 ∨ i = 39 ∨ i = 40 ∨ i = 41 ∨ i = 42 ∨ i = 43 ∨ i = 44 ∨ i = 45 := by omega
  rcases hcs with rfl | rfl | rfl | rfl | rfl | rfl | rfl | rfl | rfl | rfl | rfl | rfl | rfl | rfl | rfl | rfl | rfl | rfl | rfl | rfl | rfl | rfl | rfl | rfl | rfl | rfl | rfl | rfl | rfl | rfl | rfl | rfl | rfl | rfl | rfl | rfl | rfl | rfl | rfl | rfl | rfl | rfl | rfl | rfl | rfl | rfl
  ·obtain rfl := Option.some.inj ho
   exact st_make hI ho rfl rfl rfl hS
  ·obtain rfl := Option.some.inj ho
   exact st_load hI ho rfl rfl rfl hI.s1 q2 rfl hS ⟨_, _, _, rfl, rfl, ⟨_, Nat.le_refl _, rfl, q0⟩⟩
  ·obtain rfl := Option.some.inj ho
   exact st_ins hI ho rfl rfl rfl rfl hS (ha ⟨0, .data⟩ (by simp) rfl) (jv := 1) rfl (ha ⟨1, .data⟩ (by simp) rfl)
  ·obtain rfl := Option.some.inj ho
   exact st_load hI ho rfl rfl rfl hI.s1 q2 rfl hS ⟨_, _, _, rfl, rfl, ⟨_, Nat.le_refl _, rfl, q0⟩⟩
  ·obtain rfl := Option.some.inj ho
   exact st_ins hI ho rfl rfl rfl rfl hS (ha ⟨0, .data⟩ (by simp) rfl) (jv := 3) rfl (ha ⟨3, .data⟩ (by simp) rfl)
  ·obtain rfl := Option.some.inj ho
   exact st_load hI ho rfl rfl rfl hI.s1 q2 rfl hS ⟨_, _, _, rfl, rfl, ⟨_, Nat.le_refl _, rfl, q0⟩⟩
  ·obtain rfl := Option.some.inj ho
   exact st_ins hI ho rfl rfl rfl rfl hS (ha ⟨0, .data⟩ (by simp) rfl) (jv := 5) rfl (ha ⟨5, .data⟩ (by simp) rfl)
  ·obtain rfl := Option.some.inj ho
   exact st_load hI ho rfl rfl rfl hI.s1 q2 rfl hS ⟨_, _, _, rfl, rfl, ⟨_, Nat.le_refl _, rfl, q0⟩⟩
  ·obtain rfl := Option.some.inj ho
   exact st_ins hI ho rfl rfl rfl rfl hS (ha ⟨0, .data⟩ (by simp) rfl) (jv := 7) rfl (ha ⟨7, .data⟩ (by simp) rfl)
  ·obtain rfl := Option.some.inj ho
   exact st_load hI ho rfl rfl rfl hI.s1 q2 rfl hS ⟨_, _, _, rfl, rfl, ⟨_, Nat.le_refl _, rfl, q0⟩⟩
  ·obtain rfl := Option.some.inj ho
   exact st_ins hI ho rfl rfl rfl rfl hS (ha ⟨0, .data⟩ (by simp) rfl) (jv := 9) rfl (ha ⟨9, .data⟩ (by simp) rfl)
  ·obtain rfl := Option.some.inj ho
   exact st_load hI ho rfl rfl rfl hI.s2 q3 rfl hS ⟨_, _, _, rfl, rfl, ⟨_, by omega, rfl, q1⟩⟩
  ·obtain rfl := Option.some.inj ho
   exact st_ins hI ho rfl rfl rfl rfl hS (ha ⟨0, .data⟩ (by simp) rfl) (jv := 11) rfl (ha ⟨11, .data⟩ (by simp) rfl)
  ·obtain rfl := Option.some.inj ho
   exact st_load hI ho rfl rfl rfl hI.s2 q3 rfl hS ⟨_, _, _, rfl, rfl, ⟨_, by omega, rfl, q1⟩⟩
  ·obtain rfl := Option.some.inj ho
   exact st_ins hI ho rfl rfl rfl rfl hS (ha ⟨0, .data⟩ (by simp) rfl) (jv := 13) rfl (ha ⟨13, .data⟩ (by simp) rfl)
  ·obtain rfl := Option.some.inj ho
   exact st_load hI ho rfl rfl rfl hI.s2 q3 rfl hS ⟨_, _, _, rfl, rfl, ⟨_, by omega, rfl, q1⟩⟩
  ·obtain rfl := Option.some.inj ho
   exact st_ins hI ho rfl rfl rfl rfl hS (ha ⟨0, .data⟩ (by simp) rfl) (jv := 15) rfl (ha ⟨15, .data⟩ (by simp) rfl)
  ·obtain rfl := Option.some.inj ho
   exact st_load hI ho rfl rfl rfl hI.s2 q3 rfl hS ⟨_, _, _, rfl, rfl, ⟨_, by omega, rfl, q1⟩⟩
  ·obtain rfl := Option.some.inj ho
   exact st_ins hI ho rfl rfl rfl rfl hS (ha ⟨0, .data⟩ (by simp) rfl) (jv := 17) rfl (ha ⟨17, .data⟩ (by simp) rfl)
  ·obtain rfl := Option.some.inj ho
   exact st_call hI ho rfl rfl rfl rfl hS
  ·obtain rfl := Option.some.inj ho
   obtain ⟨p, hpB, hp, hc⟩ := hI.vals 19 20 _ rfl (ha ⟨19, .data⟩ (by simp) rfl); exact st_build hI ho rfl rfl rfl hp rfl hS ⟨_, _, _, rfl, rfl, ⟨p, hpB, rfl, hc⟩⟩
  ·obtain rfl := Option.some.inj ho
   exact st_ins hI ho rfl rfl rfl rfl hS (ha ⟨0, .data⟩ (by simp) rfl) (jv := 20) rfl (ha ⟨20, .data⟩ (by simp) rfl)
  ·obtain rfl := Option.some.inj ho
   exact st_build hI ho rfl rfl rfl rfl rfl hS ⟨_, _, _, rfl, rfl, rfl⟩
  ·obtain rfl := Option.some.inj ho
   exact st_ins hI ho rfl rfl rfl rfl hS (ha ⟨0, .data⟩ (by simp) rfl) (jv := 22) rfl (ha ⟨22, .data⟩ (by simp) rfl)
  ·obtain rfl := Option.some.inj ho
   exact st_build hI ho rfl rfl rfl rfl rfl hS ⟨_, _, _, rfl, rfl, rfl⟩
  ·obtain rfl := Option.some.inj ho
   exact st_ins hI ho rfl rfl rfl rfl hS (ha ⟨0, .data⟩ (by simp) rfl) (jv := 24) rfl (ha ⟨24, .data⟩ (by simp) rfl)
  ·obtain rfl := Option.some.inj ho
   exact st_build hI ho rfl rfl rfl rfl rfl hS ⟨_, _, _, rfl, rfl, rfl⟩
  ·obtain rfl := Option.some.inj ho
   exact st_ins hI ho rfl rfl rfl rfl hS (ha ⟨0, .data⟩ (by simp) rfl) (jv := 26) rfl (ha ⟨26, .data⟩ (by simp) rfl)
  ·obtain rfl := Option.some.inj ho
   exact st_call hI ho rfl rfl rfl rfl hS
  ·obtain rfl := Option.some.inj ho
   obtain ⟨p, hpB, hp, hc⟩ := hI.vals 28 25 _ rfl (ha ⟨28, .data⟩ (by simp) rfl); exact st_build hI ho rfl rfl rfl hp rfl hS ⟨_, _, _, rfl, rfl, ⟨p, hpB, rfl, hc⟩⟩
  ·obtain rfl := Option.some.inj ho
   exact st_ins hI ho rfl rfl rfl rfl hS (ha ⟨0, .data⟩ (by simp) rfl) (jv := 29) rfl (ha ⟨29, .data⟩ (by simp) rfl)
  ·obtain rfl := Option.some.inj ho
   exact st_call hI ho rfl rfl rfl rfl hS
  ·obtain rfl := Option.some.inj ho
   obtain ⟨p, hpB, hp, hc⟩ := hI.vals 31 27 _ rfl (ha ⟨31, .data⟩ (by simp) rfl); exact st_build hI ho rfl rfl rfl hp rfl hS ⟨_, _, _, rfl, rfl, ⟨p, hpB, rfl, hc⟩⟩
  ·obtain rfl := Option.some.inj ho
   exact st_ins hI ho rfl rfl rfl rfl hS (ha ⟨0, .data⟩ (by simp) rfl) (jv := 32) rfl (ha ⟨32, .data⟩ (by simp) rfl)
  ·obtain rfl := Option.some.inj ho
   exact st_load hI ho rfl rfl rfl hI.s3 q5 rfl hS ⟨_, _, _, rfl, rfl, ⟨_, by omega, rfl, q4⟩⟩
  ·obtain rfl := Option.some.inj ho
   exact st_ins hI ho rfl rfl rfl rfl hS (ha ⟨0, .data⟩ (by simp) rfl) (jv := 34) rfl (ha ⟨34, .data⟩ (by simp) rfl)
  ·obtain rfl := Option.some.inj ho
   exact st_load hI ho rfl rfl rfl hI.s3 q5 rfl hS ⟨_, _, _, rfl, rfl, ⟨_, by omega, rfl, q4⟩⟩
  ·obtain rfl := Option.some.inj ho
   exact st_ins hI ho rfl rfl rfl rfl hS (ha ⟨0, .data⟩ (by simp) rfl) (jv := 36) rfl (ha ⟨36, .data⟩ (by simp) rfl)
  ·obtain rfl := Option.some.inj ho
   exact st_call hI ho rfl rfl rfl rfl hS
  ·obtain rfl := Option.some.inj ho
   obtain ⟨p, hpB, hp, hc⟩ := hI.vals 38 31 _ rfl (ha ⟨38, .data⟩ (by simp) rfl); exact st_build hI ho rfl rfl rfl hp rfl hS ⟨_, _, _, rfl, rfl, ⟨p, hpB, rfl, hc⟩⟩
  ·obtain rfl := Option.some.inj ho
   exact st_ins hI ho rfl rfl rfl rfl hS (ha ⟨0, .data⟩ (by simp) rfl) (jv := 39) rfl (ha ⟨39, .data⟩ (by simp) rfl)
  ·obtain rfl := Option.some.inj ho
   exact st_call hI ho rfl rfl rfl rfl hS
  ·obtain rfl := Option.some.inj ho
   obtain ⟨p, hpB, hp, hc⟩ := hI.vals 41 33 _ rfl (ha ⟨41, .data⟩ (by simp) rfl); exact st_build hI ho rfl rfl rfl hp rfl hS ⟨_, _, _, rfl, rfl, ⟨p, hpB, rfl, hc⟩⟩
  ·obtain rfl := Option.some.inj ho
   exact st_ins hI ho rfl rfl rfl rfl hS (ha ⟨0, .data⟩ (by simp) rfl) (jv := 42) rfl (ha ⟨42, .data⟩ (by simp) rfl)
  ·obtain rfl := Option.some.inj ho
   exact st_move hI ho rfl rfl rfl hS (ha ⟨0, .data⟩ (by simp) rfl)
  ·obtain rfl := Option.some.inj ho
   exact st_res hI ho rfl rfl rfl hS (ha ⟨44, .data⟩ (by simp) rfl)
 ·intro S a W hall hI
  have hi : ∀ i, i < 46 → S i = true := hall
  obtain ⟨b, n, D, g1, g2, g3, g4, g5⟩ := hI.map (hi 0 (by omega))
  have hr : a.eval (.tmp 0) = .map (some b) := by rw [(hI.rs (hi 45 (by omega))).2, (hI.mv (hi 44 (by omega))).2, g1]
  have hdf := hI.defs
  have hB : Below w.heap.size w W := qb.trans (Below.mono hI.below qb.size)
  have hfin : ∀ k : Int, (Lit.int .i64 k).wf = true → ((∃ v, (∀ zd, D.atKey (.int .i64 k) zd = .held v) ∧ Good w.heap.size W k v) ∨ (gk k = none ∧ ∀ zd, D.atKey (.int .i64 k) zd = zd)) := fun k hw => by
   rcases g5 k hw with ⟨v, x1, x2, _⟩ | ⟨x1, x2⟩
   ·exact .inl ⟨v, x1, x2⟩
   ·refine .inr ⟨Classical.byContradiction fun hne => ?_, x1⟩
    obtain ⟨j, hj⟩ := gk_ins hne
    have h1 := x2 j hj
    rw [hi j (by have := ins_idx (BB := 0) hj; omega)] at h1
    cases h1
  rename_i hK
  refine hK a W ?_
  refine wp_ret ?_
  show bodyPost Tryz.prog Tryz.f237 _ .ret a W
  refine bodyPost_ret (results_tmp (show Tryz.f237.results = #[.tmp 0] from rfl) _ _ _) hdf ?_
  exact ⟨b, n, D, congrArg Ending.returned hr, Nat.le_trans qb.size g2, hB, g3, hfin⟩
 ·refine ⟨qb.size, rfl, rfl, KeepC.below (below_drew (Below.refl _ _)), below_drew (Below.refl _ _), rfl, rfl, rfl, fun _ _ _ _ h => (Bool.noConfusion h), fun _ _ _ h => (Bool.noConfusion h), fun h => (Bool.noConfusion h), fun h => (Bool.noConfusion h), fun h => (Bool.noConfusion h)⟩
end Go.Proofs.YtofeifhecboinaaGreat.E
