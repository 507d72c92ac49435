/- A part of the proofs: Templates: frames, objects. -/
import Derived.Test.YtofeifhecboinaaGreatMB1
import Derived.OpenShut
import Derived.ProofKit
import Derived.Deep.Slices
import Derived.Below
import Derived.SizedLaws
import Derived.ScopeJumps
import Derived.Orders
import Derived.Deep.Draws
import Derived.Test.YtofeifhecboinaaGreatProg
import Derived.Tactics2
import Derived.RowKit
import Derived.KernelRfl
import Derived.Maps.OwnSet
import Derived.BigFrame
import Derived.WideLaws
import Derived.WalkKit
import Derived.RowKit3
import Derived.OwnWalk
import Derived.OrdersHeld
import Derived.Maps.AppendAt
import Derived.Lib.ConvBytes
import Derived.Lib.AppendStr
import Derived.Laws.Slices
import Derived.Laws.Rows
import Derived.Laws.OwnMore
import Derived.Laws.MakeOwn
import Derived.Laws.IdiomCopy
import Derived.Laws.BytesArg
import Derived.Laws.BitsLemmas
import Derived.Deep.RegionHeld3
import Derived.Deep.QuietTactic
import Derived.Deep.OwnRows
import Derived.Deep.LoopGhost
import Derived.Deep.DeepCutAuto
import Derived.Deep.CutBlock
import Derived.Deep.AppendLies
import Derived.BigQuiet
import Derived.ArgAppend
import Derived.Scope
set_option linter.unusedVariables false
set_option linter.unusedSimpArgs false
noncomputable section
namespace Go.Proofs.Dk
open Go Go.RowKit
section
variable {I : In} {w : World} {H : Heap} {ρ : Nam}
theorem KD {I2 : In} {E : TypeId} {s : Sh} {d : DV} {v : Value} {xs : List s.T} {u : List Nat} {m : Met} (hH : HR I w H) (hv : VR I w d v) (h : jT H E s d = some (xs, u)) (c : Nat) : ∃ q : RE, q.1 = c ∧ Grow m ⟨m.σ, u ++ m.u⟩ [q] ∧ uV I q ∧ ∀ I2, I2.R = I.R → I2.ι (ρ.r c) = some q.2.1 → VR I2 w (.rw (ρ.r c)) v ∧ BR I2 w (ρ.r c) (.row E s xs) ∧ v.oneCell' = true := by
 obtain ⟨cs, h1, h2, ⟨A, l, cp, rfl⟩, h4⟩ := Sv hH hv h
 have fin : ∀ I2 : In, I2.R = I.R → I2.ι (ρ.r c) = some (.row s.sz (.slice A l cp)) → VR I2 w (.rw (ρ.r c)) (.slice A l cp) ∧ BR I2 w (ρ.r c) (.row E s xs) ∧ (Value.slice A l cp).oneCell' = true := by
  intro I2 hR hr
  exact ⟨.rw _ _ _ hr ⟨_, _, _, rfl⟩, ⟨_, cs, hr, h1, by rw [hR]; exact h2⟩, rfl⟩
 rcases h4 with ⟨rfl, h5⟩ | ⟨n, sz, v0, rfl, h5, h6⟩
 ·exact ⟨(c, .row s.sz (.slice A l cp), none), rfl, ⟨fun _ h => h, rfl⟩, ⟨⟨_, _, rfl⟩, h5⟩, fin⟩
 ·exact ⟨(c, .row s.sz (.slice A l cp), some n), rfl, ⟨fun _ h => h, rfl⟩, ⟨⟨_, _, rfl⟩, _, h5, ⟨_, _, rfl⟩, h6⟩, fin⟩
theorem BQ {es es' : List RE} (h : ∀ q ∈ es, uV I q) (h' : ∀ q ∈ es', uV I q) : ∀ q ∈ es ++ es', uV I q := fun q hq => (az.1 hq).elim (h q) (h' q)
theorem ma (hH : HR I w H) : ∀ {ks : List IK} {c : Nat} {T : List DV} {vals : Nat → Value} {m : Met} {x : jp ks} {m' : Met}, eC H ks T m = some (x, m') → (∀ i, VR I w (T.getD i .undef) (vals i)) →
  ∃ es, Grow m m' es ∧ (∀ q ∈ es, uV I q) ∧ es.map (fun q => ρ.r q.1) = d6 ρ c ks ∧ ks.length ≤ T.length ∧ ∀ I2, Cov I I2 ρ m' es → (∀ i, VR I2 w ((mW ρ c ks x).getD i .undef) (vals i)) ∧ LaidR I2 w (fj ρ c ks x) (d6 ρ c ks)
 | [], c, T, vals, m, x, m', h, hV => by
  cases T with
  | cons d r => simp only [eC] at h; cases h
  | nil =>
  simp only [eC, ab, ah] at h
  obtain ⟨_, rfl⟩ := h
  exact ⟨[], Grow.refl m, fun q h => by simp at h, rfl, am _, fun I2 hc => ⟨fun i => by simp only [mW]; exact .undef _, fun H0 n => by simp only [fj]; exact LaidR.id H0 n⟩⟩
 | .any :: r, c, T, vals, m, x, m', h, hV => by
  simp only [eC] at h
  split at h
  ·rename_i d T
   obtain ⟨es, h1, h2, h3, h4, h5⟩ := ma (c := c + 1) (vals := fun i => vals (i + 1)) hH h (fun i => hV (i + 1))
   refine ⟨es, h1, h2, h3, bX h4, fun I2 hc => ?_⟩
   obtain ⟨g1, g2⟩ := h5 I2 hc
   exact ⟨fun i => by cases i with
    | zero => exact .undef _
    | succ i => exact g1 i, fun H0 n => by simp only [fj, d6]; exact g2 H0 n⟩
  ·cases h
 | .val s :: r, c, T, vals, m, x, m', h, hV => by
  simp only [eC] at h
  split at h
  ·rename_i d T
   split at h
   ·rename_i y hy
    split at h
    ·rename_i z m1 hz
     simp only [ab, ah] at h
     obtain ⟨rfl, rfl⟩ := h
     obtain ⟨es, h1, h2, h3, h4, h5⟩ := ma (c := c + 1) (vals := fun i => vals (i + 1)) hH hz (fun i => hV (i + 1))
     refine ⟨es, h1, h2, h3, bX h4, fun I2 hc => ?_⟩
     obtain ⟨g1, g2⟩ := h5 I2 hc
     exact ⟨fun i => by cases i with
      | zero => exact Su (hV 0) hy hc.R
      | succ i => exact g1 i, fun H0 n => by simp only [fj, d6]; exact g2 H0 n⟩
    ·cases h
   ·cases h
  ·cases h
 | .agf s F :: r, c, T, vals, m, x, m', h, hV => by
  simp only [eC] at h
  split at h
  ·rename_i ds T
   split at h
   ·rename_i y F' hy
    split at h
    ·rename_i hF
     subst hF
     split at h
     ·rename_i z m1 hz
      simp only [ab, ah] at h
      obtain ⟨rfl, rfl⟩ := h
      obtain ⟨es, h1, h2, h3, h4, h5⟩ := ma (c := c + 1) (vals := fun i => vals (i + 1)) hH hz (fun i => hV (i + 1))
      refine ⟨es, h1, h2, h3, bX h4, fun I2 hc => ?_⟩
      obtain ⟨g1, g2⟩ := h5 I2 hc
      refine ⟨fun i => ?_, fun H0 n => by simp only [fj, d6]; exact g2 H0 n⟩
      cases i with
      | zero =>
       have h0 := hV 0
       simp only [List.getD_cons_zero] at h0
       generalize vals 0 = v0 at h0
       cases h0 with | agg _ cs hcs =>
       obtain ⟨c1, c2, e, k1, k2⟩ := Sh.dec_ok hy hcs
       show VR I2 w (.agg (s.enc y ++ [.fn (.func F') [] []])) _
       refine .agg _ _ ?_
       rw [e]
       refine CR.append (Sh.enc_ok (by rw [hc.R]; exact k1)) ?_
       cases k2 with | one _ _ u us hd hu hr =>
       cases hr
       obtain ⟨x', y', rfl, e1, e2⟩ := hd.fn_case
       refine .one _ _ _ _ (.fn _ _ _ x' y' ?_ ?_) hu .nil
       ·generalize x'.toList = l at e1 ⊢; cases e1; exact .nil
       ·generalize y'.toList = l at e2 ⊢; cases e2; exact .nil
      | succ i => exact g1 i
     ·cases h
    ·cases h
   ·cases h
  ·cases h
 | .row E s :: r, c, T, vals, m, x, m', h, hV => by
  simp only [eC] at h
  split at h
  ·rename_i d T
   split at h
   ·rename_i xs u hy
    split at h
    ·rename_i z m1 hz
     simp only [ab, ah] at h
     obtain ⟨rfl, rfl⟩ := h
     obtain ⟨q, k1, k2, k3, k4⟩ := KD (ρ := ρ) (I2 := I) (m := m) hH (hV 0) hy c
     obtain ⟨es, h1, h2, h3, h4, h5⟩ := ma (c := c + 1) (vals := fun i => vals (i + 1)) hH hz (fun i => hV (i + 1))
     refine ⟨[q] ++ es, k2.trans h1, BQ (fun p hp => by simp at hp; subst hp; exact k3) h2, by simp [d6, k1, h3], bX h4, fun I2 hc => ?_⟩
     obtain ⟨g1, g2⟩ := h5 I2 hc.right
     obtain ⟨f1, f2, f3⟩ := k4 I2 hc.R (by rw [← k1]; exact hc.r q (by simp))
     exact ⟨fun i => by cases i with
      | zero => exact f1
      | succ i => exact g1 i, fun H0 n => by simp only [fj, d6]; exact LaidR.set f2 g2 H0 n⟩
    ·cases h
   ·cases h
  ·cases h
 | .obj i :: r, c, T, vals, m, x, m', h, hV => by
  simp only [eC] at h
  split at h
  ·rename_i n T
   split at h
   ·rename_i n' hn
    split at h
    ·rename_i e
     subst e
     obtain ⟨es, h1, h2, h3, h4, h5⟩ := ma (c := c + 1) (vals := fun i => vals (i + 1)) hH h (fun i => hV (i + 1))
     refine ⟨es, h1, h2, h3, bX h4, fun I2 hc => ?_⟩
     obtain ⟨g1, g2⟩ := h5 I2 hc
     exact ⟨fun j => by cases j with
      | zero => exact rG (hV 0) (hc.o i n (h1.σ _ (Met.get_mem hn)))
      | succ j => exact g1 j, fun H0 n => by simp only [fj, d6]; exact g2 H0 n⟩
    ·cases h
   ·obtain ⟨es, h1, h2, h3, h4, h5⟩ := ma (c := c + 1) (vals := fun i => vals (i + 1)) hH h (fun i => hV (i + 1))
    refine ⟨es, ⟨fun e he => h1.σ e (ay _ he), h1.u⟩, h2, h3, bX h4, fun I2 hc => ?_⟩
    obtain ⟨g1, g2⟩ := h5 I2 hc
    exact ⟨fun j => by cases j with
     | zero => exact rG (hV 0) (hc.o i n (h1.σ _ (aB ..)))
     | succ j => exact g1 j, fun H0 n => by simp only [fj, d6]; exact g2 H0 n⟩
  ·cases h
 | .clo F is :: r, c, T, vals, m, x, m', h, hV => by
  simp only [eC] at h
  split at h
  ·rename_i F' caps T
   split at h
   ·rename_i hF
    subst hF
    split at h
    ·rename_i m1 hm
     obtain ⟨x', y', e, e1, e2⟩ := (hV 0).fn_case
     obtain ⟨p1, p2⟩ := BP (ρ := ρ) hm e2
     obtain ⟨es, h1, h2, h3, h4, h5⟩ := ma (c := c + 1) (vals := fun i => vals (i + 1)) hH h (fun i => hV (i + 1))
     refine ⟨es, by simpa using p1.trans h1, h2, h3, bX h4, fun I2 hc => ?_⟩
     obtain ⟨g1, g2⟩ := h5 I2 hc
     refine ⟨fun j => ?_, fun H0 n => by simp only [fj, d6]; exact g2 H0 n⟩
     cases j with
     | zero =>
      show VR I2 w (.fn (.func F') [] _) _
      rw [e]
      refine .fn _ _ _ x' y' ?_ (p2 I2 ⟨hc.R, fun i n hn => hc.o i n (h1.σ _ hn), fun q hq => by simp at hq⟩)
      generalize x'.toList = l at e1 ⊢
      cases e1
      exact .nil
     | succ j => exact g1 j
    ·cases h
   ·cases h
  ·cases h
end
section
variable {I : In} {w : World} {H : Heap} {ρ : Nam}
theorem nU (hH : HR I w H) : ∀ {ks : List IK} {c : Nat} {T : List DV} {vals : List Value} {m : Met} {x : jp ks} {m' : Met}, fU H ks T m = some (x, m') → CR I w T vals →
  ∃ es, Grow m m' es ∧ (∀ q ∈ es, uV I q) ∧ es.map (fun q => ρ.r q.1) = d6 ρ c ks ∧ ∀ I2, Cov I I2 ρ m' es → CR I2 w (qd ρ c ks x) vals ∧ LaidR I2 w (fj ρ c ks x) (d6 ρ c ks)
 | [], c, T, vals, m, x, m', h, hV => by
  simp only [fU] at h
  split at h
  ·simp only [ab, ah] at h
   obtain ⟨_, rfl⟩ := h
   cases hV
   exact ⟨[], Grow.refl m, fun q h => by simp at h, rfl, fun I2 hc => ⟨.nil, fun H0 n => by simp only [fj]; exact LaidR.id H0 n⟩⟩
  ·cases h
 | .any :: r, c, T, vals, m, x, m', h, hV => by
  simp only [fU] at h
  split at h
  ·cases h
  ·rename_i d T hd
   cases hV with
   | one _ _ u us hv hu hr =>
    obtain ⟨es, h1, h2, h3, h5⟩ := nU (c := c + 1) hH h hr
    refine ⟨es, h1, h2, h3, fun I2 hc => ?_⟩
    obtain ⟨g1, g2⟩ := h5 I2 hc
    exact ⟨.one _ _ _ _ (.undef u) hu g1, fun H0 n => by simp only [fj, d6]; exact g2 H0 n⟩
   | arr s n xs _ c1 c2 hk h1 hr => exact (hd s n xs rfl).elim
  ·cases h
 | .val s :: r, c, T, vals, m, x, m', h, hV => by
  simp only [fU] at h
  split at h
  ·rename_i y T' hy
   split at h
   ·rename_i z m1 hz
    simp only [ab, ah] at h
    obtain ⟨rfl, rfl⟩ := h
    obtain ⟨c1, c2, rfl, k1, k2⟩ := Sh.dec_ok hy hV
    obtain ⟨es, h1, h2, h3, h5⟩ := nU (c := c + 1) hH hz k2
    refine ⟨es, h1, h2, h3, fun I2 hc => ?_⟩
    obtain ⟨g1, g2⟩ := h5 I2 hc
    exact ⟨CR.append (Sh.enc_ok (by rw [hc.R]; exact k1)) g1, fun H0 n => by simp only [fj, d6]; exact g2 H0 n⟩
   ·cases h
  ·cases h
 | .agf s F :: r, c, T, vals, m, x, m', h, hV => by
  simp only [fU] at h
  split at h
  ·rename_i y F' T' hy
   split at h
   ·rename_i hF
    subst hF
    split at h
    ·rename_i z m1 hz
     simp only [ab, ah] at h
     obtain ⟨rfl, rfl⟩ := h
     obtain ⟨c1, c2, rfl, k1, k2⟩ := Sh.dec_ok hy hV
     cases k2 with | one _ _ u us hd hu hr =>
     obtain ⟨x', y', rfl, e1, e2⟩ := hd.fn_case
     obtain ⟨es, h1, h2, h3, h5⟩ := nU (c := c + 1) hH hz hr
     refine ⟨es, h1, h2, h3, fun I2 hc => ?_⟩
     obtain ⟨g1, g2⟩ := h5 I2 hc
     refine ⟨?_, fun H0 n => by simp only [fj, d6]; exact g2 H0 n⟩
     show CR I2 w ((s.enc y ++ [.fn (.func F') [] []]) ++ qd ρ (c + 1) r z) _
     rw [aO]
     refine CR.append (Sh.enc_ok (by rw [hc.R]; exact k1)) ?_
     refine .one _ _ _ _ (.fn _ _ _ x' y' ?_ ?_) hu g1
     ·generalize x'.toList = l at e1 ⊢; cases e1; exact .nil
     ·generalize y'.toList = l at e2 ⊢; cases e2; exact .nil
    ·cases h
   ·cases h
  ·cases h
 | .row E s :: r, c, T, vals, m, x, m', h, hV => by
  simp only [fU] at h
  split at h
  ·rename_i d T
   split at h
   ·rename_i xs u hy
    split at h
    ·rename_i z m1 hz
     simp only [ab, ah] at h
     obtain ⟨rfl, rfl⟩ := h
     cases hV with
     | one _ _ u0 us hv hu hr =>
      obtain ⟨q, k1, k2, k3, k4⟩ := KD (ρ := ρ) (I2 := I) (m := m) hH hv hy c
      obtain ⟨es, h1, h2, h3, h5⟩ := nU (c := c + 1) hH hz hr
      refine ⟨[q] ++ es, k2.trans h1, BQ (fun p hp => by simp at hp; subst hp; exact k3) h2, by simp [d6, k1, h3], fun I2 hc => ?_⟩
      obtain ⟨g1, g2⟩ := h5 I2 hc.right
      obtain ⟨f1, f2, f3⟩ := k4 I2 hc.R (by rw [← k1]; exact hc.r q (by simp))
      exact ⟨.one _ _ _ _ f1 f3 g1, fun H0 n => by simp only [fj, d6]; exact LaidR.set f2 g2 H0 n⟩
     | arr => simp [jT] at hy
    ·cases h
   ·cases h
  ·cases h
 | .obj i :: r, c, T, vals, m, x, m', h, hV => by
  simp only [fU] at h
  split at h
  ·rename_i n T
   cases hV with | one _ _ u0 us hv hu hr =>
   split at h
   ·rename_i n' hn
    split at h
    ·rename_i e
     subst e
     obtain ⟨es, h1, h2, h3, h5⟩ := nU (c := c + 1) hH h hr
     refine ⟨es, h1, h2, h3, fun I2 hc => ?_⟩
     obtain ⟨g1, g2⟩ := h5 I2 hc
     exact ⟨.one _ _ _ _ (rG hv (hc.o i n (h1.σ _ (Met.get_mem hn)))) hu g1, fun H0 n => by simp only [fj, d6]; exact g2 H0 n⟩
    ·cases h
   ·obtain ⟨es, h1, h2, h3, h5⟩ := nU (c := c + 1) hH h hr
    refine ⟨es, ⟨fun e he => h1.σ e (ay _ he), h1.u⟩, h2, h3, fun I2 hc => ?_⟩
    obtain ⟨g1, g2⟩ := h5 I2 hc
    exact ⟨.one _ _ _ _ (rG hv (hc.o i n (h1.σ _ (aB ..)))) hu g1, fun H0 n => by simp only [fj, d6]; exact g2 H0 n⟩
  ·cases h
 | .clo F is :: r, c, T, vals, m, x, m', h, hV => by
  simp only [fU] at h
  split at h
  ·rename_i F' caps T
   split at h
   ·rename_i hF
    subst hF
    split at h
    ·rename_i m1 hm
     cases hV with | one _ _ u0 us hv hu hr =>
     obtain ⟨x', y', rfl, e1, e2⟩ := hv.fn_case
     obtain ⟨p1, p2⟩ := BP (ρ := ρ) hm e2
     obtain ⟨es, h1, h2, h3, h5⟩ := nU (c := c + 1) hH h hr
     refine ⟨es, by simpa using p1.trans h1, h2, h3, fun I2 hc => ?_⟩
     obtain ⟨g1, g2⟩ := h5 I2 hc
     refine ⟨.one _ _ _ _ (.fn _ _ _ x' y' ?_ (p2 I2 ⟨hc.R, fun i n hn => hc.o i n (h1.σ _ hn), fun q hq => by simp at hq⟩)) hu g1, fun H0 n => by simp only [fj, d6]; exact g2 H0 n⟩
     generalize x'.toList = l at e1 ⊢
     cases e1
     exact .nil
    ·cases h
   ·cases h
  ·cases h
def s7 (ρ : Nam) : Nat → List (List IK) → List Nat
 | _, [] => []
 | i, _ :: r => ρ.o i :: s7 ρ (i + 1) r
theorem LaidR.comp {I2 : In} {f g : Heap → Heap} {ns ns' : List Nat} (hf : LaidR I2 w f ns) (hg : LaidR I2 w g ns') : LaidR I2 w (fun H => g (f H)) (ns ++ ns') := by
 intro H0 n
 obtain ⟨g1, g2⟩ := hg (f H0) n
 obtain ⟨f1, f2⟩ := hf H0 n
 refine ⟨fun b h => (g1 b h).elim .inl (f1 b), fun h => ?_⟩
 obtain ⟨h1, h2⟩ := g2 h
 obtain ⟨h3, h4⟩ := f2 h1
 exact ⟨h3, by simp [h2, h4]⟩
theorem HE (hH : HR I w H) : ∀ {os : List (List IK)} {i : Nat} {m : Met} {x : sJ os} {m' : Met}, rA H i os m = some (x, m') →
  ∃ es, Grow m m' es ∧ (∀ q ∈ es, uV I q) ∧ (gh ρ i os).Perm (es.map (fun q => ρ.r q.1) ++ s7 ρ i os) ∧ (∀ j, j < os.length → ∃ n b, (i + j, n) ∈ m'.σ ∧ I.ι n = some (.obj b)) ∧ ∀ I2, Cov I I2 ρ m' es → LaidR I2 w (uv ρ i os x) (gh ρ i os)
 | [], i, m, x, m', h => by
  simp only [rA, ab, ah] at h
  obtain ⟨_, rfl⟩ := h
  exact ⟨[], Grow.refl m, fun q h => by simp at h, .refl _, fun j hj => by simp at hj, fun I2 hc H0 n => by simp only [uv]; exact LaidR.id H0 n⟩
 | k :: r, i, m, x, m', h => by
  simp only [rA] at h
  split at h
  ·rename_i n hn
   split at h
   ·rename_i cs hcs
    split at h
    ·rename_i y m1 hy
     split at h
     ·rename_i z m2 hz
      simp only [ab, ah] at h
      obtain ⟨rfl, rfl⟩ := h
      obtain ⟨b, c, t, b1, b2, b3⟩ := hH.obj n cs hcs
      obtain ⟨es, h1, h2, h3, h4⟩ := nU (ρ := ρ) (c := 1000 * (i + 1)) hH hy b3
      obtain ⟨es', k1, k2, k3, k4, k5⟩ := HE (i := i + 1) hH hz
      refine ⟨es ++ es', h1.trans k1, BQ h2 k2, ?_, fun j hj => ?_, fun I2 hc => ?_⟩
      ·simp only [gh, s7, cr, h3]
       refine (List.Perm.cons _ (List.Perm.append_left _ k3)).trans ?_
       rw [← aO]
       exact List.perm_middle.symm
      ·cases j with
       | zero => exact ⟨n, b, k1.σ _ (h1.σ _ (Met.get_mem hn)), b1⟩
       | succ j =>
        obtain ⟨n', b', e1, e2⟩ := k4 j (by simpa using hj)
        exact ⟨n', b', by rw [show i + (j + 1) = i + 1 + j by omega]; exact e1, e2⟩
      ·obtain ⟨g1, g2⟩ := h4 I2 (hc.left k1.σ)
       have g3 := k5 I2 hc.right
       have hbr : BR I2 w (ρ.o i) (.obj (qd ρ (1000 * (i + 1)) k y)) := ⟨b, c, t, (hc.o i n (k1.σ _ (h1.σ _ (Met.get_mem hn)))).trans b1, b2, g1⟩
       intro H0 q
       simp only [uv, gh]
       have := LaidR.comp (LaidR.set hbr g2) g3 H0 q
       simpa using this
     ·cases h
    ·cases h
   ·cases h
  ·cases h
theorem nV : ∀ {l : List Nat}, lV l = true → l.Nodup
 | [], _ => List.nodup_nil
 | a :: r, h => by
  simp only [lV, ao, b9] at h
  rw [bN]
  exact ⟨by rw [← List.contains_iff_mem, h.1]; simp, nV h.2⟩
end
theorem fw {α β : Type} {f : α → β} : ∀ {l : List α}, (l.map f).Nodup → ∀ {a b : α}, a ∈ l → b ∈ l → f a = f b → a = b
 | [], _, a, b, ha, _, _ => by simp at ha
 | c :: r, h, a, b, ha, hb, e => by
  rw [List.map_cons, bN] at h
  rcases aA.1 ha with rfl | ha'
  ·rcases aA.1 hb with rfl | hb'
   ·rfl
   ·exact absurd (e ▸ bk hb') h.1
  ·rcases aA.1 hb with rfl | hb'
   ·exact absurd (e ▸ bk ha') h.1
   ·exact fw h.2 ha' hb' e
theorem mX {α β : Type} {f : α → Option β} : ∀ {l : List α}, (l.filterMap f).Nodup → ∀ {a b : α} {o : β}, a ∈ l → b ∈ l → f a = some o → f b = some o → a = b
 | [], _, a, b, o, ha, _, _, _ => by simp at ha
 | c :: r, h, a, b, o, ha, hb, e, e' => by
  rw [List.filterMap_cons] at h
  have tl : (r.filterMap f).Nodup := by
   split at h
   ·exact h
   ·exact (bN.1 h).2
  rcases aA.1 ha with rfl | ha'
  ·rcases aA.1 hb with rfl | hb'
   ·rfl
   ·rw [e] at h
    exact absurd (List.mem_filterMap.2 ⟨b, hb', e'⟩) (bN.1 h).1
  ·rcases aA.1 hb with rfl | hb'
   ·rw [e'] at h
    exact absurd (List.mem_filterMap.2 ⟨a, ha', e⟩) (bN.1 h).1
   ·exact mX tl ha' hb' e e'
theorem s8 (ρ : Nam) : ∀ (os : List (List IK)) (i : Nat), s7 ρ i os = (List.range os.length).map fun j => ρ.o (i + j)
 | [], i => rfl
 | k :: r, i => by
  simp only [s7, aE, List.range_succ_eq_map, List.map_cons, List.map_map, ci]
  rw [s8 ρ r (i + 1)]
  congr 1
  refine bs fun j _ => ?_
  simp only [Function.comp]
  congr 1
  omega
section
variable {I Ib : In} {w : World} {H Hb : Heap} {ρ : Nam}
structure Lay (I Ib I2 : In) (w : World) (t : Tmpl) (ρ : Nam) (x : t.Ty) (m : Met) (vals : Nat → Value) (Hb : Heap) : Prop where
 hr : HR I2 w (t.H ρ x Hb)
 val : ∀ i, VR I2 w ((t.T ρ x).getD i .undef) (vals i)
 R : I2.R = I.R
 out : ∀ n, n ∉ t.names ρ → I2.ι n = Ib.ι n
 obj : ∀ i, i < t.os.length → ∃ n b, (i, n) ∈ m.σ ∧ I.ι n = some (.obj b) ∧ I2.ι (ρ.o i) = some (.obj b)
 old : ∀ n e b, n ∈ t.names ρ → I2.ι n = some e → e.blk = some b → ∃ n' e', I.ι n' = some e' ∧ e'.blk = some b ∧ (n' ∈ m.u ∨ n' ∈ m.σ.map (·.2))
 met : ∀ e ∈ m.σ, e.1 < t.os.length
 key : (m.σ.map (·.1)).Nodup
 rows : ∀ n, n ∈ m.u → ∃ sz v, I.ι n = some (.row sz v)
 nd : (m.u ++ m.σ.map (·.2)).Nodup
 same : ∀ n e, Ib.ι n = some e → I2.ι n = some e
 row : ∀ n e, n ∈ t.names ρ → I2.ι n = some e → (∃ b, e = .obj b ∧ ∃ i, i < t.os.length ∧ n = ρ.o i) ∨ ∃ sz v, e = .row sz v
structure Base (I Ib : In) (w : World) (t : Tmpl) (ρ : Nam) (m : Met) (Hb : Heap) : Prop where
 br : ∀ n b, Hb n = some b → BR Ib w n b
 dom : ∀ n, Hb n = none → n ∉ t.names ρ → Ib.ι n = none
 old : ∀ n e, n ∈ t.names ρ → Ib.ι n = some e → ∃ i n', (i, n') ∈ m.σ ∧ n = ρ.o i ∧ I.ι n' = some e
 lt : ∀ n e b, n ∉ t.names ρ → Ib.ι n = some e → e.blk = some b → b < w.heap.size ∧ ¬ I.R b
 inj : ∀ n n' e e' b, n ∉ t.names ρ → n' ∉ t.names ρ → Ib.ι n = some e → Ib.ι n' = some e' → e.blk = some b → e'.blk = some b → n = n'
 R : ∀ b, Ib.R b → I.R b
 dis : ∀ n e n' e' b, n ∉ t.names ρ → Ib.ι n = some e → I.ι n' = some e' → (n' ∈ m.u ∨ n' ∈ m.σ.map (·.2)) → e.blk = some b → e'.blk ≠ some b
theorem li (I : In) (w : World) (t : Tmpl) (ρ : Nam) (m : Met) : Base I ⟨fun _ => none, I.R⟩ w t ρ m (fun _ => none) where
 br := by intro n b h; cases h
 dom := by intro n _ _; rfl
 old := by intro n e _ h; cases h
 lt := by intro n e b _ h; cases h
 inj := by intro n n' e e' b _ _ h; cases h
 R := fun _ h => h
 dis := by intro n e n' e' b _ h; cases h
theorem nW {t : Tmpl} {m0 m : Met} {x : t.Ty} {T : List DV} {vals : Nat → Value} (hH : HR I w H) (hu : m0.u = []) (h : t.pr m0 T H = some (x, m)) (hV : ∀ i, VR I w (T.getD i .undef) (vals i)) (hb : Base I Ib w t ρ m Hb) (hfree : t.free ρ Hb = true) : (∃ I2, Lay I Ib I2 w t ρ x m vals Hb) ∧ t.ks.length ≤ T.length ∧ m0.σ ⊆ m.σ := by
 unfold Tmpl.pr at h
 split at h
 ·rename_i x1 m1 h1
  split at h
  ·rename_i y m2 h2
   split at h
   ·rename_i hc
    simp only [ab, ah] at h
    obtain ⟨rfl, rfl⟩ := h
    simp only [ao, aL, aw] at hc
    obtain ⟨⟨c1, c2⟩, c3⟩ := hc
    have n1 := nV c1
    have n2 := nV c2
    obtain ⟨es, g1, g2, g3, g4, g5⟩ := ma (ρ := ρ) (c := 0) hH h1 hV
    obtain ⟨es', k1, k2, k3, k4, k5⟩ := HE (ρ := ρ) hH h2
    unfold Tmpl.free at hfree
    simp only [ao, aL, Option.isNone_iff_eq_none] at hfree
    have hnd := nV hfree.1
    have hnone := hfree.2
    have hgr := g1.trans k1
    have hu2 : m2.u = ((es ++ es').filterMap (·.2.2)).reverse := by rw [hgr.u, hu, aX]
    generalize hes : es ++ es' = E at hgr hu2
    -- the names
    have hperm : (t.names ρ).Perm (E.map (fun q => ρ.r q.1) ++ s7 ρ 0 t.os) := by
     unfold Tmpl.names
     rw [← hes, cr, ← g3, aO]
     exact List.Perm.append_left _ k3
    have hnd2 := (hperm.nodup_iff).1 hnd
    rw [List.nodup_append] at hnd2
    obtain ⟨d1, d2, d3⟩ := hnd2
    have hmem : ∀ n, n ∈ t.names ρ ↔ (∃ q ∈ E, ρ.r q.1 = n) ∨ ∃ i, i < t.os.length ∧ ρ.o i = n := by
     intro n
     rw [hperm.mem_iff, az, List.mem_map, s8, List.mem_map]
     simp only [bo, bV]
    let I2 : In := ⟨fun n => match E.find? (fun q => ρ.r q.1 == n) with
     | some q => some q.2.1
     | none => match (List.range t.os.length).find? (fun i => ρ.o i == n) with
      | some i => match m2.get i with | some n' => I.ι n' | none => none
      | none => Ib.ι n, I.R⟩
    have ir : ∀ q ∈ E, I2.ι (ρ.r q.1) = some q.2.1 := by
     intro q hq
     show (match E.find? (fun p => ρ.r p.1 == ρ.r q.1) with | some q => some q.2.1 | none => _) = _
     cases hf : E.find? (fun p => ρ.r p.1 == ρ.r q.1) with
     | none => exact absurd (List.find?_eq_none.1 hf q hq) (by simp)
     | some p =>
      have hp := cb hf
      have hpm := cc hf
      simp only [ag] at hp
      rw [fw d1 hpm hq hp]
    have rnone : ∀ n, (∀ q ∈ E, ρ.r q.1 ≠ n) → E.find? (fun q => ρ.r q.1 == n) = none := fun n hn => List.find?_eq_none.2 fun q hq => by simp [hn q hq]
    have hget : ∀ i n, (i, n) ∈ m2.σ → m2.get i = some n := by
     intro i n hin
     unfold Met.get
     cases hf : m2.σ.find? (fun e => e.1 == i) with
     | none => exact absurd (List.find?_eq_none.1 hf (i, n) hin) (by simp)
     | some p =>
      have hp := cb hf
      have hpm := cc hf
      simp only [ag] at hp
      have := fw n2 hpm hin hp
      rw [this]
      rfl
    have io : ∀ i n, (i, n) ∈ m2.σ → I2.ι (ρ.o i) = I.ι n := by
     intro i n hin
     have hi := c3 _ hin
     have hio : ρ.o i ∈ s7 ρ 0 t.os := by
      rw [s8, List.mem_map]
      exact ⟨i, by simpa using hi, by simp⟩
     show (match E.find? (fun p => ρ.r p.1 == ρ.o i) with | some q => some q.2.1 | none => _) = _
     rw [rnone _ (fun q hq e => d3 _ (bk hq) _ hio e)]
     cases hf : (List.range t.os.length).find? (fun j => ρ.o j == ρ.o i) with
     | none => exact absurd (List.find?_eq_none.1 hf i (by simpa using hi)) (by simp)
     | some j =>
      have hj := cb hf
      have hjm := cc hf
      simp only [ag] at hj
      rw [s8] at d2
      have : j = i := fw d2 hjm (by simpa using hi) (by simpa using hj)
      subst this
      simp only [hget j n hin]
    have ib : ∀ n, n ∉ t.names ρ → I2.ι n = Ib.ι n := by
     intro n hn
     rw [hmem] at hn
     show (match E.find? (fun p => ρ.r p.1 == n) with | some q => some q.2.1 | none => _) = _
     rw [rnone n (fun q hq e => hn (.inl ⟨q, hq, e⟩))]
     have : (List.range t.os.length).find? (fun i => ρ.o i == n) = none := List.find?_eq_none.2 fun i hi => by
      simp only [bo] at hi
      intro e
      exact hn (.inr ⟨i, hi, by simpa using e⟩)
     rw [this]
    have hcov : Cov I I2 ρ m2 E := ⟨rfl, io, ir⟩
    rw [← hes] at hcov
    obtain ⟨f1, f2⟩ := g5 I2 (hcov.left k1.σ)
    have f3 := k5 I2 hcov.right
    rw [hes] at hcov
    have hlaid : LaidR I2 w (fun H => fj ρ 0 t.ks x1 (uv ρ 0 t.os y H)) (gh ρ 0 t.os ++ d6 ρ 0 t.ks) := LaidR.comp f3 f2
    have hobj : ∀ i, i < t.os.length → ∃ n b, (i, n) ∈ m2.σ ∧ I.ι n = some (.obj b) := fun i hi => by
     obtain ⟨n, b, e1, e2⟩ := k4 i hi
     rw [bV] at e1
     exact ⟨n, b, e1, e2⟩
    have hu3 : (E.filterMap (·.2.2)).Nodup := by
     have := (List.nodup_append.1 n1).1
     rw [hu2] at this
     exact (List.reverse_perm _).nodup_iff.1 this
    have hin_u : ∀ q ∈ E, ∀ n, q.2.2 = some n → n ∈ m2.u := fun q hq n hn => by
     rw [hu2, List.mem_reverse, List.mem_filterMap]
     exact ⟨q, hq, hn⟩
    have hre : ∀ q ∈ E, uV I q := by rw [← hes]; exact BQ g2 k2
    -- where an entry comes from
    have org : ∀ n e, I2.ι n = some e → (∃ q ∈ E, ρ.r q.1 = n ∧ e = q.2.1) ∨ (∃ i n', i < t.os.length ∧ ρ.o i = n ∧ (i, n') ∈ m2.σ ∧ I.ι n' = some e) ∨ (n ∉ t.names ρ ∧ Ib.ι n = some e) := by
     intro n e hn
     by_cases hm : n ∈ t.names ρ
     ·rcases (hmem n).1 hm with ⟨q, hq, rfl⟩ | ⟨i, hi, rfl⟩
      ·rw [ir q hq] at hn
       simp only [ab] at hn
       exact .inl ⟨q, hq, rfl, hn.symm⟩
      ·obtain ⟨n', b, e1, e2⟩ := hobj i hi
       rw [io i n' e1] at hn
       exact .inr (.inl ⟨i, n', hi, rfl, e1, hn⟩)
     ·rw [ib n hm] at hn
      exact .inr (.inr ⟨hm, hn⟩)
    have oldr : ∀ q ∈ E, ∀ b, q.2.1.blk = some b → ∃ n e, q.2.2 = some n ∧ I.ι n = some e ∧ e.blk = some b := by
     intro q hq b hb
     have := (hre q hq).2
     cases hq2 : q.2.2 with
     | none => rw [hq2] at this; rw [this] at hb; cases hb
     | some n =>
      rw [hq2] at this
      obtain ⟨e, e1, _, e2⟩ := this
      exact ⟨n, e, rfl, e1, by rw [← e2]; exact hb⟩
    have key : ∀ n e, Ib.ι n = some e → I2.ι n = some e := fun n e hn => by
     by_cases hm : n ∈ t.names ρ
     ·obtain ⟨i, n', e1, rfl, e2⟩ := hb.old n e hm hn
      rw [io i n' e1]
      exact e2
     ·rw [ib n hm]
      exact hn
    have hsame : Same Ib I2 w w := ⟨⟨hb.R, fun _ _ => rfl⟩, fun n b => key n _, fun n sz v => key n _⟩
    refine ⟨⟨I2, ⟨HR.of (fun n b hn => ?_) (fun n hn => ?_) (fun n e b hn hbl => ?_) (fun n n' e e' b hn hn' hbl hbl' => ?_) (fun b hR => hH.rlt b hR), f1, rfl, ib, fun i hi => ?_, fun n e b hm hn hbl => ?_, c3, n2, fun n hn => ?_, n1, key, fun n e hm hn => ?_⟩⟩, g4, fun e he => hgr.σ e he⟩
    ·rcases (hlaid Hb n).1 b hn with h3 | h3
     ·exact h3
     ·exact (hb.br n b h3).keep hsame (fun _ _ _ _ => rfl)
    ·obtain ⟨h3, h4⟩ := (hlaid Hb n).2 hn
     have hnm : n ∉ t.names ρ := by unfold Tmpl.names; rw [az] at h4 ⊢; exact fun h => h4 h.symm
     rw [ib n hnm]
     exact hb.dom n h3 hnm
    ·rcases org n e hn with ⟨q, hq, _, rfl⟩ | ⟨i, n', _, _, _, h3⟩ | ⟨hnm, h3⟩
     ·obtain ⟨o, e', _, h4, h5⟩ := oldr q hq b hbl
      exact hH.lt o e' b h4 h5
     ·exact hH.lt n' e b h3 hbl
     ·exact hb.lt n e b hnm h3 hbl
    ·rcases org n e hn with ⟨q, hq, rfl, rfl⟩ | ⟨i, o, hi, rfl, hio, h3⟩ | ⟨hnm, h3⟩
     ·obtain ⟨o, e0, h4, h5, h6⟩ := oldr q hq b hbl
      rcases org n' e' hn' with ⟨q', hq', rfl, rfl⟩ | ⟨i', o', hi', rfl, hio', h3'⟩ | ⟨hnm', h3'⟩
      ·obtain ⟨o', e0', h4', h5', h6'⟩ := oldr q' hq' b hbl'
       have := hH.inj o o' e0 e0' b h5 h5' h6 h6'
       subst this
       rw [mX hu3 hq hq' h4 h4']
      ·have := hH.inj o o' e0 e' b h5 h3' h6 hbl'
       subst this
       exact absurd rfl ((List.nodup_append.1 n1).2.2 o (hin_u q hq o h4) o (bk (f := (·.2)) hio'))
      ·exact absurd h6 (hb.dis n' e' o e0 b hnm' h3' h5 (.inl (hin_u q hq o h4)) hbl')
     ·rcases org n' e' hn' with ⟨q', hq', rfl, rfl⟩ | ⟨i', o', hi', rfl, hio', h3'⟩ | ⟨hnm', h3'⟩
      ·obtain ⟨o', e0', h4', h5', h6'⟩ := oldr q' hq' b hbl'
       have := hH.inj o o' e e0' b h3 h5' hbl h6'
       subst this
       exact absurd rfl ((List.nodup_append.1 n1).2.2 o (hin_u q' hq' o h4') o (bk (f := (·.2)) hio))
      ·have := hH.inj o o' e e' b h3 h3' hbl hbl'
       subst this
       have := fw (f := (·.2)) (List.nodup_append.1 n1).2.1 hio hio' rfl
       simp only [ah] at this
       rw [this.1]
      ·exact absurd hbl (hb.dis n' e' o e b hnm' h3' h3 (.inr (bk (f := (·.2)) hio)) hbl')
     ·rcases org n' e' hn' with ⟨q', hq', rfl, rfl⟩ | ⟨i', o', hi', rfl, hio', h3'⟩ | ⟨hnm', h3'⟩
      ·obtain ⟨o', e0', h4', h5', h6'⟩ := oldr q' hq' b hbl'
       exact absurd h6' (hb.dis n e o' e0' b hnm h3 h5' (.inl (hin_u q' hq' o' h4')) hbl)
      ·exact absurd hbl' (hb.dis n e o' e' b hnm h3 h3' (.inr (bk (f := (·.2)) hio')) hbl)
      ·exact hb.inj n n' e e' b hnm hnm' h3 h3' hbl hbl'
    ·obtain ⟨n, b, e1, e2⟩ := hobj i hi
     exact ⟨n, b, e1, e2, (io i n e1).trans e2⟩
    ·rcases org n e hn with ⟨q, hq, _, rfl⟩ | ⟨i, n', _, _, hio, h3⟩ | ⟨hnm, _⟩
     ·obtain ⟨o, e', h4, h5, h6⟩ := oldr q hq b hbl
      exact ⟨o, e', h5, h6, .inl (hin_u q hq o h4)⟩
     ·exact ⟨n', e, h3, hbl, .inr (bk (f := (·.2)) hio)⟩
     ·exact absurd hm hnm
    ·rw [hu2, List.mem_reverse, List.mem_filterMap] at hn
     obtain ⟨q, hq, hq2⟩ := hn
     have := (hre q hq).2
     rw [hq2] at this
     obtain ⟨e, e1, ⟨sz, v, rfl⟩, _⟩ := this
     exact ⟨sz, v, e1⟩
    ·rcases org n e hn with ⟨q, hq, _, rfl⟩ | ⟨i, n', hi, h4, hio, h3⟩ | ⟨hnm, _⟩
     ·exact .inr (hre q hq).1
     ·obtain ⟨n2', b, e1, e2⟩ := hobj i hi
      have : n' = n2' := by
       have a1 := hget i n' hio
       have a2 := hget i n2' e1
       rw [a1] at a2
       simpa using a2
      subst this
      rw [h3] at e2
      simp only [ab] at e2
      exact .inl ⟨b, e2, i, hi, h4.symm⟩
     ·exact absurd hm hnm
   ·cases h
  ·cases h
 ·cases h
end
section
variable {P : Program} {α : Type}
theorem JX {d : Nat} {o : Oper} {E : TypeId} {s : Sh} {x : DV} {ys : List s.T} {T : List DV} {H : Heap} {k : List DV → Heap → Option α} : je P d o E s x ys T H k = (je P d o E s x ys T H fun T H => some (T, H)).bind fun e => k e.1 e.2 := by
 unfold je
 repeat' split
 all_goals first | rfl | (rw [gF, gF (k := fun v a => some (dN T o.dst v, H.act a))]; generalize f6 d o H _ _ _ = z; cases z <;> rfl)
theorem py {d : Nat} {o : Oper} {T : List DV} {H : Heap} {k : List DV → Heap → Option α} : (eI P d o T H fun v a => k (dN T o.dst v) (H.act a)) = (eI P d o T H fun v a => some (dN T o.dst v, H.act a)).bind fun e => k e.1 e.2 := by
 rw [rF, rF (k := fun v a => some (dN T o.dst v, H.act a))]
 generalize eI P d o T H (fun v a => some (v, a)) = z
 cases z <;> rfl
theorem yb {d : Nat} {o : Oper} {T : List DV} {H : Heap} {k : K α} : l3 P d o T H k = (l3 P d o T H fun T H => some (T, H)).bind fun e => k e.1 e.2 := by
 unfold l3
 split
 ·split
  exact py
 ·split
  ·split
   exact py
  ·exact py
 ·split
  ·repeat' split
   all_goals first | rfl | exact JX
  ·exact py
 ·exact py
end
def BS (call : (α : Type) → gv α) : Prop := ∀ {α : Type} {g : FuncId} {A : List DV} {H : Heap} {k : DV → Heap → Option (List Nat) → Option α}, call α g A H k = (call _ g A H fun v H u => some (v, H, u)).bind fun e => k e.1 e.2.1 e.2.2
theorem eL {α β γ : Type} {x : Option α} {f : α → Option β} {g : β → Option γ} {h : α → Option γ} (e : ∀ a, h a = (f a).bind g) : x.bind h = (x.bind f).bind g := by
 cases x with
 | none => rfl
 | some a => exact e a
section
variable {cx : Cx} {call : (α : Type) → gv α} {α : Type}
theorem uW (hc : BS call) {d : Nat} {ops : Array Oper} : ∀ {l : List Oper} {α : Type} {T : List DV} {H : Heap} {k : K α}, eY cx (call α) d ops l T H k = (eY cx (call _) d ops l T H fun T H => some (T, H)).bind fun e => k e.1 e.2
 | [], α, T, H, k => rfl
 | o :: l, α, T, H, k => by
  have ih : ∀ {T : List DV} {H : Heap}, eY cx (call α) d ops l T H k = (eY cx (call _) d ops l T H fun T H => some (T, H)).bind fun e => k e.1 e.2 := uW hc
  have hp : ∀ {T : List DV}, (l3 cx.P d o T H fun T H => eY cx (call α) d ops l T H k) = (l3 cx.P d o T H fun T H => eY cx (call _) d ops l T H fun T H => some (T, H)).bind fun e => k e.1 e.2 := by
   intro T
   rw [yb, yb (k := fun T H => eY cx (call _) d ops l T H fun T H => some (T, H))]
   exact eL fun a => ih
  have hcall : ∀ {g : FuncId} {A T : List DV} {H : Heap}, (call α g A H fun v H u => eY cx (call α) d ops l (dN (kP T u) o.dst v) H k) = (call _ g A H fun v H u => eY cx (call _) d ops l (dN (kP T u) o.dst v) H fun T H => some (T, H)).bind fun e => k e.1 e.2 := by
   intro g A T H
   rw [hc, hc (k := fun v H u => eY cx (call _) d ops l (dN (kP T u) o.dst v) H fun T H => some (T, H))]
   exact eL fun a => ih
  unfold eY
  simp only [D1, NZ]
  repeat' split
  all_goals first | rfl | exact hp | exact ih | exact hcall
theorem qp : ∀ {l : List FS} {A : List DV} {k : DV → Option α}, oS l A k = (oS l A (fun v => some v)).map fun q => q.bind k
 | [], _, _ => rfl
 | S :: l, A, k => by
  simp only [oS]
  split
  ·split
   ·simp only [bJ, ab]
    exact eL fun a => rfl
   ·exact qp
  ·exact qp
theorem uX : ∀ {l : List FS} {A : List DV} {H : Heap} {b : Nat} {k : DV → Act2 → Option α}, qh l A H b k = (qh l A H b (fun v a => some (v, a))).map fun q => q.bind fun e => k e.1 e.2
 | [], _, _, _, _ => rfl
 | S :: l, A, H, b, k => by
  simp only [qh]
  split
  ·simp only [bJ, ab]
   refine eL fun a => ?_
   split <;> rfl
  ·exact uX
theorem Eg {P : Program} {d : Nat} {o : Oper} {c : Call} {T : List DV} {H : Heap} {k : DV → Act2 → Option α} : x8 P d o c T H k = (x8 P d o c T H fun v a => some (v, a)).bind fun e => k e.1 e.2 := by
 unfold x8
 repeat' split
 all_goals first | rfl | exact ze
theorem s9 (hc : BS call) {d : Nat} {ops : Array Oper} {anc : List Nat} : ∀ {l : List Oper} {m : Nat} {q : Bool} {log : List (Nat × Did)} {α : Type} {T : List DV} {H : Heap} {k : K α}, dO cx (call α) d ops anc l m q log T H k = (dO cx (call _) d ops anc l m q log T H fun T H => some (T, H)).bind fun e => k e.1 e.2
 | [], m, q, log, α, T, H, k => rfl
 | o :: l, m, q, log, α, T, H, k => by
  have ih : ∀ {m : Nat} {q : Bool} {log : List (Nat × Did)} {T : List DV} {H : Heap}, dO cx (call α) d ops anc l m q log T H k = (dO cx (call _) d ops anc l m q log T H fun T H => some (T, H)).bind fun e => k e.1 e.2 := s9 hc
  have hn : ∀ {c : Bool} {m : Nat} {q : Bool} {log : List (Nat × Did)} {T : List DV} {H : Heap}, (if c = true then dO cx (call α) d ops anc l m q log T H k else none) = (if c = true then dO cx (call _) d ops anc l m q log T H fun T H => some (T, H) else none).bind fun e => k e.1 e.2 := by
   intro c m q log T H
   cases c
   ·rfl
   ·exact ih
  have hE : ∀ {T : List DV} {c : DV → fx → Bool} {m : Nat} {qg : DV → fx → Bool} {lg : DV → fx → List (Nat × Did)}, (eI cx.P d o T H fun v a => if c v a = true then dO cx (call α) d ops anc l m (qg v a) (lg v a) (dN T o.dst v) (H.act a) k else none) = (eI cx.P d o T H fun v a => if c v a = true then dO cx (call _) d ops anc l m (qg v a) (lg v a) (dN T o.dst v) (H.act a) fun T H => some (T, H) else none).bind fun e => k e.1 e.2 := by
   intro T c m qg lg
   rw [rF, rF (k := fun v a => if c v a = true then dO cx (call _) d ops anc l m (qg v a) (lg v a) (dN T o.dst v) (H.act a) fun T H => some (T, H) else none)]
   exact eL fun a => hn
  have hp : ∀ {m : Nat} {T : List DV}, (l3 cx.P d o T H fun T H => dO cx (call α) d ops anc l m true [] T H k) = (l3 cx.P d o T H fun T H => dO cx (call _) d ops anc l m true [] T H fun T H => some (T, H)).bind fun e => k e.1 e.2 := by
   intro m T
   rw [yb, yb (k := fun T H => dO cx (call _) d ops anc l m true [] T H fun T H => some (T, H))]
   exact eL fun a => ih
  have hcall : ∀ {m : Nat} {g : FuncId} {A T : List DV} {H : Heap}, (call α g A H fun v H u => dO cx (call α) d ops anc l m true [] (dN (kP T u) o.dst v) H k) = (call _ g A H fun v H u => dO cx (call _) d ops anc l m true [] (dN (kP T u) o.dst v) H fun T H => some (T, H)).bind fun e => k e.1 e.2 := by
   intro m g A T H
   rw [hc, hc (k := fun v H u => dO cx (call _) d ops anc l m true [] (dN (kP T u) o.dst v) H fun T H => some (T, H))]
   exact eL fun a => ih
  have hrun : ∀ {n : Nat} {T : List DV} {c : DV → fx → Bool} {m : Nat} {qg : DV → fx → Bool} {lg : DV → fx → List (Nat × Did)} {cs : List Nat → DV → Act2 → Bool} {ls : List Nat → DV → Act2 → List (Nat × Did)}, C9 cx (call α) d ops.size anc o n T H (fun v a => if c v a = true then dO cx (call α) d ops anc l m (qg v a) (lg v a) (dN T o.dst v) (H.act a) k else none) (fun rd v a => if cs rd v a = true then dO cx (call α) d ops anc l m false (ls rd v a) (dN (dU a.u T) o.dst v) (H.act2 a) k else none) (fun T H => dO cx (call α) d ops anc l m true [] T H k) =
    (C9 cx (call _) d ops.size anc o n T H (fun v a => if c v a = true then dO cx (call _) d ops anc l m (qg v a) (lg v a) (dN T o.dst v) (H.act a) fun T H => some (T, H) else none) (fun rd v a => if cs rd v a = true then dO cx (call _) d ops anc l m false (ls rd v a) (dN (dU a.u T) o.dst v) (H.act2 a) fun T H => some (T, H) else none) (fun T H => dO cx (call _) d ops anc l m true [] T H fun T H => some (T, H))).bind fun e => k e.1 e.2 := by
   intro n T c m qg lg cs ls
   unfold C9
   split
   ·split
    ·split
     ·rename_i g a b hf
      have hz : ∀ {x : Option α} {y : Option (List DV × Heap)}, x = (y.bind fun e => k e.1 e.2) → x = (y.bind fun e => k e.1 e.2) := id
      generalize pq cx g (a ++ List.map (dt T) _ ++ b) = tv
      cases tv with
      | some v => exact hn
      | none =>
      simp only
      rw [qp (α := α), qp (α := List DV × Heap)]
      cases jf cx.P g with
      | true =>
       simp only [if_true]
       generalize oS (cx.specs g) (a ++ List.map (dt T) _ ++ b) (fun v => some v) = z
       cases z with
       | none =>
        simp only [Option.map_none]
        rw [uX (α := α), uX (α := List DV × Heap)]
        generalize qh (cx.specs g) (a ++ List.map (dt T) _ ++ b) H (G8 d o) (fun v a => some (v, a)) = zs
        split
        ·repeat' split
         all_goals exact hcall
        ·cases zs with
         | none => rfl
         | some q => exact eL fun v => hn
       | some q => exact eL fun v => hn
      | false =>
       simp only [aG, ax]
       repeat' split
       all_goals first | exact hcall | rfl
     ·rfl
    ·split
     ·exact hp
     ·rw [Eg (α := α), Eg (α := List DV × Heap)]
      exact eL fun v => hn
    ·exact hE
   ·split
    ·exact hp
    ·exact hE
   ·exact hE
  have hr : ∀ {T : List DV}, _ := fun {T : List DV} => hrun (n := m) (T := T) (c := fun v act => tX ops anc d m q log (iJ ops T H o v (e6 T o) (Act2.of act))) (m := m + 1) (qg := fun v act => q && act.isNone) (lg := fun v act => (m, iJ ops T H o v (e6 T o) (Act2.of act)) :: log) (cs := fun rd v act => tX ops anc d m q log (iJ ops T H o v rd act)) (ls := fun rd v act => (m, iJ ops T H o v rd act) :: log)
  unfold dO
  simp only
  split
  ·exact hr (T := T)
  ·split
   ·rename_i g hj
    split
    ·rename_i b hb
     cases b with
     | true =>
      simp only [if_true]
      split
      ·exact hr (T := T.set g (.sc (.bool true)))
      ·exact hn
     | false =>
      simp only [aG, ax]
      split
      ·exact hn
      ·exact hr (T := T.set g (.sc (.bool false)))
    ·exact hn
    ·rfl
   ·rfl
end
abbrev zP := Ex × List DV × Heap
theorem HF {α : Type} {B : (β : Type) → (Ex → List DV → Heap → Option β) → Option β} (hB : ∀ (β : Type) (k : Ex → List DV → Heap → Option β), B β k = (B zP fun e T H => some (e, T, H)).bind fun p => k p.1 p.2.1 p.2.2) {k1 : Ex → List DV → Heap → Option α} {k2 : Ex → List DV → Heap → Option zP} {g : zP → Option α} (h : ∀ e T H, k1 e T H = (k2 e T H).bind g) : B α k1 = (B zP k2).bind g := by
 rw [hB α k1, hB zP k2]
 exact eL fun p => h p.1 p.2.1 p.2.2
section
variable {cx : Cx} {call : (α : Type) → gv α} {α : Type}
theorem BT {body : (β : Type) → List DV → Heap → (Ex → List DV → Heap → Option β) → Option β} (hb : ∀ {β : Type} {T : List DV} {H : Heap} {k : Ex → List DV → Heap → Option β}, body β T H k = (body _ T H fun e T H => some (e, T, H)).bind fun p => k p.1 p.2.1 p.2.2) : ∀ {n : Nat} {T : List DV} {H : Heap} {k : Ex → List DV → Heap → Option α}, nR (body α) n T H k = (nR (body zP) n T H fun e T H => some (e, T, H)).bind fun p => k p.1 p.2.1 p.2.2
 | 0, T, H, k => rfl
 | n + 1, T, H, k => by
  simp only [nR]
  refine HF (B := fun β k => body β T H k) (fun β k => hb) fun e T H => ?_
  cases e
  ·exact BT hb
  ·rfl
  ·rfl
  ·rfl
theorem HG : ∀ {os : List (Ex × Tmpl)} {y : qe os} {α β : Type} {k : Ex → (t : Tmpl) → t.Ty → Option α} {k' : Ex → (t : Tmpl) → t.Ty → Option β} {g : β → Option α}, (∀ e t y, k e t y = (k' e t y).bind g) → qZ os y k = (qZ os y k').bind g
 | [], y, α, β, k, k', g, h => by cases y
 | [e], y, α, β, k, k', g, h => h _ _ _
 | e :: f :: r, y, α, β, k, k', g, h => by
  cases y with
  | inl y => exact h _ _ _
  | inr y => exact HG (os := f :: r) h
theorem Eh {L : Loop} {b : Nat} {T : List DV} {H : Heap} {k : Ex → List DV → Heap → Option α} : l4 L b T H k = (l4 L b T H fun e T H => some (e, T, H)).bind fun p => k p.1 p.2.1 p.2.2 := by
 unfold l4
 split
 ·refine eL fun y => ?_
  refine HG fun e t y => ?_
  simp only
  split <;> rfl
 ·rfl
theorem ta (hc : BS call) {f d : Nat} : ∀ (c : Code) {α : Type} {T : List DV} {H : Heap} {k : Ex → List DV → Heap → Option α}, dS cx (call α) f d c T H k = (dS cx (call zP) f d c T H fun e T H => some (e, T, H)).bind fun p => k p.1 p.2.1 p.2.2 := by
 intro c
 induction c with
 | skip => intros; rfl
 | label l => intros; rfl
 | exit id => intros; rfl
 | goto l => intros; rfl
 | ret => intros; rfl
 | refuse s => intros; rfl
 | rangeFunc _ _ _ _ _ _ => intros; rfl
 | region id ops draw =>
  intro α T H k
  simp only [dS]
  split
  ·split
   ·split
    ·rw [s9 hc, s9 hc (k := fun T H => some (Ex.norm, T, H))]
     exact eL fun p => rfl
    ·rfl
   ·rfl
  ·rw [uW hc, uW hc (k := fun T H => some (Ex.norm, T, H))]
   exact eL fun p => rfl
 | seq x y ihx ihy =>
  intro α T H k
  simp only [dS]
  split
  ·rename_i L hL
   refine HF (B := fun β k => l4 L _ T H k) (fun β k => Eh) fun e T H => ?_
   cases e
   ·exact ihy
   ·rfl
   ·rfl
   ·rfl
  ·refine HF (B := fun β k => dS cx (call β) f d x T H k) (fun β k => ihx) fun e T H => ?_
   cases e
   ·exact ihy
   ·rfl
   ·rfl
   ·rfl
 | cond c x y ihx ihy =>
  intro α T H k
  simp only [dS]
  repeat' split
  all_goals first | rfl | exact ihx | exact ihy
 | block id c ih =>
  intro α T H k
  simp only [dS]
  refine HF (B := fun β k => dS cx (call β) f d c T H k) (fun β k => ih) fun e T H => ?_
  cases e
  ·rfl
  ·simp only
   split <;> rfl
  ·rfl
  ·rfl
 | loop c ih =>
  intro α T H k
  simp only [dS]
  split
  ·exact Eh
  ·exact BT (body := fun β => dS cx (call β) f d c) (fun {β T H k} => ih)
 | scope c ih =>
  intro α T H k
  simp only [dS]
  refine HF (B := fun β k => dS cx (call β) f d c T H k) (fun β k => ih) fun e T H => ?_
  cases e <;> rfl
theorem uY : ∀ {l : List FS} {A : List DV} {H : Heap} {b : Nat} {k : DV → Heap → Option (List Nat) → Option α}, qi l A H b k = (qi l A H b fun v H u => some (v, H, u)).map fun q => q.bind fun e => k e.1 e.2.1 e.2.2
 | [], A, H, b, k => rfl
 | S :: l, A, H, b, k => by
  simp only [qi]
  split
  ·simp only [bJ, ab]
   refine eL fun y => ?_
   split <;> rfl
  ·exact uY
theorem Oz (hc : BS call) {f d : Nat} {A : List DV} {H : Heap} {k : DV → Heap → Option α} : oT cx (call α) f d A H k = (oT cx (call _) f d A H fun v H => some (v, H)).bind fun e => k e.1 e.2 := by
 unfold oT
 split
 ·rename_i fn hf
  split
  ·rename_i c hb
   rw [ta hc]
   conv => rhs; rw [ta hc]
   refine eL fun p => ?_
   obtain ⟨e, T, H⟩ := p
   cases e
   ·simp only; split <;> rfl
   ·rfl
   ·rfl
   ·simp only; split <;> rfl
  ·rfl
 ·rfl
theorem MG (cx : Cx) (n : Nat) : ∀ d : Nat, BS (fun α => fa (α := α) cx n d) := by
 induction n with
 | zero => intro d α g A H k; rfl
 | succ n ih =>
  intro d α g A H k
  simp only [fa]
  split
  ·generalize pq cx g A = tv
   cases tv with
   | some v => rfl
   | none =>
   simp only
   rw [uY, uY (k := fun v H u => some (v, H, u))]
   generalize qi (cx.specs g) A H _ (fun v H u => some (v, H, u)) = z
   cases z with
   | none =>
    simp only [Option.map_none]
    have hb : ∀ {β : Type} {k : DV → Heap → Option β}, oT cx (fa cx n (d + 1)) g d A H k = (oT cx (fa cx n (d + 1)) g d A H fun v H => some (v, H)).bind fun e => k e.1 e.2 := fun {β k} => Oz (call := fun α => fa (α := α) cx n (d + 1)) (ih (d + 1))
    split
    ·rw [hb, hb (k := fun v H => some (v, H, none))]
     exact eL fun p => rfl
    ·rfl
   | some q =>
    simp only [bJ]
  ·rfl
end
section
variable {X R : Type}
def it (s : (X → Option R) → X → Option R) : Nat → X → Option R
 | 0, _ => none
 | n + 1, x => s (it s n) x
def VS (s : (X → Option R) → X → Option R) : Prop := ∀ x, (∃ y, ∀ F, s F x = y) ∨ ∃ x', ∀ F, s F x = F x'
end
def HH : Ex → Ex → Bool
 | .norm, .norm => true
 | .exit i, .exit j => i == j
 | .goto i, .goto j => i == j
 | .ret, .ret => true
 | _, _ => false
theorem KE : ∀ {a b : Ex}, HH a b = true → a = b
 | .norm, .norm, _ => rfl
 | .exit i, .exit j, h => by simp only [HH, ag] at h; rw [h]
 | .goto i, .goto j, h => by simp only [HH, ag] at h; rw [h]
 | .ret, .ret, _ => rfl
def nI {R : Type} (n : Nat) (e : Ex) (T : List DV) (H : Heap) : (os : List (Ex × Tmpl)) → (qe os → R) → Option R
 | [], _ => none
 | [o], g => if HH o.1 e = true then match o.2.pr (lW n) T H with | some (y, _) => some (g y) | none => none else none
 | o :: p :: r, g => if HH o.1 e = true then match o.2.pr (lW n) T H with | some (y, _) => some (g (.inl y)) | none => nI n e T H (p :: r) (fun y => g (.inr y)) else nI n e T H (p :: r) (fun y => g (.inr y))
def uZ (L : Loop) (F : L.X → Option L.R) : Ex → List DV → Heap → Option L.R := fun e T H => match e with
 | .norm => match L.tin.pr (lW L.tin.os.length) T H with | some (y, _) => F (L.back y) | none => none
 | e => nI L.tin.os.length e T H L.outs L.inn
theorem mb {R : Type} {n : Nat} {e : Ex} {T : List DV} {H : Heap} : ∀ {os : List (Ex × Tmpl)} {g : qe os → R} {y : R}, nI n e T H os g = some y → ∃ (t : Tmpl) (z : t.Ty) (m : Met) (o : qe os), t.pr (lW n) T H = some (z, m) ∧ y = g o ∧ ∀ {β : Type} (K : Ex → (t : Tmpl) → t.Ty → Option β), qZ os o K = K e t z
 | [], g, y, h => by cases h
 | [o], g, y, h => by
  simp only [nI] at h
  split at h
  ·rename_i he
   split at h
   ·rename_i z m hz
    simp only [ab] at h
    exact ⟨o.2, z, m, z, hz, h.symm, fun K => by simp only [qZ]; rw [KE he]⟩
   ·cases h
  ·cases h
 | o :: p :: r, g, y, h => by
  simp only [nI] at h
  split at h
  ·rename_i he
   split at h
   ·rename_i z m hz
    simp only [ab] at h
    exact ⟨o.2, z, m, .inl z, hz, h.symm, fun K => by simp only [qZ]; rw [KE he]⟩
   ·obtain ⟨t, z, m, q, h1, h2, h3⟩ := mb h
    exact ⟨t, z, m, .inr q, h1, h2, fun K => by simp only [qZ]; exact h3 K⟩
  ·obtain ⟨t, z, m, q, h1, h2, h3⟩ := mb h
   exact ⟨t, z, m, .inr q, h1, h2, fun K => by simp only [qZ]; exact h3 K⟩
def RoundEq (cx : Cx) (fuel f d : Nat) (L : Loop) (c : Code) (step : (L.X → Option L.R) → L.X → Option L.R) : Prop :=
 ∀ F x, dS cx (fa cx fuel (d + 1)) f d c (L.tin.T dH (L.into x)) (L.tin.H dH (L.into x) fun _ => none) (uZ L F) = step F x
theorem RoundEq.one {cx : Cx} {fuel f d : Nat} {L : Loop} {c : Code} {step : (L.X → Option L.R) → L.X → Option L.R} (h : RoundEq cx fuel f d L c step) : VS step := by
 intro x
 have hn : ∀ F, step F x = _ := fun F => (h F x).symm.trans (ta (call := fun α => fa (α := α) cx fuel (d + 1)) (MG cx fuel (d + 1)) c)
 cases hz : dS cx (fa cx fuel (d + 1)) f d c (L.tin.T dH (L.into x)) (L.tin.H dH (L.into x) fun _ => none) (fun e T H => some (e, T, H)) with
 | none => exact .inl ⟨none, fun F => by rw [hn F, hz]; rfl⟩
 | some p =>
  obtain ⟨e, T, H⟩ := p
  cases e with
  | norm =>
   cases hp : L.tin.pr (lW L.tin.os.length) T H with
   | none => exact .inl ⟨none, fun F => by rw [hn F, hz]; simp only [ae, uZ, hp]⟩
   | some q => exact .inr ⟨L.back q.1, fun F => by rw [hn F, hz]; simp only [ae, uZ, hp]⟩
  | exit i => exact .inl ⟨_, fun F => by rw [hn F, hz]; rfl⟩
  | goto i => exact .inl ⟨_, fun F => by rw [hn F, hz]; rfl⟩
  | ret => exact .inl ⟨_, fun F => by rw [hn F, hz]; rfl⟩
def In.dels (I : In) (l : List Nat) : In := ⟨fun m => if m ∈ l then none else I.ι m, I.R⟩
theorem HR.del {I : In} {w : World} {H : Heap} (hH : HR I w H) {n sz : Nat} {v : Value} (hn : I.ι n = some (.row sz v)) : HR (I.dels [n]) w (H.sub n .none) := by
 have hi : ∀ m, m ≠ n → (I.dels [n]).ι m = I.ι m := fun m hm => by simp [In.dels, hm]
 have h0 : (I.dels [n]).ι n = none := by simp [In.dels]
 have hb : But n .none I (I.dels [n]) w w := by
  refine ⟨⟨fun _ h => h, fun _ _ => rfl⟩, fun m b h => ?_, fun m sz v hm h => by rw [hi m hm]; exact h, fun s xs h => by cases h⟩
  rw [hi]
  ·exact h
  ·rintro rfl; rw [hn] at h; cases h
 refine HR.of (fun m b hm => ?_) (fun m hm => ?_) (fun m e b hm he => ?_) (fun m m' e e' b hm hm' he he' => ?_) (fun b hR => hH.rlt b hR)
 ·simp only [Heap.sub] at hm
  split at hm
  ·cases hm
  ·rename_i hmn
   split at hm
   ·rename_i b0 hb0
    simp only [ab] at hm
    subst hm
    cases b0 with
    | obj cs0 =>
     obtain ⟨b, c, t, k1, k2, k3⟩ := hH.obj m cs0 hb0
     exact ⟨b, c, t, hb.obj _ _ k1, k2, CR.sub hb k3⟩
    | row E' s' xs' =>
     obtain ⟨u, cs', k1, k2, k3⟩ := hH.row m E' s' xs' hb0
     exact ⟨u, cs', hb.row _ _ _ hmn k1, k2, Sh.K_keep hb.keeps k3⟩
    | mp ks vs => exact MR.sub hb (hH.mp m ks vs hb0) (fun _ _ => rfl)
   ·cases hm
 ·by_cases hmn : m = n
  ·subst hmn; exact h0
  ·rw [hi m hmn]
   simp only [Heap.sub, hmn, ax] at hm
   split at hm
   ·cases hm
   ·rename_i hb0
    exact hH.dom m hb0
 ·by_cases hmn : m = n
  ·subst hmn; rw [h0] at hm; cases hm
  ·rw [hi m hmn] at hm
   exact hH.lt m e b hm he
 ·by_cases hmn : m = n
  ·subst hmn; rw [h0] at hm; cases hm
  ·by_cases hmn' : m' = n
   ·subst hmn'; rw [h0] at hm'; cases hm'
   ·rw [hi m hmn] at hm
    rw [hi m' hmn'] at hm'
    exact hH.inj m m' e e' b hm hm' he he'
theorem HR.dels : ∀ {l : List Nat} {I : In} {w : World} {H : Heap}, HR I w H → l.Nodup → (∀ n ∈ l, ∃ sz v, I.ι n = some (.row sz v)) → HR (I.dels l) w (dq l H)
 | [], I, w, H, hH, _, _ => by
  have : I.dels [] = I := by simp [In.dels]
  rw [this]
  exact hH
 | n :: l, I, w, H, hH, hd, hr => by
  obtain ⟨sz, v, hn⟩ := hr n (aB ..)
  rw [bN] at hd
  have h1 := HR.dels (l := l) (hH.del hn) hd.2 fun m hm => by
   obtain ⟨sz, v, h⟩ := hr m (ay _ hm)
   have : m ≠ n := by rintro rfl; exact hd.1 hm
   exact ⟨sz, v, by simp [In.dels, this, h]⟩
  have : (I.dels [n]).dels l = I.dels (n :: l) := by
   unfold In.dels
   simp only [aA, List.not_mem_nil, or_false, In.mk.injEq, ba]
   funext m
   by_cases h1 : m ∈ l <;> by_cases h2 : m = n <;> simp [h1, h2]
  rw [this] at h1
  exact h1
theorem gD (ρ : Nam) : ∀ (ks : List IK) (c : Nat) (x : jp ks), (mW ρ c ks x).length = ks.length
 | [], _, _ => rfl
 | .any :: r, c, x => congrArg (· + 1) (gD ρ r (c + 1) x)
 | .val _ :: r, c, x => congrArg (· + 1) (gD ρ r (c + 1) x.2)
 | .row _ _ :: r, c, x => congrArg (· + 1) (gD ρ r (c + 1) x.2)
 | .agf _ _ :: r, c, x => congrArg (· + 1) (gD ρ r (c + 1) x.2)
 | .obj _ :: r, c, x => congrArg (· + 1) (gD ρ r (c + 1) x)
 | .clo _ _ :: r, c, x => congrArg (· + 1) (gD ρ r (c + 1) x)
 | .tab _ _ :: r, c, x => congrArg (· + 1) (gD ρ r (c + 1) x)
theorem VT {t : Tmpl} {ρ : Nam} {i : Nat} (h : i < t.os.length) : ρ.o i ∈ t.names ρ := by
 have : ∀ (os : List (List IK)) (j i : Nat), i < os.length → ρ.o (j + i) ∈ gh ρ j os := by
  intro os
  induction os with
  | nil => intro j i h; simp at h
  | cons k r ih =>
   intro j i h
   cases i with
   | zero => simp [gh]
   | succ i =>
    simp only [gh, aA, az]
    exact .inr (.inr (by rw [show j + (i + 1) = j + 1 + i by omega]; exact ih (j + 1) i (by simpa using h)))
 have := this t.os 0 i h
 rw [bV] at this
 exact bK _ this
theorem WG {t : Tmpl} {m0 m : Met} {I : In} {w : World} {H : Heap} {x : t.Ty} {T : List DV} {vals : Nat → Value} (hH : HR I w H) (h : t.pr m0 T H = some (x, m)) (hV : ∀ i, VR I w (T.getD i .undef) (vals i)) : m0.σ ⊆ m.σ ∧ (∀ e ∈ m.σ, e.1 < t.os.length) ∧ (m.σ.map (·.1)).Nodup := by
 unfold Tmpl.pr at h
 split at h
 ·rename_i x1 m1 h1
  split at h
  ·rename_i y m2 h2
   split at h
   ·rename_i hc
    simp only [ab, ah] at h
    obtain ⟨rfl, rfl⟩ := h
    simp only [ao, aL, aw] at hc
    obtain ⟨es, g1, _⟩ := ma (ρ := dH) (c := 0) hH h1 hV
    obtain ⟨es', k1, _⟩ := HE (ρ := dH) hH h2
    exact ⟨fun e he => (g1.trans k1).σ e he, hc.2, nV hc.1.2⟩
   ·cases h
  ·cases h
 ·cases h
theorem Ei {n i : Nat} (h : i < n) : (i, i) ∈ (lW n).σ := by
 unfold lW
 exact List.mem_map.2 ⟨i, by simpa using h, rfl⟩
theorem zQ {H : Heap} {b : Nat} {m : Met} {i n : Nat} (hk : (m.σ.map (·.1)).Nodup) (h : (i, n) ∈ m.σ) : (jt H b m).o i = n := by
 have : m.get i = some n := by
  unfold Met.get
  cases hf : m.σ.find? (fun e => e.1 == i) with
  | none => exact absurd (List.find?_eq_none.1 hf (i, n) h) (by simp)
  | some p =>
   have hp := cb hf
   have hpm := cc hf
   simp only [ag] at hp
   have := fw hk hpm h hp
   rw [this]
   rfl
 simp only [jt, this]
theorem rH {I I0 I2 : In} {w w2 : World} {H H2 : Heap} {tin t : Tmpl} {x : tin.Ty} {z : t.Ty} {m m1 : Met} {v0 vals : Nat → Value} {T2 : List DV} {ρ : Nam} (hH : HR I w H) (h0 : Lay I ⟨fun _ => none, I.R⟩ I0 w tin dH x m v0 (fun _ => none)) (he : Ext I0 w I2 w2) (hH2 : HR I2 w2 H2) (hpr : t.pr (lW tin.os.length) T2 H2 = some (z, m1)) (hV : ∀ i, VR I2 w2 (T2.getD i .undef) (vals i))
  (hρ : ∀ i n, (i, n) ∈ m.σ → ρ.o i = n) (hfree : t.free ρ ((dq m.u H).away m) = true) :
  ∃ I4, HR I4 w2 (t.H ρ z ((dq m.u H).away m)) ∧ (∀ i, VR I4 w2 ((t.T ρ z).getD i .undef) (vals i)) ∧ Ext I w I4 w2 ∧ (∀ n sz v, n ∉ m.u → I.ι n = some (.row sz v) → I4.ι n = some (.row sz v)) ∧ t.ks.length ≤ T2.length := by
 obtain ⟨p1, p2, p3⟩ := WG hH2 hpr hV
 have hu0 := (List.nodup_append.1 h0.nd).1
 have hd := hH.dels hu0 h0.rows
 -- what has a name within has one around
 have nm : ∀ n e g, I0.ι n = some e → e.blk = some g → ∃ n' e', I.ι n' = some e' ∧ e'.blk = some g ∧ (n' ∈ m.u ∨ n' ∈ m.σ.map (·.2)) := by
  intro n e g hn hg
  by_cases hm : n ∈ tin.names dH
  ·exact h0.old n e g hm hn hg
  ·rw [h0.out n hm] at hn
   cases hn
 have dl : ∀ n e, (I.dels m.u).ι n = some e → I.ι n = some e ∧ n ∉ m.u := by
  intro n e hn
  simp only [In.dels] at hn
  split at hn
  ·cases hn
  ·rename_i hnu
   exact ⟨hn, hnu⟩
 have ob : ∀ i n, (i, n) ∈ m.σ → i < tin.os.length ∧ i < t.os.length ∧ (i, i) ∈ m1.σ ∧ ρ.o i = n ∧ ∃ q, I.ι n = some (.obj q) ∧ I2.ι i = some (.obj q) := by
  intro i n hin
  have hi := h0.met _ hin
  have hii := p1 (Ei hi)
  refine ⟨hi, p2 _ hii, hii, hρ i n hin, ?_⟩
  obtain ⟨n', q, e1, e2, e3⟩ := h0.obj i hi
  have : (i, n') = (i, n) := fw h0.key e1 hin rfl
  simp only [ah, true_and] at this
  subst this
  exact ⟨q, e2, he.obj _ _ e3⟩
 have away : ∀ n q, ((dq m.u H).away m) n = some q → (dq m.u H) n = some q ∧ n ∉ m.σ.map (·.2) := by
  intro n q hn
  simp only [Heap.away] at hn
  split at hn
  ·cases hn
  ·rename_i hs
   refine ⟨hn, fun hm => hs ?_⟩
   obtain ⟨e, e1, e2⟩ := List.mem_map.1 hm
   exact List.any_eq_true.2 ⟨e, e1, by simpa using e2⟩
 have awayN : ∀ n, ((dq m.u H).away m) n = none → (dq m.u H) n = none ∨ ∃ i, (i, n) ∈ m.σ := by
  intro n hn
  simp only [Heap.away] at hn
  split at hn
  ·rename_i hs
   obtain ⟨e, e1, e2⟩ := List.any_eq_true.1 hs
   simp only [ag] at e2
   exact .inr ⟨e.1, by rw [← e2]; exact e1⟩
  ·exact .inl hn
 have hnone : ∀ n, n ∈ t.names ρ → ((dq m.u H).away m) n = none := by
  unfold Tmpl.free at hfree
  simp only [ao, aL, Option.isNone_iff_eq_none] at hfree
  exact hfree.2
 have apart : ∀ n e g, (I.dels m.u).ι n = some e → e.blk = some g → n ∉ m.σ.map (·.2) → ∀ n' e', I0.ι n' = some e' → e'.blk ≠ some g := by
  intro n e g hn hg hns n' e' hn' hg'
  obtain ⟨n2, e2, k1, k2, k3⟩ := nm n' e' g hn' hg'
  obtain ⟨d1, d2⟩ := dl n e hn
  have := hH.inj n n2 e e2 g d1 k1 hg k2
  subst this
  rcases k3 with k3 | k3
  ·exact d2 k3
  ·exact hns k3
 have nsig : ∀ n, n ∉ t.names ρ → n ∉ m.σ.map (·.2) := by
  intro n hn hm
  obtain ⟨⟨i, n'⟩, e1, e2⟩ := List.mem_map.1 hm
  simp only at e2
  subst e2
  obtain ⟨_, i2, _, i4, _⟩ := ob i n' e1
  exact hn (i4 ▸ VT i2)
 have hbase : Base I2 (I.dels m.u) w2 t ρ m1 ((dq m.u H).away m) := by
  refine ⟨fun n q hq => ?_, fun n hn hm => ?_, fun n e hm hn => ?_, fun n e g hm hn hg => ?_, fun n n' e e' g _ _ hn hn' hg hg' => hd.inj n n' e e' g hn hn' hg hg', fun g hg => he.ro g (by rw [h0.R]; exact hg), fun n e n' e' g hm hn hn' _ hg hg' => ?_⟩
  ·obtain ⟨h1, h2⟩ := away n q hq
   have hs : Same (I.dels m.u) (I.dels m.u) w w2 := by
    refine ⟨⟨fun _ h => h, fun g hg => he.same g (hH.rlt g hg) fun n' e' hn' hg' => ?_⟩, fun _ _ h => h, fun _ _ _ h => h⟩
    obtain ⟨n2, e2, k1, k2, _⟩ := nm n' e' g hn' hg'
    exact (hH.lt n2 e2 g k1 k2).2 hg
   exact (hd.br h1).keep hs fun e g hn hg => he.same g (hd.lt n e g hn hg).1 (apart n e g hn hg h2)
  ·rcases awayN n hn with h1 | ⟨i, h1⟩
   ·exact hd.dom n h1
   ·exact absurd (bk (f := (·.2)) h1) (nsig n hm)
  ·rcases awayN n (hnone n hm) with h1 | ⟨i, h1⟩
   ·rw [hd.dom n h1] at hn; cases hn
   ·obtain ⟨_, _, i3, i4, q, i5, i6⟩ := ob i n h1
    refine ⟨i, i, i3, i4.symm, ?_⟩
    rw [(dl n e hn).1] at i5
    rw [i5]
    exact i6
  ·have h1 := hd.lt n e g hn hg
   refine ⟨bB h1.1 he.size, fun hR => ?_⟩
   rcases he.newR g hR with h2 | ⟨n', e', h2, h3⟩ | h2
   ·rw [h0.R] at h2
    exact h1.2 h2
   ·exact apart n e g hn hg (nsig n hm) n' e' h2 h3
   ·omega
  ·have h1 := hd.lt n e g hn hg
   rcases he.own n' e' g hn' hg' with ⟨n2, e2, h2, h3⟩ | h2
   ·exact apart n e g hn hg (nsig n hm) n2 e2 h2 h3
   ·omega
 obtain ⟨⟨I4, hl⟩, hlen, _⟩ := nW hH2 rfl hpr hV hbase hfree
 have keep : ∀ n e, n ∉ m.u → I.ι n = some e → I4.ι n = some e := fun n e hn h => hl.same n e (by simp only [In.dels, hn, ax]; exact h)
 refine ⟨I4, hl.hr, hl.val, ⟨fun n g hn => ?_, fun g hg => ?_, fun g hg hn => ?_, fun n e g hn hg => ?_, fun g hg => ?_, he.size, he.os, he.tape, he.output⟩, fun n sz v hn h => keep n _ hn h, hlen⟩
 ·refine keep n _ (fun hu => ?_) hn
  obtain ⟨sz, v, h1⟩ := h0.rows n hu
  rw [hn] at h1
  cases h1
 ·rw [hl.R]
  exact he.ro g (by rw [h0.R]; exact hg)
 ·refine he.same g hg fun n e hn' he' => ?_
  obtain ⟨n2, e2, k1, k2, _⟩ := nm n e g hn' he'
  exact hn n2 e2 k1 k2
 ·have within : ∀ n' e', I2.ι n' = some e' → e'.blk = some g → (∃ m e', I.ι m = some e' ∧ e'.blk = some g) ∨ w.heap.size ≤ g := by
   intro n' e' h1 h2
   rcases he.own n' e' g h1 h2 with ⟨n2, e2, h3, h4⟩ | h3
   ·obtain ⟨n3, e3, k1, k2, _⟩ := nm n2 e2 g h3 h4
    exact .inl ⟨n3, e3, k1, k2⟩
   ·exact .inr h3
  by_cases hm : n ∈ t.names ρ
  ·obtain ⟨n', e', h1, h2, _⟩ := hl.old n e g hm hn hg
   exact within n' e' h1 h2
  ·rw [hl.out n hm] at hn
   exact .inl ⟨n, e, (dl n e hn).1, hg⟩
 ·rw [hl.R] at hg
  rcases he.newR g hg with h1 | ⟨n, e, h1, h2⟩ | h1
  ·rw [h0.R] at h1
   exact .inl h1
  ·obtain ⟨n3, e3, k1, k2, _⟩ := nm n e g h1 h2
   exact .inr (.inl ⟨n3, e3, k1, k2⟩)
  ·exact .inr (.inr h1)
theorem KF {I0 I1 I2 : In} {w w1 : World} {t : Tmpl} {x z : t.Ty} {m0 m : Met} {v0 vals : Nat → Value} {I : In} (h0 : Lay I ⟨fun _ => none, I.R⟩ I0 w t dH x m0 v0 (fun _ => none)) (he : Ext I0 w I1 w1) (hl : Lay I1 ⟨fun _ => none, I1.R⟩ I2 w1 t dH z m vals (fun _ => none)) (hm : (lW t.os.length).σ ⊆ m.σ) : Ext I0 w I2 w1 := by
 refine ⟨fun n b hn => ?_, fun g hg => by rw [hl.R]; exact he.ro g hg, he.same, fun n e g hn hg => ?_, fun g hg => by rw [hl.R] at hg; exact he.newR g hg, he.size, he.os, he.tape, he.output⟩
 ·by_cases hnm : n ∈ t.names dH
  ·rcases h0.row n _ hnm hn with ⟨b', e1, i, hi, hni⟩ | ⟨sz, v, e1⟩
   ·have hni' : n = i := hni
    subst hni'
    have h1 := he.obj _ _ hn
    obtain ⟨n', b2, e2, e3, e4⟩ := hl.obj n hi
    have : (n, n') = (n, n) := fw hl.key e2 (hm (Ei hi)) rfl
    simp only [ah, true_and] at this
    subst this
    rw [h1] at e3
    simp only [ab, Ent.obj.injEq] at e3
    subst e3
    exact e4
   ·cases e1
  ·rw [h0.out n hnm] at hn
   cases hn
 ·by_cases hnm : n ∈ t.names dH
  ·obtain ⟨n', e', h1, h2, _⟩ := hl.old n e g hnm hn hg
   exact he.own n' e' g h1 h2
  ·rw [hl.out n hnm] at hn
   cases hn
theorem iF {I2 : In} {w : World} {t : Tmpl} {x : t.Ty} {ρ : Nam} {a : Act} (hv : ∀ i, VR I2 w ((t.T ρ x).getD i .undef) (a.tmps.getD i undef)) (hl : t.ks.length ≤ a.tmps.size) (hd : a.defers = []) : TR I2 w (t.T ρ x) a :=
 ⟨by unfold Tmpl.T; rw [gD]; exact hl, hv, hd⟩
theorem WH {cx : Cx} {fuel f d : Nat} {L : Loop} {c : Code} {step : (L.X → Option L.R) → L.X → Option L.R} (hg : Good cx) (hsub : ∀ id L', cx.loops f id = some L' → ∀ c', (id, c') ∈ eg c → jx cx.P L' c') (heq : RoundEq cx fuel f d L c step) (hfn : ∀ x y, L.fn x = some y → ∃ n, it step n x = some y) (hib : ∀ y, L.into (L.back y) = y) (hoi : ∀ o, L.out (L.inn o) = o)
  (hnam : L.tin.free dH (fun _ => none) = true) : jx cx.P L (.loop c) := by
 intro α I w T a H b k r hT hH h
 unfold l4 at h
 split at h
 ·rename_i x m hx
  obtain ⟨y, hy, hout⟩ := Option.bind_eq_some_iff.1 h
  obtain ⟨n, hn⟩ := hfn _ _ hy
  obtain ⟨⟨I0, hL0⟩, hlen, _⟩ := nW (ρ := dH) hH rfl hx hT.val (li I w L.tin dH m) hnam
  refine uT (n := n) (fun n a' w' => ∃ I' X, Ext I0 w I' w' ∧ HR I' w' (L.tin.H dH (L.into X) fun _ => none) ∧ TR I' w' (L.tin.T dH (L.into X)) a' ∧ it step n X = some y) ?_ ?_ ?_
  ·refine ⟨I0, L.back x, Ext.refl I0 w, by rw [hib]; exact hL0.hr, ?_, hn⟩
   rw [hib]
   exact iF hL0.val (aK hlen hT.len) hT.df
  ·rintro a w ⟨I', X, _, _, _, h⟩
   cases h
  ·rintro n a1 w1 ⟨I1, X, he1, hH1, hT1, h1⟩
   have h2 := (heq (it step n) X).trans h1
   refine Code.wp_mono ?_ (lD hg (lE hg fuel (d + 1)) c hsub hT1 hH1 h2)
   rintro e a2 w2 ⟨I2, T2, H2, ex, hex, he2, hH2, hT2, h3⟩
   have he := he1.trans he2
   have out : nI L.tin.os.length ex T2 H2 L.outs L.inn = some y → PostC I w k r e a2 w2 := by
    intro hxk
    obtain ⟨t, z, m1, o, hz, hyo, hK⟩ := mb hxk
    rw [hyo, hoi, hK] at hout
    simp only at hout
    split at hout
    ·rename_i hfree
     obtain ⟨I4, g1, g2, g3, _, g4⟩ := rH hH hL0 he hH2 hz hT2.val (fun i n hin => zQ hL0.key hin) hfree
     exact ⟨I4, _, _, ex, hex, g3, g1, iF g2 (aK g4 hT2.len) hT2.df, hout⟩
    ·cases hout
   cases ex with
   | norm =>
    cases e <;> first | exact hex.elim | skip
    simp only [uZ] at h3
    split at h3
    ·rename_i z m1 hz
     obtain ⟨⟨I3, hL3⟩, hlen3, hm3⟩ := nW (ρ := dH) hH2 rfl hz hT2.val (li I2 w2 L.tin dH m1) hnam
     refine ⟨I3, L.back z, KF hL0 he hL3 hm3, by rw [hib]; exact hL3.hr, ?_, h3⟩
     rw [hib]
     exact iF hL3.val (aK hlen3 hT2.len) hT2.df
    ·cases h3
   | exit i =>
    have := out h3
    cases e <;> first | exact hex.elim | exact this
   | goto i =>
    have := out h3
    cases e <;> first | exact hex.elim | exact this
   | ret =>
    have := out h3
    cases e <;> first | exact hex.elim | exact this
 ·cases h
def Vs (L : Loop) : Ex → List DV → Heap → Option L.R := fun e T H => nI L.tin.os.length e T H L.outs L.inn
theorem WI {cx : Cx} {fuel f d : Nat} {L : Loop} {c : Code} (hg : Good cx) (hsub : ∀ id L', cx.loops f id = some L' → ∀ c', (id, c') ∈ eg c → jx cx.P L' c') (heq : ∀ x, dS cx (fa cx fuel (d + 1)) f d c (L.tin.T dH (L.into x)) (L.tin.H dH (L.into x) fun _ => none) (Vs L) = L.fn x) (hib : ∀ y, L.into (L.back y) = y) (hoi : ∀ o, L.out (L.inn o) = o)
  (hnam : L.tin.free dH (fun _ => none) = true) : jx cx.P L c := by
 intro α I w T a H b k r hT hH h
 unfold l4 at h
 split at h
 ·rename_i x m hx
  obtain ⟨y, hy, hout⟩ := Option.bind_eq_some_iff.1 h
  obtain ⟨⟨I0, hL0⟩, hlen, _⟩ := nW (ρ := dH) hH rfl hx hT.val (li I w L.tin dH m) hnam
  have hT1 : TR I0 w (L.tin.T dH (L.into (L.back x))) a := by
   rw [hib]
   exact iF hL0.val (aK hlen hT.len) hT.df
  have hH1 : HR I0 w (L.tin.H dH (L.into (L.back x)) fun _ => none) := by rw [hib]; exact hL0.hr
  refine Code.wp_mono ?_ (lD hg (lE hg fuel (d + 1)) c hsub hT1 hH1 ((heq _).trans hy))
  rintro e a2 w2 ⟨I2, T2, H2, ex, hex, he, hH2, hT2, hxk⟩
  obtain ⟨t, z, m1, o, hz, hyo, hK⟩ := mb hxk
  rw [hyo, hoi, hK] at hout
  simp only at hout
  split at hout
  ·rename_i hfree
   obtain ⟨I4, g1, g2, g3, _, g4⟩ := rH hH hL0 he hH2 hz hT2.val (fun i n hin => zQ hL0.key hin) hfree
   exact ⟨I4, _, _, ex, hex, g3, g1, iF g2 (aK g4 hT2.len) hT2.df, hout⟩
  ·cases hout
 ·cases h
def MH : Nat → DV → Option (List DV)
 | 1, v => some [v]
 | n, .tup l => if l.length = n then some l else none
 | _, _ => none
def MI (S : FS) : DV → Heap → Option S.R := fun v H => match MH S.tout.ks.length v with
 | some l => match (if sK S.tout.ks = true then nQ l [] H else (l, [], H)) with
  | (l, _, H) => match S.tout.pr (lW S.tin.os.length) l H with
   | some (z, _) => some (S.inn z)
   | none => none
 | none => none
def de (cx : Cx) (fuel f d : Nat) (S : FS) : Prop := ∀ x, oT cx (fa cx fuel (d + 1)) f d (S.tin.T dH x) (S.tin.H dH x fun _ => none) (MI S) = S.fn x
theorem HI {I : In} {w : World} {n : Nat} {v : DV} {u : Value} {l : List DV} (hv : VR I w v u) (h : MH n v = some l) : ∃ us : List Value, us.length = n ∧ LR I w l us ∧ (∀ {I' : In} {l' : List DV}, LR I' w l' us → VR I' w (iK l') u) := by
 unfold MH at h
 split at h
 ·simp only [ab] at h
  subst h
  refine ⟨[u], rfl, .cons _ _ _ _ hv .nil, fun {I' l'} hl => ?_⟩
  cases hl with | cons d r _ _ hd hr => cases hr; exact hd
 ·rename_i l0 hn
  split at h
  ·rename_i hlen
   simp only [ab] at h
   subst h
   cases hv with | tup _ vs hl =>
   refine ⟨vs.toList, by rw [← hlen, hl.length], hl, fun {I' l'} hl' => ?_⟩
   have h1 := hl'.length
   have h2 := hl.length
   cases l' with
   | nil => exact .tup _ vs hl'
   | cons d r => cases r with
    | nil =>
     exfalso
     apply hn
     rw [← hlen, h2, ← h1]
     rfl
    | cons d' r' => exact .tup _ vs hl'
  ·cases h
 ·cases h
theorem LR.of {I : In} {w : World} : ∀ {l : List DV} {us : List Value}, l.length = us.length → (∀ i, VR I w (l.getD i .undef) (us.getD i undef)) → LR I w l us
 | [], [], _, _ => .nil
 | [], u :: us, h, _ => by simp at h
 | d :: l, [], h, _ => by simp at h
 | d :: l, u :: us, h, hv => .cons _ _ _ _ (hv 0) (LR.of (by simpa using h) (fun i => by simpa using hv (i + 1)))
theorem BU {cx : Cx} {fuel f d : Nat} {S : FS} (hg : Good cx) (heq : de cx fuel f d S) (hoi : ∀ o, S.out (S.inn o) = o) (hnam : S.tin.free dH (fun _ => none) = true) : iU cx.P f S := by
 intro α I w H A args ρ k r x m hH hA hx hρ h
 obtain ⟨y, hy, hk⟩ := Option.bind_eq_some_iff.1 h
 obtain ⟨⟨I0, hL0⟩, hlen, _⟩ := nW (ρ := dH) hH rfl hx (vals := fun i => args.getD i undef) (fun i => hA.getD i) (li I w S.tin dH m) hnam
 have hle : (S.tin.T dH x).length ≤ args.length := by
  unfold Tmpl.T
  rw [gD, ← hA.length]
  exact hlen
 have hb := (heq x).trans hy
 refine Calls.mono (HD hg (lE hg fuel (d + 1)) hL0.hr hle hL0.val hb) ?_
 rintro e w' he
 cases e with
 | returned z =>
  obtain ⟨I', v, H', h1, h2, h3, h4⟩ := he
  unfold MI at h1
  split at h1
  ·rename_i l hl
   split at h1
   rename_i A1 T1 H1 hs
   obtain ⟨us, u1, u2', u3⟩ := HI h4 hl
   obtain ⟨I1, h3', h2', u2⟩ : ∃ I1, HR I1 w' H1 ∧ Ext I' w' I1 w' ∧ LR I1 w' A1 us := by
    split at hs
    ·obtain ⟨I1, q1, q2, _, q4⟩ := lh (a := ⟨#[], []⟩) h3 ⟨aq _, fun i => .undef _, rfl⟩ u2' hs
     exact ⟨I1, q1, q2, q4⟩
    ·simp only [ah] at hs
     obtain ⟨rfl, rfl, rfl⟩ := hs
     exact ⟨I', h3, Ext.refl _ _, u2'⟩
   split at h1
   ·rename_i zz m1 hz
    simp only [ab] at h1
    rw [← h1, hoi] at hk
    split at hk
    ·rename_i hfree
     obtain ⟨I4, g1, g2, g3, g4, g5⟩ := rH hH hL0 (h2.trans h2') h3' hz (vals := fun i => us.getD i undef) (fun i => u2.getD i) hρ hfree
     refine ⟨I4, _, _, _, hk, g3, g1, u3 (LR.of ?_ g2), fun l hl n sz v hn hi => ?_⟩
     ·unfold Tmpl.T
      rw [gD, u1]
     ·simp only [ab] at hl
      subst hl
      exact g4 n sz v hn hi
    ·cases hk
   ·cases h1
  ·cases h1
 | _ => exact he.elim
theorem pz : ∀ {ks : List IK} {H : Heap} {T : List DV} {m m' : Met} {x : jp ks}, sK ks = true → eC H ks T m = some (x, m') → m' = m ∧ ∀ H', eC H' ks T m = some (x, m)
 | [], H, T, m, m', x, hp, h => by
  cases T with
  | cons d r => simp only [eC] at h; cases h
  | nil =>
  simp only [eC, ab, ah] at h
  exact ⟨h.2.symm, fun H' => rfl⟩
 | .any :: r, H, T, m, m', x, hp, h => by
  simp only [eC] at h ⊢
  split at h
  ·exact pz hp h
  ·cases h
 | .val s :: r, H, T, m, m', x, hp, h => by
  simp only [eC] at h ⊢
  split at h
  ·split at h
   ·rename_i y hy
    split at h
    ·rename_i z m1 hz
     simp only [ab, ah] at h
     obtain ⟨rfl, rfl⟩ := h
     obtain ⟨h1, h2⟩ := pz (ks := r) hp hz
     exact ⟨h1, fun H' => by simp only [hy, h2 H']⟩
    ·cases h
   ·cases h
  ·cases h
 | .agf s F :: r, H, T, m, m', x, hp, h => by
  simp only [eC] at h ⊢
  split at h
  ·split at h
   ·rename_i y F' hy
    split at h
    ·rename_i hF
     split at h
     ·rename_i z m1 hz
      simp only [ab, ah] at h
      obtain ⟨rfl, rfl⟩ := h
      obtain ⟨h1, h2⟩ := pz (ks := r) hp hz
      exact ⟨h1, fun H' => by simp only [hy, hF, if_true, h2 H']⟩
     ·cases h
    ·cases h
   ·cases h
  ·cases h
 | .row E s :: r, H, T, m, m', x, hp, h => by cases hp
 | .obj i :: r, H, T, m, m', x, hp, h => by cases hp
 | .clo F [] :: r, H, T, m, m', x, hp, h => by
  simp only [eC] at h ⊢
  split at h
  ·split at h
   ·rename_i hF
    split at h
    ·rename_i m1 hm
     have hm' := hm
     simp only [uw] at hm
     split at hm
     ·simp only [ab] at hm
      subst hm
      obtain ⟨h1, h2⟩ := pz (ks := r) hp h
      exact ⟨h1, fun H' => by simp only [hF, if_true, hm', h2 H']⟩
     ·cases hm
    ·cases h
   ·cases h
  ·cases h
 | .clo F (i :: is) :: r, H, T, m, m', x, hp, h => by cases hp
 | .tab ks vs :: r, H, T, m, m', x, hp, h => by cases h
theorem nj {ρ ρ' : Nam} : ∀ {ks : List IK} {c c' : Nat} {x : jp ks}, sK ks = true → mW ρ c ks x = mW ρ' c' ks x
 | [], _, _, _, _ => rfl
 | .any :: r, c, c', x, hp => by simp only [mW]; rw [nj (ρ' := ρ') (c' := c' + 1) (ks := r) hp]
 | .val s :: r, c, c', x, hp => by simp only [mW]; rw [nj (ρ' := ρ') (c' := c' + 1) (ks := r) hp]
 | .agf s F :: r, c, c', x, hp => by simp only [mW]; rw [nj (ρ' := ρ') (c' := c' + 1) (ks := r) hp]
 | .row E s :: r, c, c', x, hp => by cases hp
 | .obj i :: r, c, c', x, hp => by cases hp
 | .clo F [] :: r, c, c', x, hp => by simp only [mW]; rw [nj (ρ' := ρ') (c' := c' + 1) (ks := r) hp]; rfl
 | .clo F (i :: is) :: r, c, c', x, hp => by cases hp
 | .tab _ _ :: r, c, c', x, hp => by simp only [mW]; rw [nj (ρ' := ρ') (c' := c' + 1) (ks := r) hp]
theorem lj {ρ : Nam} : ∀ {ks : List IK} {c : Nat} {x : jp ks} {H : Heap}, sK ks = true → fj ρ c ks x H = H ∧ d6 ρ c ks = []
 | [], _, _, _, _ => ⟨rfl, rfl⟩
 | .any :: r, c, x, H, hp => by simp only [fj, d6]; exact lj (ks := r) hp
 | .val s :: r, c, x, H, hp => by simp only [fj, d6]; exact lj (ks := r) hp
 | .agf s F :: r, c, x, H, hp => by simp only [fj, d6]; exact lj (ks := r) hp
 | .row E s :: r, c, x, H, hp => by cases hp
 | .obj i :: r, c, x, H, hp => by cases hp
 | .clo F [] :: r, c, x, H, hp => by simp only [fj, d6]; exact lj (ks := r) hp
 | .clo F (i :: is) :: r, c, x, H, hp => by cases hp
 | .tab _ _ :: r, c, x, H, hp => by simp only [fj, d6]; exact lj (ks := r) hp
theorem WJ {P : Program} {f : FuncId} {S : FS} (h : iU P f S) (hp : FS.pure S = true) : uN P f S := by
 intro I w H A args X m Y hH hA hX hY
 obtain ⟨⟨ks, os⟩, ⟨oks, oos⟩, R, out, inn, fn⟩ := S
 simp only [FS.pure, ao, List.isEmpty_iff] at hp
 obtain ⟨⟨⟨p1, p2⟩, p3⟩, p4⟩ := hp
 subst p2 p4
 have hpr : m = ⟨[], []⟩ ∧ Tmpl.pr ⟨ks, []⟩ ⟨[], []⟩ A H = some (X, m) := by
  unfold Tmpl.pr at hX ⊢
  split at hX
  ·rename_i x m1 hx
   obtain ⟨rfl, h2⟩ := pz p1 hx
   simp only [rA] at hX
   split at hX
   ·rename_i hc
    simp only [ab, ah] at hX
    obtain ⟨rfl, rfl⟩ := hX
    refine ⟨rfl, ?_⟩
    simp only [h2 H, rA]
    rw [if_pos hc]
   ·cases hX
  ·cases hX
 obtain ⟨rfl, hpr⟩ := hpr
 have hfree : ∀ (ρ : Nam) (H : Heap), Tmpl.free ⟨oks, []⟩ ρ H = true := by
  intro ρ H
  have : Tmpl.names ⟨oks, []⟩ ρ = [] := by
   unfold Tmpl.names
   simp only [gh, aX]
   cases hY' : out Y with
   | mk a b => exact (lj (ρ := ρ) (c := 0) (x := a) (H := H) p3).2
  unfold Tmpl.free
  rw [this]
  rfl
 refine Calls.mono (h (ρ := dH) (k := fun v H u => some (v, H, u)) hH hA hpr (fun i n h => by cases h) (by have hY' : fn X = some Y := hY; simp only [hY', ae]; exact if_pos (hfree _ _))) ?_
 rintro e w' he
 cases e with
 | returned z =>
  obtain ⟨I', v, H', u, h1, h2, h3, h4, h5⟩ := he
  simp only [ab, ah] at h1
  obtain ⟨rfl, rfl, rfl⟩ := h1
  refine ⟨I', h2, ⟨fun n sz v hn => h5 _ rfl n sz v (by simp) hn⟩, ?_, ?_⟩
  ·have e1 : (dq [] H).away ⟨[], []⟩ = H := rfl
   have e2 : ∀ ρ H0, Tmpl.H ⟨oks, []⟩ ρ (out Y) H0 = H0 := fun ρ H0 => by
    unfold Tmpl.H
    simp only [uv]
    exact (lj p3).1
   rw [e2, e1] at h3
   exact h3
  ·have : Tmpl.T ⟨oks, []⟩ dH (out Y) = Tmpl.T ⟨oks, []⟩ dH (out Y) := nj p3
   rw [this] at h4
   exact h4
 | _ => exact he.elim
def Cx.addSpec (cx : Cx) (f : FuncId) (S : FS) : Cx := ⟨cx.P, cx.loops, fun g => if Nat.beq g f then S :: cx.specs g else cx.specs g, cx.tabs⟩
def Cx.addLoop (cx : Cx) (f : FuncId) (id : Nat) (L : Loop) : Cx := ⟨cx.P, fun g i => if Nat.beq g f && Nat.beq i id then some L else cx.loops g i, cx.specs, cx.tabs⟩
def Cx.bare (cx : Cx) : Cx := ⟨cx.P, fun _ _ => none, cx.specs, cx.tabs⟩
def ZB (P : Program) : Cx := ⟨P, fun _ _ => none, fun _ => [], fun _ => none⟩
theorem Ze (P : Program) : Good (ZB P) := ⟨fun f S h => (by cases h), fun f id L h => (by cases h), fun f S h => (by cases h), fun f t h => (by cases h)⟩
theorem Good.bare {cx : Cx} (h : Good cx) : Good cx.bare := ⟨h.specs, fun f id L hl => (by cases hl), h.pures, h.tabs⟩
theorem Good.addSpec {cx : Cx} (h : Good cx) {f : FuncId} {S : FS} (hS : iU cx.P f S) : Good (cx.addSpec f S) := by
 have key : ∀ g S', S' ∈ (cx.addSpec f S).specs g → S' ∈ cx.specs g ∨ (g = f ∧ S' = S) := by
  intro g S' hm
  simp only [Cx.addSpec] at hm
  split at hm
  ·rename_i hg
   rcases aA.1 hm with rfl | hm
   ·exact .inr ⟨bO hg, rfl⟩
   ·exact .inl hm
  ·exact .inl hm
 refine ⟨fun g S' hm => ?_, h.loops, fun g S' hm hp => ?_, h.tabs⟩
 ·rcases key g S' hm with hm | ⟨rfl, rfl⟩
  ·exact h.specs g S' hm
  ·exact hS
 ·rcases key g S' hm with hm | ⟨rfl, rfl⟩
  ·exact h.pures g S' hm hp
  ·exact WJ hS hp
def ik (P : Program) (f : FuncId) (id : Nat) : List Code := match P.funcs[f]? with
 | some fn => match fn.body with
  | some c => (eg c).filterMap fun p => if Nat.beq p.1 id then some p.2 else none
  | none => []
 | none => []
theorem JY : ∀ {c c' : Code} {id : Nat} {p : Nat × Code}, (id, c') ∈ eg c → p ∈ eg c' → p ∈ eg c := by
 intro c
 induction c with
 | seq a b iha ihb =>
  intro c' id p h h2
  simp only [eg, az, aA, ah] at h ⊢
  rcases h with ⟨rfl, rfl⟩ | h | h
  ·exact .inr (.inl h2)
  ·exact .inr (.inl (iha h h2))
  ·exact .inr (.inr (ihb h h2))
 | cond c a b iha ihb =>
  intro c' id p h h2
  simp only [eg, az] at h ⊢
  exact h.imp (fun h => iha h h2) (fun h => ihb h h2)
 | block id c ih => intro c' id p h h2; exact ih h h2
 | scope c ih => intro c' id p h h2; exact ih h h2
 | loop c ih =>
  intro c' id p h h2
  simp only [eg, aA, ah] at h
  rcases h with ⟨rfl, rfl⟩ | h
  ·exact h2
  ·simp only [eg, aA]
   exact .inr (ih h h2)
 | _ => intro c' id p h; simp [eg] at h
theorem JZ {P : Program} {f : FuncId} {id : Nat} {c0 : Code} (h : c0 ∈ ik P f id) : ∃ fn c, P.funcs[f]? = some fn ∧ fn.body = some c ∧ (id, c0) ∈ eg c := by
 unfold ik at h
 split at h
 ·rename_i fn hf
  split at h
  ·rename_i c hb
   obtain ⟨⟨i, c'⟩, h1, h2⟩ := List.mem_filterMap.1 h
   split at h2
   ·rename_i hi
    simp only [ab] at h2
    subst h2
    have := bO hi
    simp only at this
    subst this
    exact ⟨fn, c, hf, hb, h1⟩
   ·cases h2
  ·cases h
 ·cases h
theorem Good.addLoop {cx : Cx} (h : Good cx) {f : FuncId} {id : Nat} {L : Loop} {c0 : Code} (h1 : ik cx.P f id = [c0]) (hL : jx cx.P L c0) : Good (cx.addLoop f id L) := by
 refine ⟨h.specs, fun g i L' hl fn c c' hf hb hc => ?_, h.pures, h.tabs⟩
 simp only [Cx.addLoop] at hl
 split at hl
 ·rename_i hg
  simp only [ao] at hg
  have e1 := bO hg.1
  have e2 := bO hg.2
  subst e1 e2
  simp only [ab] at hl
  subst hl
  have hf' : cx.P.funcs[g]? = some fn := hf
  have : c' ∈ ik cx.P g i := by
   unfold ik
   rw [hf']
   simp only [hb]
   rw [List.mem_filterMap]
   exact ⟨(i, c'), hc, by simp⟩
  rw [h1] at this
  simp only [aD] at this
  subst this
  intro α I w T a H b k r hT hH hh
  exact hL hT hH hh
 ·exact h.loops g i L' hl fn c c' hf hb hc
theorem Good.sub {cx : Cx} (h : Good cx) {f : FuncId} {id : Nat} {c0 : Code} (hm : c0 ∈ ik cx.P f id) : ∀ i L', cx.loops f i = some L' → ∀ c', (i, c') ∈ eg c0 → jx cx.P L' c' := by
 obtain ⟨fn, c, hf, hb, hc⟩ := JZ hm
 intro i L' hl c' hc'
 intro α I w T a H b k r hT hH hh
 exact h.loops f i L' hl fn c c' hf hb (JY hc hc') hT hH hh
def dc (cx : Cx) (fuel f d id : Nat) (L : Loop) (F : L.X → Option L.R) (x : L.X) : Option L.R := match ik cx.P f id with
 | [.loop c] => dS cx (fa cx fuel (d + 1)) f d c (L.tin.T dH (L.into x)) (L.tin.H dH (L.into x) fun _ => none) (uZ L F)
 | _ => none
def OA : List Code → Bool
 | [.loop _] => true
 | _ => false
theorem Good.loop {cx : Cx} (h : Good cx) (fuel d : Nat) {f : FuncId} {id : Nat} {L : Loop} {step : (L.X → Option L.R) → L.X → Option L.R} (h1 : OA (ik cx.P f id) = true) (heq : ∀ F x, dc cx fuel f d id L F x = step F x) (n : Nat) (hfn : ∀ x, L.fn x = it step n x) (hib : ∀ y, L.into (L.back y) = y) (hoi : ∀ o, L.out (L.inn o) = o)
  (hnam : L.tin.free dH (fun _ => none) = true) : Good (cx.addLoop f id L) := by
 obtain ⟨c0, hc0⟩ : ∃ c0, ik cx.P f id = [.loop c0] := by
  unfold OA at h1
  split at h1
  ·rename_i c hc
   exact ⟨c, hc⟩
  ·cases h1
 have hr : RoundEq cx fuel f d L c0 step := fun F x => by
  have := heq F x
  unfold dc at this
  rw [hc0] at this
  exact this
 refine h.addLoop hc0 (WH h (fun i L' hl c' hc' => ?_) hr (fun x y hy => ⟨n, by rw [← hfn x]; exact hy⟩) hib hoi hnam)
 exact fun hT hH hh => h.sub (c0 := .loop c0) (by rw [hc0]; simp) i L' hl c' (ay _ hc') hT hH hh
def eD (cx : Cx) (fuel f d id : Nat) (L : Loop) (x : L.X) : Option L.R := match ik cx.P f id with
 | [c] => dS cx (fa cx fuel (d + 1)) f d c (L.tin.T dH (L.into x)) (L.tin.H dH (L.into x) fun _ => none) (Vs L)
 | _ => none
theorem d7 {cx : Cx} (h : Good cx) (fuel d : Nat) {f : FuncId} {id : Nat} {L : Loop} (h1 : (ik cx.P f id).length = 1) (heq : ∀ x, eD cx fuel f d id L x = L.fn x) (hib : ∀ y, L.into (L.back y) = y) (hoi : ∀ o, L.out (L.inn o) = o)
  (hnam : L.tin.free dH (fun _ => none) = true) : Good (cx.addLoop f id L) := by
 obtain ⟨c0, hc0⟩ := List.length_eq_one_iff.1 h1
 refine h.addLoop hc0 (WI (fuel := fuel) (d := d) h (h.sub (by rw [hc0]; simp)) (fun x => ?_) hib hoi hnam)
 have := heq x
 unfold eD at this
 rw [hc0] at this
 exact this
theorem Good.fn {cx : Cx} (h : Good cx) (fuel d : Nat) {f : FuncId} {S : FS} (heq : de cx fuel f d S) (hoi : ∀ o, S.out (S.inn o) = o) (hnam : S.tin.free dH (fun _ => none) = true) : Good (cx.bare.addSpec f S) :=
 h.bare.addSpec (BU h heq hoi hnam)
@[reducible] def cY (n : Nat) : Nat → List (Nat × IK) → List IK
 | i, [] => List.replicate (n - i) .any
 | i, e :: r => List.replicate (e.1 - i) .any ++ e.2 :: cY n (e.1 + 1) r
def FS.with (S : FS) (W : S.tin.Ty → Option S.R) : FS := ⟨S.tin, S.tout, S.R, S.out, S.inn, W⟩
structure SpecS (P : Program) (f : FuncId) (S : FS) : Prop where
 ok : iU P f S
theorem Ej {P : Program} {f : FuncId} {S : FS} {step : (S.tin.Ty → Option S.R) → S.tin.Ty → Option S.R} (hs : ∀ W, SpecS P f (S.with W) → SpecS P f (S.with (step W))) : ∀ n, SpecS P f (S.with (it step n))
 | 0 => ⟨by
  intro α I w H A args ρ k r x m hH hA hx hρ h
  cases h⟩
 | n + 1 => hs _ (Ej hs n)
theorem MJ {P : Program} {f : FuncId} {S : FS} {step : (S.tin.Ty → Option S.R) → S.tin.Ty → Option S.R} (N : S.tin.Ty → Nat) (hs : ∀ W, SpecS P f (S.with W) → SpecS P f (S.with (step W))) (hfn : ∀ x, S.fn x = it step (N x) x) : SpecS P f S := by
 constructor
 intro α I w H A args ρ k r x m hH hA hx hρ h
 refine (Ej hs (N x)).ok (x := x) hH hA hx hρ (k := k) ?_
 rw [hfn x] at h
 exact h
theorem tb {cx : Cx} (h : Good cx) {f : FuncId} {S : FS} {step : (S.tin.Ty → Option S.R) → S.tin.Ty → Option S.R} (N : S.tin.Ty → Nat) (cW : (S.tin.Ty → Option S.R) → Cx) (hc : ∀ W, Good (cx.bare.addSpec f (S.with W)) → Good (cW W)) (hP : ∀ W, (cW W).P = cx.P) (fuel d : Nat) (heq : ∀ W, de (cW W) fuel f d (S.with (step W))) (hoi : ∀ o, S.out (S.inn o) = o) (hnam : S.tin.free dH (fun _ => none) = true) (hfn : ∀ x, S.fn x = it step (N x) x) : Good (cx.bare.addSpec f S) := by
 have hs : ∀ W, SpecS cx.P f (S.with W) → SpecS cx.P f (S.with (step W)) := fun W hW => by
  have hg : Good (cW W) := hc W (h.bare.addSpec fun hH hA hx hρ hk => hW.ok hH hA hx hρ hk)
  have h1 : SpecS (cW W).P f (S.with (step W)) := ⟨fun hH hA hx hρ hk => BU (S := S.with (step W)) hg (heq W) hoi hnam hH hA hx hρ hk⟩
  rw [hP W] at h1
  exact h1
 exact h.bare.addSpec fun hH hA hx hρ hk => (MJ N hs hfn).ok hH hA hx hρ hk
theorem nk {H : Heap} : ∀ {ks : List IK} {T : List DV} {m : Met} {p : jp ks × Met}, eC H ks T m = some p → T.length = ks.length
 | [], [], m, p, h => rfl
 | [], d :: T, m, p, h => by cases h
 | .any :: r, T, m, p, h => by
  simp only [eC] at h
  split at h
  ·simp only [aE]; rw [nk h]
  ·cases h
 | .val s :: r, T, m, p, h => by
  simp only [eC] at h
  repeat' split at h
  all_goals first | (cases h; done) | (rename_i hz; simp only [aE]; rw [nk hz])
 | .agf s F :: r, T, m, p, h => by
  simp only [eC] at h
  repeat' split at h
  all_goals first | (cases h; done) | (rename_i hz; simp only [aE]; rw [nk hz])
 | .row E s :: r, T, m, p, h => by
  simp only [eC] at h
  repeat' split at h
  all_goals first | (cases h; done) | (rename_i hz; simp only [aE]; rw [nk hz])
 | .obj i :: r, T, m, p, h => by
  simp only [eC] at h
  repeat' split at h
  all_goals first | (cases h; done) | (simp only [aE]; rw [nk h])
 | .clo F is :: r, T, m, p, h => by
  simp only [eC] at h
  repeat' split at h
  all_goals first | (cases h; done) | (simp only [aE]; rw [nk h])
 | .tab ks vs :: r, T, m, p, h => by cases h
end Go.Proofs.Dk
namespace Go.Proofs.Dk
open Go Go.RowKit Go.ChangeShapes Go.WideShapes
def Sh.Ok : (s : Sh) → s.T → Prop
 | .int k, n => (Lit.int k n).wf = true
 | .bool, _ => True
 | .str, s => s.size ≤ maxLen
 | .pair a b, x => a.Ok x.1 ∧ b.Ok x.2
 | .sl e, l => l.length ≤ maxLen ∧ ∀ x ∈ l, e.Ok x
 | .arr n e, l => l.length = n ∧ ∀ x ∈ l, e.Ok x
def yc (g : TypeId → Sh → Bool) : List Field → Nat → Sh → Bool
 | [], _, _ => false
 | [f], o, s => f.offset == o && g f.type s
 | f :: f' :: r, o, s => match s with
  | .pair a b => f.offset == o && g f.type a && yc g (f' :: r) (o + a.sz) b
  | _ => false
def oX (P : Program) : Nat → TypeId → Sh → Bool
 | 0, _, _ => false
 | n + 1, t, s => P.cellsOf t == s.sz && match P.underlying t with
  | some (.int k) => (match s with | .int k' => decide (k = k') | _ => false)
  | some .bool => (match s with | .bool => true | _ => false)
  | some .string => (match s with | .str => true | _ => false)
  | some (.slice e) => (match s with | .sl s => decide (0 < s.sz) && oX P n e s | _ => false)
  | some (.array m e) => (match s with | .arr m' s => decide (m = m') && decide (0 < s.sz) && oX P n e s | _ => false)
  | some (.struct fs) => yc (oX P n) fs.toList 0 s
  | _ => false
section
variable {P : Program}
def OB (P : Program) (t : TypeId) (s : Sh) : Prop := P.cellsOf t = s.sz ∧ ∀ {H : Type} (enc : TypeId × Value → H) (w : World) (fuel : Nat) (cs : List Value) (x : DataW H × List MemPlace), DataW.trod enc P w 0 (fun _ => true) true fuel t cs = some x → ∃ a, s.K (fun b => b < w.heap.size) w a cs ∧ s.Ok a
theorem OC {w : World} {a : Addr} {n : Nat} {cs : List Value} (h : w.cells? 0 a n = some cs) : cs.length = n ∧ ∀ i u, cs[i]? = some u → w.cell? (a.add i) = some u := by
 have hs := World.cells?_some h
 refine ⟨hs.2.1, fun i u hu => ?_⟩
 have hi : i < n := by rw [← hs.2.1]; exact (List.getElem?_eq_some_iff.1 hu).1
 rw [← hu]
 exact hs.2.2 i hi
theorem VU {w : World} {a : Addr} {u : Value} (h : w.cell? a = some u) : a.spot = none ∧ a.block < w.heap.size := by
 unfold World.cell? at h
 split at h
 ·rename_i c e r hb
  split at h
  ·cases h
  ·rename_i hs
   refine ⟨by simpa using hs, (Array.getElem?_eq_some_iff.1 hb).1⟩
 ·cases h
theorem HJ {g : TypeId → Sh → Bool} (hg : ∀ t s, g t s = true → OB P t s) : ∀ (fs : List Field) (o : Nat) (s : Sh), yc g fs o s = true → ∀ {H : Type} (enc : TypeId × Value → H) (w : World) (n : Nat) (cs : List Value), o + s.sz ≤ cs.length → (∀ (i : Nat) (f : Field), fs[i]? = some f → ∃ x, DataW.trod enc P w 0 (fun _ => true) true n f.type ((cs.drop f.offset).take (P.cellsOf f.type)) = some x) → ∃ a, s.K (fun b => b < w.heap.size) w a ((cs.drop o).take s.sz) ∧ s.Ok a
 | [], o, s, h => by simp [yc] at h
 | [f], o, s, h => by
  intro enc w n cs hl hx
  simp only [yc, ao, ag] at h
  obtain ⟨ho, hs⟩ := h
  obtain ⟨hc, hop⟩ := hg _ _ hs
  obtain ⟨x, hx⟩ := hx 0 f rfl
  rw [ho, hc] at hx
  exact hop enc w n _ _ hx
 | f :: f' :: r, o, s, h => by
  intro enc w n cs hl hx
  simp only [yc] at h
  split at h
  ·rename_i a b
   simp only [ao, ag] at h
   obtain ⟨⟨ho, hs⟩, hr⟩ := h
   obtain ⟨hc, hop⟩ := hg _ _ hs
   have hl' : o + (a.sz + b.sz) ≤ cs.length := hl
   obtain ⟨x, hx0⟩ := hx 0 f rfl
   rw [ho, hc] at hx0
   obtain ⟨y, hy, hoy⟩ := hop enc w n _ _ hx0
   obtain ⟨z, hz, hoz⟩ := HJ hg (f' :: r) (o + a.sz) b hr enc w n cs (by omega) (fun i g hg => hx (i + 1) g hg)
   refine ⟨(y, z), ⟨_, _, ?_, hy, hz⟩, hoy, hoz⟩
   show (cs.drop o).take (a.sz + b.sz) = _
   rw [List.take_add, bx]
  ·cases h
theorem tc : ∀ (n : Nat) (t : TypeId) (s : Sh), oX P n t s = true → OB P t s
 | 0, t, s, h => by simp [oX] at h
 | n + 1, t, s, h => by
  simp only [oX, ao, ag] at h
  obtain ⟨hc, h⟩ := h
  refine ⟨hc, ?_⟩
  intro H enc w fuel cs x hx
  split at h
  ·rename_i k ht
   split at h
   ·rename_i k'
    simp only [aw] at h
    subst h
    obtain ⟨m, rfl, _, hw⟩ := DataW.trod_int ht hx
    exact ⟨m, rfl, hw⟩
   ·cases h
  ·rename_i ht
   split at h
   ·obtain ⟨b, rfl, _⟩ := DataW.trod_bool ht hx
    exact ⟨b, rfl, trivial⟩
   ·cases h
  ·rename_i ht
   split at h
   ·obtain ⟨b, rfl, _, hw⟩ := DataW.trod_string ht hx
    exact ⟨b, rfl, hw⟩
   ·cases h
  ·rename_i e ht
   split at h
   ·rename_i s
    simp only [ao, aw] at h
    obtain ⟨hz, h⟩ := h
    obtain ⟨hce, hop⟩ := tc n e s h
    rcases Go.Deep.open_slice ht hx with ⟨rfl, _⟩ | ⟨a, len, cap, m, n', D, Pl, rfl, _, hl, hm, hmm, _, hx2⟩
    ·exact ⟨[], ⟨none, 0, rfl, aq _, fun hn => absurd rfl hn⟩, by simp [maxLen], fun x hx => by cases hx⟩
    simp only [if_true] at hmm
    subst hmm
    have hall : ∀ i, i < len → ∃ x : s.T, ∃ c, c.length = s.sz ∧ s.K (fun b => b < w.heap.size) w x c ∧ (∀ j u, c[j]? = some u → w.cell? (a.add (i * s.sz + j)) = some u) ∧ s.Ok x := by
     intro i hi
     obtain ⟨cs', h1, h2⟩ := hx2 i (by omega)
     rw [hce] at h1
     obtain ⟨h3, h4⟩ := OC h1
     obtain ⟨x, hk, ho⟩ := hop enc w n' cs' _ h2
     exact ⟨x, cs', h3, hk, fun j u hj => by rw [← Go.Deep.add_add]; exact h4 j u hj, ho⟩
    have : Inhabited s.T := ⟨s.dflt⟩
    obtain ⟨X, hX⟩ := Go.Deep.choose_lt hall
    refine ⟨(List.range len).map X, ⟨some a, m, by simp, by simpa using hl, fun hne => ?_⟩, by simpa using aK hl hm, fun x hx => ?_⟩
    ·have hlen : 0 < len := by
      rcases bQ len with h0 | h0
      ·rw [h0] at hne; simp at hne
      ·exact h0
     obtain ⟨c, h1, h2, h3, _⟩ := hX 0 hlen
     have hc0 : c[0]? = some (c[0]'(by omega)) := av _
     have h5 := h3 0 _ hc0
     have ha0 : a.add (0 * s.sz + 0) = a := by simp [Addr.add]
     rw [ha0] at h5
     obtain ⟨g1, g2⟩ := VU h5
     refine ⟨a, rfl, g1, g2, fun i p hi => ?_⟩
     have hi2 : i < len := by
      have := (List.getElem?_eq_some_iff.1 hi).1
      simpa using this
     obtain ⟨c, h1, h2, h3, _⟩ := hX i hi2
     have : X i = p := by simpa [bC, cd hi2] using hi
     subst this
     exact ⟨c, h1, h2, h3⟩
    ·obtain ⟨i, hi, rfl⟩ := List.mem_map.1 hx
     obtain ⟨_, _, _, _, ho⟩ := hX i (bo.1 hi)
     exact ho
   ·cases h
  ·rename_i m e ht
   split at h
   ·rename_i m' s
    simp only [ao, aw] at h
    obtain ⟨⟨rfl, hz⟩, h⟩ := h
    obtain ⟨hce, hop⟩ := tc n e s h
    obtain ⟨xs, k, _, rfl, hl, hxl, hx2⟩ := DataW.trod_array ht hx
    have hall : ∀ i, i < m → ∃ x : s.T, s.K (fun b => b < w.heap.size) w x ((cs.drop (i * s.sz)).take s.sz) ∧ s.Ok x := by
     intro i hi
     have h1 := hx2 i hi
     rw [hce, av (by omega)] at h1
     exact hop enc w k _ _ h1
    have : Inhabited s.T := ⟨s.dflt⟩
    obtain ⟨X, hX⟩ := Go.Deep.choose_lt hall
    refine ⟨(List.range m).map X, ⟨by simp, by rw [hl, hc]; rfl, fun i p hi => ?_⟩, by simp, fun x hx => ?_⟩
    ·have hi2 : i < m := by
      have := (List.getElem?_eq_some_iff.1 hi).1
      simpa using this
     have : X i = p := by simpa [bC, cd hi2] using hi
     subst this
     exact (hX i hi2).1
    ·obtain ⟨i, hi, rfl⟩ := List.mem_map.1 hx
     exact (hX i (bo.1 hi)).2
   ·cases h
  ·rename_i fs ht
   obtain ⟨xs, k, _, rfl, hl, hxl, hx2⟩ := DataW.trod_struct ht hx
   obtain ⟨a, ha, ho⟩ := HJ (fun t s h => tc n t s h) fs.toList 0 s h enc w k cs (by omega) (fun i f hi => by
    have h1 := hx2 i f (by simpa using hi)
    have hlt : i < xs.length := by
     have := (List.getElem?_eq_some_iff.1 hi).1
     rw [hxl]
     simpa using this
    rw [av hlt] at h1
    exact ⟨_, h1⟩)
   rw [bh, aW (by omega)] at ha
   exact ⟨a, ha, ho⟩
  ·cases h
def I0 (w : World) : In := ⟨fun _ => none, fun b => b < w.heap.size⟩
theorem hr0 (w : World) : HR (I0 w) w fun _ => none := ⟨fun n cs h => (by cases h), fun n E s xs h => (by cases h), fun n T es h => (by cases h), fun n h => rfl, fun n e b h => (by cases h), fun n m e e' b h => (by cases h), fun b h => h⟩
theorem OD {f : FuncId} {S : FS} (hS : iU P f S) {w : World} {A : List DV} {args : List Value} {x : S.tin.Ty} {y : S.R} (hA : LR (I0 w) w A args) (hx : S.tin.pr ⟨[], []⟩ A (fun _ => none) = some (x, ⟨[], []⟩)) (hfn : S.fn x = some y) (hfree : ∀ ρ H, S.tout.free ρ H = true) (hT : ∀ ρ, iK (S.tout.T ρ (S.out y)) = .sc (.bool true)) : Calls P f args.toArray w fun e w' => e = .returned (.bool true) ∧ Below w.heap.size w w' := by
 refine Calls.mono (hS (ρ := dH) (k := fun v H u => some v) (r := .sc (.bool true)) (hr0 w) hA hx (fun i n h => by cases h) ?_) ?_
 ·rw [hfn, ae]
  simp only [hfree, if_true, hT]
 ·rintro e w' he
  cases e with
  | returned z =>
   obtain ⟨I', v, H', u, h1, h2, h3, h4, h5⟩ := he
   simp only [ab] at h1
   subst h1
   refine ⟨by rw [h4.sc_eq], h2.os, h2.tape, h2.output, h2.size, fun b hb => h2.same b hb fun n e hn => by cases hn⟩
  | _ => exact he.elim
end
end Go.Proofs.Dk
namespace Go.Proofs.Dk
open Go Go.RowKit
theorem Good.known {cx : Nat → Cx} (hg : ∀ n, Good (cx n)) {f : FuncId} {S : Nat → FS} (N : Nat) (h : iU (cx N).P f (S N)) (hz : ∀ n, n ≠ N → ∀ x, (S n).fn x = none) (n : Nat) : Good ((cx n).bare.addSpec f (S n)) := by
 refine (hg n).bare.addSpec fun hH hA hx hρ hk => ?_
 by_cases e : n = N
 ·subst e; exact h hH hA hx hρ hk
 ·rw [hz n e] at hk
  cases hk
theorem Sw {α : Type} {n N : Nat} {v : α} (h : n ≠ N) : (if Nat.beq n N = true then some v else none) = none := if_neg fun e => h (bO e)
theorem Gy {P : Program} {c rest : Code} {l : Nat} {Q : Exit → Act → World → Prop} {a : Act} {w : World} (hf : findLabel c l = some rest) (Inv : Nat → Act → World → Prop) (first : c.wp P (Exit.jump l (fun a w => ∃ n, Inv n a w) Q) a w) (hz : ∀ a w, ¬ Inv 0 a w) (hs : ∀ n a w, Inv (n + 1) a w → rest.wp P (Exit.jump l (Inv n) Q) a w) : (Code.scope c).wp P Q a w := by
 have least : ∀ (p : Nat → Prop) (n : Nat), p n → ∃ m, p m ∧ ∀ k, p k → m ≤ k := by
  intro p n
  induction n using Nat.strongRecOn with
  | _ n ih =>
   intro hn
   by_cases h : ∃ m, m < n ∧ p m
   ·obtain ⟨m, h1, h2⟩ := h
    exact ih m h1 h2
   ·refine ⟨n, hn, fun k hk => ?_⟩
    rcases ak k n with h1 | h1
    ·exact absurd ⟨k, h1, hk⟩ h
    ·exact h1
 have hμ : ∀ p : Act × World, ∃ m : Nat, (∃ n, Inv n p.1 p.2) → Inv m p.1 p.2 ∧ ∀ k, Inv k p.1 p.2 → m ≤ k := by
  intro p
  by_cases h : ∃ n, Inv n p.1 p.2
  ·obtain ⟨n, hn⟩ := h
   obtain ⟨m, h1, h2⟩ := least (fun n => Inv n p.1 p.2) n hn
   exact ⟨m, fun _ => ⟨h1, h2⟩⟩
  ·exact ⟨0, fun h' => absurd h' h⟩
 obtain ⟨μ, hμ⟩ := Classical.axiomOfChoice hμ
 refine wp_scope_jumps l (fun a w => ∃ n, Inv n a w) (fun a w => μ (a, w)) hf first ?_
 intro a w h
 obtain ⟨hf, _⟩ := hμ (a, w) h
 show rest.wp P (Exit.jump l (fun a' w' => (∃ n, Inv n a' w') ∧ μ (a', w') < μ (a, w)) Q) a w
 generalize μ (a, w) = m at hf
 cases m with
 | zero => exact absurd hf (hz a w)
 | succ m =>
  refine Code.wp_mono ?_ (hs m a w hf)
  intro e a' w' he
  cases e with
  | goto l' => exact ⟨he.1, ⟨m, he.2⟩, Nat.lt_succ_of_le ((hμ (a', w') ⟨m, he.2⟩).2 m he.2)⟩
  | _ => exact he
def Dh (L : Loop) (l : Nat) (F : L.X → Option L.R) : Ex → List DV → Heap → Option L.R := fun e T H => match e with
 | .goto l' => if Nat.beq l' l = true then (match L.tin.pr (lW L.tin.os.length) T H with | some (y, _) => F (L.back y) | none => none) else none
 | e => nI L.tin.os.length e T H L.outs L.inn
def MK {α : Type} (L : Loop) (l b : Nat) (k : Ex → List DV → Heap → Option α) : Ex → List DV → Heap → Option α := fun e T H => match e with
 | .goto l' => if Nat.beq l' l = true then l4 L b T H k else none
 | e => k e T H
def OE (cx : Cx) (fuel f d : Nat) (L : Loop) (l : Nat) (rest : Code) (step : (L.X → Option L.R) → L.X → Option L.R) : Prop :=
 ∀ F x, dS cx (fa cx fuel (d + 1)) f d rest (L.tin.T dH (L.into x)) (L.tin.H dH (L.into x) fun _ => none) (Dh L l F) = step F x
theorem WK {cx : Cx} {fuel f d : Nat} {L : Loop} {l : Nat} {c rest : Code} {step : (L.X → Option L.R) → L.X → Option L.R} (hg : Good cx) (hfl : findLabel c l = some rest) (hsub : ∀ id L', cx.loops f id = some L' → ∀ c', (id, c') ∈ eg rest → jx cx.P L' c') (hsubc : ∀ id L', cx.loops f id = some L' → ∀ c', (id, c') ∈ eg c → jx cx.P L' c') (heq : OE cx fuel f d L l rest step) (hfn : ∀ x y, L.fn x = some y → ∃ n, it step n x = some y) (hib : ∀ y, L.into (L.back y) = y) (hoi : ∀ o, L.out (L.inn o) = o)
  (hnam : L.tin.free dH (fun _ => none) = true) {α : Type} {I : In} {w : World} {T : List DV} {a : Act} {H : Heap} {b : Nat} {k : Ex → List DV → Heap → Option α} {r : α} (hT : TR I w T a) (hH : HR I w H) (h : dS cx (fa cx fuel (d + 1)) f d c T H (MK L l b k) = some r) : (Code.scope c).wp cx.P (PostC I w k r) a w := by
 refine Gy hfl (fun n a' w' => ∃ (I1 : In) (w1 : World) (H1 : Heap) (x : L.tin.Ty) (m : Met) (vs : Nat → Value) (I0 : In) (y : L.R), Ext I w I1 w1 ∧ HR I1 w1 H1 ∧ Lay I1 ⟨fun _ => none, I1.R⟩ I0 w1 L.tin dH x m vs (fun _ => none) ∧ (qZ L.outs (L.out y) fun e t y =>
  if t.free (jt (dq m.u H1) b m) ((dq m.u H1).away m) = true then k e (t.T (jt (dq m.u H1) b m) y) (t.H (jt (dq m.u H1) b m) y ((dq m.u H1).away m)) else none) = some r ∧ ∃ I' X, Ext I0 w1 I' w' ∧ HR I' w' (L.tin.H dH (L.into X) fun _ => none) ∧ TR I' w' (L.tin.T dH (L.into X)) a' ∧ it step n X = some y) ?_ ?_ ?_
 ·refine Code.wp_mono ?_ (lD hg (lE hg fuel (d + 1)) c hsubc hT hH h)
  rintro e a2 w2 ⟨I2, T2, H2, ex, hex, he2, hH2, hT2, h3⟩
  cases ex with
  | goto i =>
   simp only [MK] at h3
   split at h3
   ·rename_i hl
    unfold l4 at h3
    split at h3
    ·rename_i x m hx
     obtain ⟨y, hy, hout⟩ := Option.bind_eq_some_iff.1 h3
     obtain ⟨n, hn⟩ := hfn _ _ hy
     obtain ⟨⟨I0, hL0⟩, hlen, _⟩ := nW (ρ := dH) hH2 rfl hx hT2.val (li I2 w2 L.tin dH m) hnam
     cases e <;> first | exact hex.elim | skip
     rename_i j
     have hj : i = j := hex
     refine ⟨hj ▸ bO hl, n, I2, w2, H2, x, m, _, I0, y, he2, hH2, hL0, hout, I0, L.back x, Ext.refl I0 w2, by rw [hib]; exact hL0.hr, ?_, hn⟩
     rw [hib]
     exact iF hL0.val (aK hlen hT2.len) hT2.df
    ·cases h3
   ·cases h3
  | norm => cases e <;> first | exact hex.elim | exact ⟨I2, T2, H2, _, hex, he2, hH2, hT2, h3⟩
  | exit i => cases e <;> first | exact hex.elim | exact ⟨I2, T2, H2, _, hex, he2, hH2, hT2, h3⟩
  | ret => cases e <;> first | exact hex.elim | exact ⟨I2, T2, H2, _, hex, he2, hH2, hT2, h3⟩
 ·rintro a w ⟨_, _, _, _, _, _, _, _, _, _, _, _, I', X, _, _, _, h⟩
  cases h
 ·rintro n a1 w1 ⟨Ia, wa, Ha, x, m, vs, I0, y, heA, hHA, hL0, hout, I1, X, he1, hH1, hT1, h1⟩
  have h2 := (heq (it step n) X).trans h1
  refine Code.wp_mono ?_ (lD hg (lE hg fuel (d + 1)) rest hsub hT1 hH1 h2)
  rintro e a2 w2 ⟨I2, T2, H2, ex, hex, he2, hH2, hT2, h3⟩
  have he := he1.trans he2
  have out : nI L.tin.os.length ex T2 H2 L.outs L.inn = some y → PostC I w k r e a2 w2 := by
   intro hxk
   obtain ⟨t, z, m1, o, hz, hyo, hK⟩ := mb hxk
   rw [hyo, hoi, hK] at hout
   split at hout
   ·rename_i hfree
    obtain ⟨I4, g1, g2, g3, _, g4⟩ := rH hHA hL0 he hH2 hz hT2.val (fun i n hin => zQ hL0.key hin) hfree
    exact ⟨I4, _, _, ex, hex, heA.trans g3, g1, iF g2 (aK g4 hT2.len) hT2.df, hout⟩
   ·cases hout
  cases ex with
  | goto i =>
   simp only [Dh] at h3
   split at h3
   ·rename_i hl
    split at h3
    ·rename_i z m1 hz
     obtain ⟨⟨I3, hL3⟩, hlen3, hm3⟩ := nW (ρ := dH) hH2 rfl hz hT2.val (li I2 w2 L.tin dH m1) hnam
     cases e <;> first | exact hex.elim | skip
     rename_i j
     have hj : i = j := hex
     refine ⟨hj ▸ bO hl, Ia, wa, Ha, x, m, vs, I0, y, heA, hHA, hL0, hout, I3, L.back z, KF hL0 he hL3 hm3, by rw [hib]; exact hL3.hr, ?_, h3⟩
     rw [hib]
     exact iF hL3.val (aK hlen3 hT2.len) hT2.df
    ·cases h3
   ·cases h3
  | norm =>
   have := out h3
   cases e <;> first | exact hex.elim | exact this
  | exit i =>
   have := out h3
   cases e <;> first | exact hex.elim | exact this
  | ret =>
   have := out h3
   cases e <;> first | exact hex.elim | exact this
def u5 (P : Program) (f : FuncId) (l : Nat) : Option (Code × Code × Code) := match P.funcs[f]? with
 | some fn => match fn.body with
  | some (.seq x (.scope c)) => match findLabel c l with
   | some rest => some (x, c, rest)
   | none => none
  | _ => none
 | none => none
def Sx {α : Type} (P : Program) (f : FuncId) (k : DV → Heap → Option α) : Ex → List DV → Heap → Option α := fun e T H => match P.funcs[f]? with
 | some fn => match e with
  | .norm => (match nf P T H fn.results.toList with | some vs => k (iK vs) H | none => none)
  | .ret => (match nf P T H fn.results.toList with | some vs => k (iK vs) H | none => none)
  | _ => none
 | none => none
def Zf {α : Type} (k : List DV → Heap → Option α) : Ex → List DV → Heap → Option α := fun e T H => match e with
 | .norm => k T H
 | _ => none
def ML {α : Type} (cx : Cx) (call : gv α) (f d l : Nat) (L : Loop) (b : Nat) (A : List DV) (H : Heap) (k : DV → Heap → Option α) : Option α := match u5 cx.P f l, cx.P.funcs[f]? with
 | some (x, c, _), some fn => dS cx call f d x (A ++ List.replicate (fn.ntmps - A.length) .undef) H (Zf fun T H => dS cx call f d c T H (MK L l b (Sx cx.P f k)))
 | _, _ => none
def u6 (cx : Cx) (fuel f d l : Nat) (L : Loop) (F : L.X → Option L.R) (x : L.X) : Option L.R := match u5 cx.P f l with
 | some (_, _, rest) => dS cx (fa cx fuel (d + 1)) f d rest (L.tin.T dH (L.into x)) (L.tin.H dH (L.into x) fun _ => none) (Dh L l F)
 | none => none
def yd (cx : Cx) (f : FuncId) (c : Code) : Bool := (eg c).all fun p => (cx.loops f p.1).isNone
def ye (cx : Cx) (f : FuncId) (l : Nat) : Bool := match u5 cx.P f l with
 | some (x, c, rest) => yd cx f x && (yd cx f c && yd cx f rest)
 | none => false
theorem td {cx : Cx} {f : FuncId} {c : Code} (h : yd cx f c = true) : ∀ id L', cx.loops f id = some L' → ∀ c', (id, c') ∈ eg c → jx cx.P L' c' := by
 intro id L' hl c' hc
 have := aL.1 h _ hc
 rw [hl] at this
 cases this
theorem J0 {P : Program} {f : FuncId} {l : Nat} {p : Code × Code × Code} (h : u5 P f l = some p) : ∃ fn, P.funcs[f]? = some fn ∧ fn.body = some (.seq p.1 (.scope p.2.1)) ∧ findLabel p.2.1 l = some p.2.2 := by
 unfold u5 at h
 split at h
 ·rename_i fn hf
  split at h
  ·rename_i x c hb
   split at h
   ·rename_i rest hr
    simp only [ab] at h
    subst h
    exact ⟨fn, hf, hb, hr⟩
   ·cases h
  ·cases h
 ·cases h
theorem Sy {α : Type} {cx : Cx} {fuel d l b : Nat} {f : FuncId} {L : Loop} {step : (L.X → Option L.R) → L.X → Option L.R} (hg : Good cx) (hs : ye cx f l = true) (heq : ∀ F x, u6 cx fuel f d l L F x = step F x) (hfn : ∀ x y, L.fn x = some y → ∃ n, it step n x = some y) (hib : ∀ y, L.into (L.back y) = y) (hoi : ∀ o, L.out (L.inn o) = o)
  (hnam : L.tin.free dH (fun _ => none) = true) {I : In} {w : World} {H : Heap} {A : List DV} {args : List Value} {k : DV → Heap → Option α} {r : α} (hH : HR I w H) (hl : A.length ≤ args.length) (hA : ∀ i, VR I w (A.getD i .undef) (args.getD i undef)) (h : ML cx (fa cx fuel (d + 1)) f d l L b A H k = some r) :
  Calls cx.P f args.toArray w (Dd fun z w' => ∃ I' v H', k v H' = some r ∧ Ext I w I' w' ∧ HR I' w' H' ∧ VR I' w' v z) := by
 unfold ML at h
 unfold ye at hs
 split at h
 ·rename_i x c rest fn hp hf
  obtain ⟨fn', hf', hb, hfl⟩ := J0 hp
  rw [hf] at hf'
  simp only [ab] at hf'
  subst hf'
  rw [hp] at hs
  simp only [ao] at hs
  have hr : OE cx fuel f d L l rest step := fun F x => by
   have := heq F x
   unfold u6 at this
   rw [hp] at this
   exact this
  have key : (Code.seq x (.scope c)).wp cx.P (PostC I w (Sx cx.P f k) r) { tmps := args.toArray ++ Array.replicate (fn.ntmps - args.length) undef, defers := [] } w := by
   refine wp_seq (Code.wp_mono ?_ (lD hg (lE hg fuel (d + 1)) x (td hs.1) (HC (n := fn.ntmps) hl hA) hH h))
   rintro e a2 w2 ⟨I2, T2, H2, ex, hex, he2, hH2, hT2, h2⟩
   cases ex <;> cases e <;> first | exact hex.elim | (cases h2; done) | skip
   exact Code.wp_mono (fun e a w hp => PostC.ext he2 hp) (WK hg hfl (td hs.2.2) (td hs.2.1) hr hfn hib hoi hnam hT2 hH2 h2)
  refine calls_of_wp hf hb (Code.wp_mono ?_ key)
  rintro e a' w' ⟨I', T', H', x', hx, he, hH', hT', h'⟩
  have fin : (match nf cx.P T' H' fn.results.toList with | some vs => k (iK vs) H' | none => none) = some r → a'.defers = [] ∧ ∃ v, (results fn a'.tmps).run cx.P w' = .ok v w' ∧ ∃ I' v' H', k v' H' = some r ∧ Ext I w I' w' ∧ HR I' w' H' ∧ VR I' w' v' v := by
   intro h'
   split at h'
   ·rename_i vs hvs
    obtain ⟨z, g1, g2⟩ := BN (P := cx.P) hT' hH' hvs
    exact ⟨hT'.df, z, g1, I', _, H', h', he, hH', g2⟩
   ·cases h'
  unfold Sx at h'
  rw [hf] at h'
  cases e <;> cases x' <;> first | exact hx.elim | skip
  ·exact fin h'
  ·cases h'
  ·cases h'
  ·exact fin h'
 ·cases h
def MM (cx : Cx) (fuel f d l : Nat) (L : Loop) (b : Nat) (S : FS) : Prop := ∀ x, ML cx (fa cx fuel (d + 1)) f d l L b (S.tin.T dH x) (S.tin.H dH x fun _ => none) (MI S) = S.fn x
theorem VV {cx : Cx} {fuel f d l b : Nat} {S : FS} {L : Loop} {step : (L.X → Option L.R) → L.X → Option L.R} (hg : Good cx) (hs : ye cx f l = true) (hj : ∀ F x, u6 cx fuel f d l L F x = step F x) (hfn : ∀ x y, L.fn x = some y → ∃ n, it step n x = some y) (hib : ∀ y, L.into (L.back y) = y) (hoiL : ∀ o, L.out (L.inn o) = o)
  (hnamL : L.tin.free dH (fun _ => none) = true) (heq : MM cx fuel f d l L b S) (hoi : ∀ o, S.out (S.inn o) = o) (hnam : S.tin.free dH (fun _ => none) = true) : iU cx.P f S := by
 intro α I w H A args ρ k r x m hH hA hx hρ h
 obtain ⟨y, hy, hk⟩ := Option.bind_eq_some_iff.1 h
 obtain ⟨⟨I0, hL0⟩, hlen, _⟩ := nW (ρ := dH) hH rfl hx (vals := fun i => args.getD i undef) (fun i => hA.getD i) (li I w S.tin dH m) hnam
 have hle : (S.tin.T dH x).length ≤ args.length := by
  unfold Tmpl.T
  rw [gD, ← hA.length]
  exact hlen
 have hb := (heq x).trans hy
 refine Calls.mono (Sy hg hs hj hfn hib hoiL hnamL hL0.hr hle hL0.val hb) ?_
 rintro e w' he
 cases e with
 | returned z =>
  obtain ⟨I', v, H', h1, h2, h3, h4⟩ := he
  unfold MI at h1
  split at h1
  ·rename_i l hl
   split at h1
   rename_i A1 T1 H1 hs
   obtain ⟨us, u1, u2', u3⟩ := HI h4 hl
   obtain ⟨I1, h3', h2', u2⟩ : ∃ I1, HR I1 w' H1 ∧ Ext I' w' I1 w' ∧ LR I1 w' A1 us := by
    split at hs
    ·obtain ⟨I1, q1, q2, _, q4⟩ := lh (a := ⟨#[], []⟩) h3 ⟨aq _, fun i => .undef _, rfl⟩ u2' hs
     exact ⟨I1, q1, q2, q4⟩
    ·simp only [ah] at hs
     obtain ⟨rfl, rfl, rfl⟩ := hs
     exact ⟨I', h3, Ext.refl _ _, u2'⟩
   split at h1
   ·rename_i zz m1 hz
    simp only [ab] at h1
    rw [← h1, hoi] at hk
    split at hk
    ·rename_i hfree
     obtain ⟨I4, g1, g2, g3, g4, g5⟩ := rH hH hL0 (h2.trans h2') h3' hz (vals := fun i => us.getD i undef) (fun i => u2.getD i) hρ hfree
     refine ⟨I4, _, _, _, hk, g3, g1, u3 (LR.of ?_ g2), fun l hl n sz v hn hi => ?_⟩
     ·unfold Tmpl.T
      rw [gD, u1]
     ·simp only [ab] at hl
      subst hl
      exact g4 n sz v hn hi
    ·cases hk
   ·cases h1
  ·cases h1
 | _ => exact he.elim
theorem Sz {cx : Cx} (h : Good cx) (fuel d l b : Nat) {f : FuncId} {S : FS} {L : Loop} {step : (L.X → Option L.R) → L.X → Option L.R} (n : Nat) (hs : ye cx f l = true) (hj : ∀ F x, u6 cx fuel f d l L F x = step F x) (hfn : ∀ x, L.fn x = it step n x) (hib : ∀ y, L.into (L.back y) = y) (hoiL : ∀ o, L.out (L.inn o) = o)
  (hnamL : L.tin.free dH (fun _ => none) = true) (heq : MM cx fuel f d l L b S) (hoi : ∀ o, S.out (S.inn o) = o) (hnam : S.tin.free dH (fun _ => none) = true) : Good (cx.bare.addSpec f S) :=
 h.bare.addSpec (VV h hs hj (fun x y hy => ⟨n, by rw [← hfn x]; exact hy⟩) hib hoiL hnamL heq hoi hnam)
def tf {β : Type} (c : Bool) (x y : β) : β := Bool.rec (motive := fun _ => β) y x c
def ZD : Loop := ⟨⟨[], []⟩, [(.norm, ⟨[], []⟩)], Unit, fun _ => ((), ()), fun _ => (), Unit, fun _ => ((), ()), fun _ => (), fun _ => none⟩
def Cx.flag (cx : Cx) : Cx := cx.addLoop 999999 0 ZD
theorem Good.flag {cx : Cx} (h : Good cx) (h0 : (cx.P.funcs[999999]?).isNone = true) : Good cx.flag := by
 refine ⟨h.specs, fun g i L' hl fn c c' hf hb hc => ?_, h.pures, h.tabs⟩
 unfold Cx.flag at hl
 simp only [Cx.addLoop] at hl
 split at hl
 ·rename_i hg
  simp only [ao] at hg
  have e1 := bO hg.1
  subst e1
  have hf' : cx.P.funcs[999999]? = some fn := hf
  rw [hf'] at h0
  cases h0
 ·exact h.loops g i L' hl fn c c' hf hb hc
end Go.Proofs.Dk
namespace Go.Proofs.YtofeifhecboinaaGreatH
open Go
def gy (S : Nat → Bool) : Nat → Nat
 | 0 => 0
 | n + 1 => gy S n + (if S n then 0 else 1)
def don (S : Nat → Bool) (i : Nat) : Nat → Bool := fun j => if j = i then true else S j
theorem cnt_le (S : Nat → Bool) (i : Nat) : ∀ n, n ≤ i → gy (don S i) n = gy S n
 | 0, _ => rfl
 | n + 1, h => by
  simp only [gy]
  rw [cnt_le S i n (by omega)]
  simp [don, show n ≠ i by omega]
theorem cnt_don (S : Nat → Bool) (i : Nat) (hi : S i = false) : ∀ n, i < n → gy S n = gy (don S i) n + 1
 | 0, h => by omega
 | n + 1, h => by
  simp only [gy]
  by_cases e : n = i
  ·subst e
   rw [cnt_le S n n (Nat.le_refl _)]
   simp [don, hi]
  ·rw [cnt_don S i hi n (by omega)]
   simp [don, e]
   omega
theorem px (S : Nat → Bool) : ∀ n, gy S n = 0 → ∀ i, i < n → S i = true
 | 0, _, i, hi => by omega
 | n + 1, h, i, hi => by
  simp only [gy] at h
  by_cases e : i = n
  ·subst e
   cases hs : S i with
   | true => rfl
   | false => rw [hs] at h; simp at h
  ·exact px S n (by omega) i (by omega)
section
variable {P : Program} {ops : Array Oper} {Q : Exit → Act → World → Prop}
theorem mem_ready' {listed : Array Bool} (hs : listed.size = ops.size) {i : Nat} : i ∈ Region.ready .any ops listed ↔ listed.getD i false = false ∧ ∃ o, ops[i]? = some o ∧ ∀ e ∈ o.after, Region.binds .any e = true → listed.getD e.on false = true := by
 rw [mem_ready]
 constructor
 ·rintro ⟨h, o, ho, ha⟩
  have hlt : i < listed.size := by rw [hs]; exact (Array.getElem?_eq_some_iff.1 ho).1
  exact ⟨by simpa [hlt] using h, o, ho, ha⟩
 ·rintro ⟨h, o, ho, ha⟩
  have hlt : i < listed.size := by rw [hs]; exact (Array.getElem?_eq_some_iff.1 ho).1
  exact ⟨by simpa [hlt] using h, o, ho, ha⟩
theorem all_done (hback : ∀ (i : Nat) (o : Oper), ops[i]? = some o → ∀ e ∈ o.after, e.on < i) (listed : Array Bool) (hs : listed.size = ops.size) (h : Region.ready .any ops listed = []) : ∀ i, i < ops.size → listed.getD i false = true := by
 intro i
 induction i using Nat.strongRecOn with
 | _ i ih =>
  intro hi
  cases hl : listed.getD i false with
  | true => rfl
  | false =>
   exfalso
   have hm : i ∈ Region.ready .any ops listed := by
    rw [mem_ready' hs]
    refine ⟨hl, ops[i], by simp [hi], fun e he _ => ?_⟩
    have hlt := hback i ops[i] (by simp [hi]) e he
    exact ih e.on hlt (by omega)
   rw [h] at hm
   cases hm
theorem wpAny_inv (I : (Nat → Bool) → Act → World → Prop) (hback : ∀ (i : Nat) (o : Oper), ops[i]? = some o → ∀ e ∈ o.after, e.on < i)
  (hstep : ∀ S i o a w, ops[i]? = some o → S i = false → (∀ e ∈ o.after, Region.binds .any e = true → S e.on = true) → I S a w → wpOp P ops Q i (I (don S i)) a w)
  (hend : ∀ S a w, (∀ i, i < ops.size → S i = true) → I S a w → Q .normal a w) :
  ∀ (fuel : Nat) (listed : Array Bool) (a : Act) (w : World), listed.size = ops.size → gy (fun i => listed.getD i false) ops.size ≤ fuel → I (fun i => listed.getD i false) a w → wpAny P .any ops Q fuel listed a w
 | 0, listed, a, w, hs, hc, hI => by
  have hall := px _ _ (Nat.le_zero.1 hc)
  refine ⟨?_, hend _ a w hall hI⟩
  cases hr : Region.ready .any ops listed with
  | nil => rfl
  | cons i rs =>
   have hm : i ∈ Region.ready .any ops listed := by rw [hr]; exact List.mem_cons_self
   rw [mem_ready' hs] at hm
   obtain ⟨h1, o, ho, _⟩ := hm
   have := hall i (Array.getElem?_eq_some_iff.1 ho).1
   rw [this] at h1
   cases h1
 | fuel + 1, listed, a, w, hs, hc, hI => by
  refine ⟨fun hr => hend _ a w (all_done hback listed hs hr) hI, fun i hm => ?_⟩
  rw [mem_ready' hs] at hm
  obtain ⟨h1, o, ho, ha⟩ := hm
  have hlt : i < ops.size := (Array.getElem?_eq_some_iff.1 ho).1
  have hS : (fun j => (listed.setIfInBounds i true).getD j false) = don (fun j => listed.getD j false) i := by
   funext j
   simp only [don]
   by_cases e : j = i
   ·subst e
    simp [hs, hlt]
   ·rw [if_neg e, getD_set_ne false (Ne.symm e)]
  refine wpOp_mono (fun a' w' h => ?_) (hstep _ i o a w ho h1 ha hI)
  refine wpAny_inv I hback hstep hend fuel _ a' w' (by simp [hs]) ?_ ?_
  ·rw [hS]
   have := cnt_don (fun j => listed.getD j false) i h1 ops.size hlt
   omega
  ·rw [hS]
   exact h
theorem wp_region_inv {id : Nat} {a : Act} {w : World} (hm : P.follows .mixedOrders = true) (I : (Nat → Bool) → Act → World → Prop) (hback : ∀ (i : Nat) (o : Oper), ops[i]? = some o → ∀ e ∈ o.after, e.on < i)
  (hstep : ∀ S i o a w, ops[i]? = some o → S i = false → (∀ e ∈ o.after, Region.binds .any e = true → S e.on = true) → I S a w → wpOp P ops Q i (I (don S i)) a w)
  (hend : ∀ S a w, (∀ i, i < ops.size → S i = true) → I S a w → Q .normal a w) (h0 : I (fun _ => false) a w.drew) : (Code.region id ops true).wp P Q a w := by
 refine wp_region_any hm (wpAny_inv I hback hstep hend ops.size _ a _ (by simp) ?_ ?_)
 ·have : ∀ (S : Nat → Bool) n, gy S n ≤ n := by
   intro S n
   induction n with
   | zero => exact Nat.le_refl _
   | succ n ih => simp only [gy]; split <;> omega
  exact this _ _
 ·have e : (fun i => (Array.replicate ops.size false).getD i false) = fun _ => false := by
   funext i
   by_cases hi : i < ops.size <;> simp [hi]
  rw [e]
  exact h0
end
def backB (ops : Array Oper) : Bool := (List.range ops.size).all fun i => match ops[i]? with | some o => o.after.all (fun e => decide (e.on < i)) | none => true
theorem back_of {ops : Array Oper} (h : backB ops = true) : ∀ (i : Nat) (o : Oper), ops[i]? = some o → ∀ e ∈ o.after, e.on < i := by
 intro i o ho e he
 have hlt : i < ops.size := (Array.getElem?_eq_some_iff.1 ho).1
 have h1 := List.all_eq_true.1 h i (List.mem_range.2 hlt)
 rw [ho] at h1
 have h2 := Array.all_eq_true_iff_forall_mem.1 h1 e he
 exact of_decide_eq_true h2
end Go.Proofs.YtofeifhecboinaaGreatH
namespace Go.Proofs.YtofeifhecboinaaGreat.E
open Go.RowKit Go.Proofs.YtofeifhecboinaaGreatH
theorem blk_cell {w : World} {g : Nat} {t : TypeId} {cs : Array Value} (h : w.heap[g]? = some (.cells cs t (0, 0))) (i : Nat) : w.cell? ⟨g, i, none⟩ = cs[i]? := cell_of_row w g i cs t (0, 0) h
theorem run_store_func {P : Program} {w : World} {a : Addr} {m : Mode} (f : Fn) (x y : Array Value) : (store a (.func f x y) m).run P w = stored P w a (.func f x y) m := run_store P w a _ m rfl
attribute [local go_sem] run_store_func
inductive GK | al (s : ByteArray) | dup | swp | two
def gk (k : Int) : Option (ByteArray × GK) :=
 if k = 1 ∨ k = 11 ∨ k = 13 ∨ k = 15 ∨ k = 17 then some (⟨#[]⟩, .al ⟨#[105]⟩)
 else if k = 12 ∨ k = 14 ∨ k = 16 ∨ k = 18 then some (⟨#[105]⟩, .al ⟨#[]⟩)
 else if k = 2 then some (⟨#[32]⟩, .al ⟨#[]⟩)
 else if k = 3 then some (⟨#[32]⟩, .dup)
 else if k = 4 then some (⟨#[32, 32]⟩, .swp)
 else if k = 5 then some (⟨#[105, 105]⟩, .two)
 else if k = 6 then some (⟨#[105]⟩, .al ⟨#[105]⟩)
 else if k = 7 then some (⟨#[98]⟩, .al ⟨#[98]⟩)
 else if k = 8 ∨ k = 9 then some (⟨#[98, 98]⟩, .al ⟨#[98]⟩)
 else if k = 10 then some (⟨#[98]⟩, .al ⟨#[105]⟩)
 else if k = 20 then some (⟨#[98]⟩, .al ⟨#[]⟩)
 else none
def gfn (BB : Nat) (w : World) (f : Value) : GK → Prop
 | .al s => ∃ p : Nat, BB ≤ p ∧ f = .func (.func 281) #[] #[.pointer (some ⟨p, 0, none⟩)] ∧ w.heap[p]? = some (.cells #[.string s] 9 (0, 0))
 | .dup => f = .func (.func 271) #[] #[]
 | .swp => f = .func (.func 272) #[] #[]
 | .two => f = .func (.func 273) #[] #[]
def Good (BB : Nat) (w : World) (k : Int) (v : Value) : Prop := ∃ t g f, gk k = some (t, g) ∧ v = .agg #[.string t, f] ∧ gfn BB w f g
def KeepC (w w' : World) : Prop := ∀ (k : Nat) (cs : Array Value) (t : TypeId) (sh : Nat × Nat), w.heap[k]? = some (.cells cs t sh) → w'.heap[k]? = some (.cells cs t sh)
theorem KeepC.refl (w : World) : KeepC w w := fun _ _ _ _ h => h
theorem KeepC.trans {a b c : World} (h : KeepC a b) (h2 : KeepC b c) : KeepC a c := fun k cs t sh hk => h2 k cs t sh (h k cs t sh hk)
theorem KeepC.alloc (w : World) (o : Obj) : KeepC w (w.alloc o) := fun k cs t sh hk => by
 have hlt : k < w.heap.size := (Array.getElem?_eq_some_iff.1 hk).1
 rw [Below.heap_alloc _ _ _ hlt]
 exact hk
theorem KeepC.below {w w' : World} (h : Below w.heap.size w w') : KeepC w w' := fun k cs t sh hk => by
 have hlt : k < w.heap.size := (Array.getElem?_eq_some_iff.1 hk).1
 rw [h.block k hlt]
 exact hk
theorem KeepC.map {w w' : World} {b : Nat} {es : Array MapEntry} {c : Nat} (hb : w.heap[b]? = some (.map es c)) (hg : w.grownBy w' (some b)) : KeepC w w' := fun k cs t sh hk => by
 have hlt : k < w.heap.size := (Array.getElem?_eq_some_iff.1 hk).1
 rw [hg.block k hlt (fun e => by injection e with e; subst e; rw [hb] at hk; cases hk)]
 exact hk
theorem gfn_keep {BB : Nat} {w w' : World} (h : KeepC w w') {f : Value} : ∀ {g : GK}, gfn BB w f g → gfn BB w' f g
 | .al s, ⟨p, e0, e, hp⟩ => ⟨p, e0, e, h _ _ _ _ hp⟩
 | .dup, e => e
 | .swp, e => e
 | .two, e => e
theorem Good.keep {BB : Nat} {w w' : World} (h : KeepC w w') {k : Int} {v : Value} : Good BB w k v → Good BB w' k v
 | ⟨t, g, f, e, e2, hg⟩ => ⟨t, g, f, e, e2, gfn_keep h hg⟩
def vp (BB : Nat) : Nat → Option (Nat × (World → Value → Prop))
 | 1 => some (11, (fun W v => Good BB W 1 v))
 | 3 => some (12, (fun W v => Good BB W 11 v))
 | 5 => some (13, (fun W v => Good BB W 13 v))
 | 7 => some (14, (fun W v => Good BB W 15 v))
 | 9 => some (15, (fun W v => Good BB W 17 v))
 | 11 => some (16, (fun W v => Good BB W 12 v))
 | 13 => some (17, (fun W v => Good BB W 14 v))
 | 15 => some (18, (fun W v => Good BB W 16 v))
 | 17 => some (19, (fun W v => Good BB W 18 v))
 | 19 => some (20, (fun W v => gfn BB W v (.al ⟨#[]⟩)))
 | 20 => some (21, (fun W v => Good BB W 2 v))
 | 22 => some (22, (fun W v => Good BB W 3 v))
 | 24 => some (23, (fun W v => Good BB W 4 v))
 | 26 => some (24, (fun W v => Good BB W 5 v))
 | 28 => some (25, (fun W v => gfn BB W v (.al ⟨#[105]⟩)))
 | 29 => some (26, (fun W v => Good BB W 6 v))
 | 31 => some (27, (fun W v => gfn BB W v (.al ⟨#[98]⟩)))
 | 32 => some (28, (fun W v => Good BB W 7 v))
 | 34 => some (29, (fun W v => Good BB W 8 v))
 | 36 => some (30, (fun W v => Good BB W 9 v))
 | 38 => some (31, (fun W v => gfn BB W v (.al ⟨#[105]⟩)))
 | 39 => some (32, (fun W v => Good BB W 10 v))
 | 41 => some (33, (fun W v => gfn BB W v (.al ⟨#[]⟩)))
 | 42 => some (34, (fun W v => Good BB W 20 v))
 | _ => none
def ins : Nat → Option Int
 | 2 => some 1
 | 4 => some 11
 | 6 => some 13
 | 8 => some 15
 | 10 => some 17
 | 12 => some 12
 | 14 => some 14
 | 16 => some 16
 | 18 => some 18
 | 21 => some 2
 | 23 => some 3
 | 25 => some 4
 | 27 => some 5
 | 30 => some 6
 | 33 => some 7
 | 35 => some 8
 | 37 => some 9
 | 40 => some 10
 | 43 => some 20
 | _ => none
def vidx : Nat → Nat
 | 11 => 1
 | 12 => 3
 | 13 => 5
 | 14 => 7
 | 15 => 9
 | 16 => 11
 | 17 => 13
 | 18 => 15
 | 19 => 17
 | 20 => 19
 | 21 => 20
 | 22 => 22
 | 23 => 24
 | 24 => 26
 | 25 => 28
 | 26 => 29
 | 27 => 31
 | 28 => 32
 | 29 => 34
 | 30 => 36
 | 31 => 38
 | 32 => 39
 | 33 => 41
 | 34 => 42
 | _ => 0
def iidx (k : Int) : Nat := if k = 1 then 2 else if k = 11 then 4 else if k = 13 then 6 else if k = 15 then 8 else if k = 17 then 10 else if k = 12 then 12 else if k = 14 then 14 else if k = 16 then 16 else if k = 18 then 18 else if k = 2 then 21 else if k = 3 then 23 else if k = 4 then 25 else if k = 5 then 27 else if k = 6 then 30 else if k = 7 then 33 else if k = 8 then 35 else if k = 9 then 37 else if k = 10 then 40 else if k = 20 then 43 else 0
def RV (v : Value) : Option (DataW Value × List MemPlace) := some (.held v, [])
structure Inv (BB : Nat) (W0 : World) (B1 B2 B3 : Nat) (S : Nat → Bool) (a : Act) (W : World) : Prop where
 base : BB ≤ W0.heap.size
 size : a.tmps.size = 36
 defs : a.defers = []
 keep : KeepC W0 W
 below : Below W0.heap.size W0 W
 s1 : a.eval (.tmp 1) = .pointer (some ⟨B1, 0, none⟩)
 s2 : a.eval (.tmp 2) = .pointer (some ⟨B2, 0, none⟩)
 s3 : a.eval (.tmp 3) = .pointer (some ⟨B3, 0, none⟩)
 vals : ∀ j t p, vp BB j = some (t, p) → S j = true → p W (a.eval (.tmp t))
 made : ∀ j k, ins j = some k → S j = true → S 0 = true
 map : S 0 = true → ∃ (b n : Nat) (D : DataW Value), a.eval (.tmp 10) = .map (some b) ∧ W0.heap.size ≤ b ∧ W.ownsMap Tryz.prog 3 RV b n D ∧ n + gy S 46 ≤ 46 ∧ ∀ k : Int, (Lit.int .i64 k).wf = true → ((∃ v, (∀ zd, D.atKey (.int .i64 k) zd = .held v) ∧ Good BB W k v ∧ ∃ j, ins j = some k ∧ S j = true) ∨ ((∀ zd, D.atKey (.int .i64 k) zd = zd) ∧ ∀ j, ins j = some k → S j = false))
 mv : S 44 = true → S 0 = true ∧ a.eval (.tmp 35) = a.eval (.tmp 10)
 rs : S 45 = true → S 44 = true ∧ a.eval (.tmp 0) = a.eval (.tmp 35)
theorem eval_put_ne (a : Act) (d t : Nat) (v : Value) (h : d ≠ t) : (a.put (some d) v).eval (.tmp t) = a.eval (.tmp t) := Act.eval_put (fun d' e e2 => by cases e; cases e2; exact h rfl)
theorem eval_put_eq (a : Act) (d : Nat) (v : Value) (h : d < a.tmps.size) : (a.put (some d) v).eval (.tmp d) = v := by
 simp [Act.put, Act.eval, h]
theorem vp_keep {BB : Nat} {w w' : World} (h : KeepC w w') {j t : Nat} {p : World → Value → Prop} (hv : vp BB j = some (t, p)) {v : Value} (hp : p w v) : p w' v := by
 unfold vp at hv
 split at hv <;> first
  | (injection hv with hv; injection hv with h1 h2; subst h2; exact Good.keep h hp)
  | (injection hv with hv; injection hv with h1 h2; subst h2; exact gfn_keep h hp)
  | cases hv
theorem vp_tmp {BB : Nat} {j t : Nat} {p : World → Value → Prop} (hv : vp BB j = some (t, p)) : 11 ≤ t ∧ t ≤ 34 ∧ vidx t = j ∧ 0 < j ∧ j < 44 ∧ ins j = none := by
 unfold vp at hv
 split at hv <;> first
  | (injection hv with hv; injection hv with h1 h2; subst h1; decide)
  | cases hv
theorem ins_idx {BB : Nat} {j : Nat} {k : Int} (hv : ins j = some k) : iidx k = j ∧ 0 < j ∧ j < 44 ∧ vp BB j = none ∧ (Lit.int .i64 k).wf = true := by
 unfold ins at hv
 split at hv <;> first
  | (injection hv with hv; subst hv; exact ⟨by decide, by decide, by decide, rfl, by decide⟩)
  | cases hv
theorem don_ne {S : Nat → Bool} {i j : Nat} (h : i ≠ j) : don S j i = S i := by simp [don, h]
theorem don_eq {S : Nat → Bool} {j : Nat} : don S j j = true := by simp [don]
section
variable {BB : Nat} {W0 W W' : World} {B1 B2 B3 : Nat} {S : Nat → Bool} {a : Act}
theorem Inv.value (h : Inv BB W0 B1 B2 B3 S a W) {j t : Nat} {p : World → Value → Prop} {v : Value} (hv : vp BB j = some (t, p)) (hS : S j = false) (hk : KeepC W W') (hb : Below W0.heap.size W0 W') (hm : ∀ b n D, W.ownsMap Tryz.prog 3 RV b n D → W'.ownsMap Tryz.prog 3 RV b n D) (hp : p W' v) : Inv BB W0 B1 B2 B3 (don S j) (a.put (some t) v) W' := by
 obtain ⟨t1, t2, t3, t4, t5, t6⟩ := vp_tmp hv
 have hne : ∀ x : Nat, x < 11 ∨ 34 < x → (a.put (some t) v).eval (.tmp x) = a.eval (.tmp x) := fun x hx => eval_put_ne a t x v (by omega)
 refine ⟨h.base, by simpa [Act.put] using h.size, h.defs, h.keep.trans hk, hb, (hne 1 (by omega)).trans h.s1, (hne 2 (by omega)).trans h.s2, (hne 3 (by omega)).trans h.s3, ?_, ?_, ?_, ?_, ?_⟩
 ·intro j' t' p' hv' hS'
  by_cases e : j' = j
  ·subst e
   rw [hv] at hv'
   injection hv' with hv'
   injection hv' with e1 e2
   subst e1
   subst e2
   rw [eval_put_eq a t v (by have := h.size; omega)]
   exact hp
  ·rw [don_ne e] at hS'
   rw [eval_put_ne a t t' v (fun e2 => by subst e2; exact e ((vp_tmp hv').2.2.1.symm.trans t3))]
   exact vp_keep hk hv' (h.vals j' t' p' hv' hS')
 ·intro j' k hi hS'
  have e : j' ≠ j := fun e => by subst e; rw [t6] at hi; cases hi
  rw [don_ne e] at hS'
  rw [don_ne (by omega)]
  exact h.made j' k hi hS'
 ·intro h0
  rw [don_ne (by omega)] at h0
  obtain ⟨b, n, D, g1, g2, g3, g4, g5⟩ := h.map h0
  refine ⟨b, n, D, (hne 10 (by omega)).trans g1, g2, hm _ _ _ g3, ?_, fun k hw => ?_⟩
  ·have := cnt_don S j hS 46 (by omega)
   omega
  ·rcases g5 k hw with ⟨x, x1, x2, j', x3, x4⟩ | ⟨x1, x2⟩
   ·exact .inl ⟨x, x1, x2.keep hk, j', x3, by rw [don_ne (fun e => by subst e; rw [t6] at x3; cases x3)]; exact x4⟩
   ·exact .inr ⟨x1, fun j' x3 => by rw [don_ne (fun e => by subst e; rw [t6] at x3; cases x3)]; exact x2 j' x3⟩
 ·intro h0
  rw [don_ne (by omega)] at h0
  rw [don_ne (by omega), hne 35 (by omega), hne 10 (by omega)]
  exact h.mv h0
 ·intro h0
  rw [don_ne (by omega)] at h0
  rw [don_ne (by omega), hne 0 (by omega), hne 35 (by omega)]
  exact h.rs h0
theorem Inv.insert (h : Inv BB W0 B1 B2 B3 S a W) {j : Nat} {k : Int} {v : Value} {b n : Nat} {D : DataW Value} (hi : ins j = some k) (hS : S j = false) (hS0 : S 0 = true) (g1 : a.eval (.tmp 10) = .map (some b)) (g2 : W0.heap.size ≤ b) (g3 : W.ownsMap Tryz.prog 3 RV b n D) (g4 : n + gy S 46 ≤ 46) (g5 : ∀ k : Int, (Lit.int .i64 k).wf = true → ((∃ v, (∀ zd, D.atKey (.int .i64 k) zd = .held v) ∧ Good BB W k v ∧ ∃ j, ins j = some k ∧ S j = true) ∨ ((∀ zd, D.atKey (.int .i64 k) zd = zd) ∧ ∀ j, ins j = some k → S j = false))) (hg : Good BB W k v)
  (hm : W'.ownsMap Tryz.prog 3 RV b (n + 1) (D.put (.int .i64 k) (.held v))) (hgr : W.grownBy W' (some b)) : Inv BB W0 B1 B2 B3 (don S j) a W' := by
 obtain ⟨t1, t2, t3, t4, t5⟩ := ins_idx (BB := BB) hi
 have hk : KeepC W W' := by
  obtain ⟨es, c, hb, _⟩ := g3
  exact KeepC.map hb hgr
 have hD : Maps.IsMap D := by
  obtain ⟨es, c, hb, _, _, e⟩ := g3
  exact ⟨_, e⟩
 refine ⟨h.base, h.size, h.defs, h.keep.trans hk, h.below.grown hgr h.below.size (fun j hj => by cases hj; exact g2), h.s1, h.s2, h.s3, ?_, ?_, ?_, ?_, ?_⟩
 ·intro j' t' p' hv' hS'
  rw [don_ne (fun e => by subst e; rw [t4] at hv'; cases hv')] at hS'
  exact vp_keep hk hv' (h.vals j' t' p' hv' hS')
 ·intro j' k' hi' hS'
  rw [don_ne (by omega)]
  exact hS0
 ·intro _
  refine ⟨b, n + 1, _, g1, g2, hm, ?_, fun k' hw => ?_⟩
  ·have := cnt_don S j hS 46 (by omega)
   omega
  ·by_cases e : k' = k
   ·subst e
    exact .inl ⟨v, fun zd => Maps.atKey_put_same hD (by first | exact trivial | simp [WideAt.IsKeyLit]) _ zd, hg.keep hk, j, hi, don_eq⟩
   ·have hne : (Lit.int IntKind.i64 k') ≠ .int .i64 k := fun e2 => e (by injection e2)
    rcases g5 k' hw with ⟨x, x1, x2, j', x3, x4⟩ | ⟨x1, x2⟩
    ·refine .inl ⟨x, fun zd => (Maps.atKey_put_other hne _ zd).trans (x1 zd), x2.keep hk, j', x3, ?_⟩
     rw [don_ne (fun e2 => by subst e2; rw [hi] at x3; injection x3 with x3; exact e x3.symm)]
     exact x4
    ·refine .inr ⟨fun zd => (Maps.atKey_put_other hne _ zd).trans (x1 zd), fun j' x3 => ?_⟩
     rw [don_ne (fun e2 => by subst e2; rw [hi] at x3; injection x3 with x3; exact e x3.symm)]
     exact x2 j' x3
 ·intro h0
  rw [don_ne (by omega)] at h0 ⊢
  exact h.mv h0
 ·intro h0
  rw [don_ne (by omega)] at h0 ⊢
  exact h.rs h0
end
theorem wpOp_of {P : Program} {ops : Array Oper} {Q : Exit → Act → World → Prop} {i : Nat} {o : Oper} {a : Act} {w : World} {K : Act → World → Prop} (ho : ops[i]? = some o) (hg : o.guard = none) (h : o.wp P a w K Q) : wpOp P ops Q i K a w := by
 unfold wpOp
 rw [ho]
 have hw : Region.wanted o (yielded ops a.tmps) = true := by simp [Region.wanted, hg]
 simp only [hw, if_true]
 exact .inl h
set_option maxHeartbeats 8000000 in
set_option maxRecDepth 100000 in
theorem always_calls (s : ByteArray) (w : World) : Calls Tryz.prog 270 #[.string s] w fun e w' => e = .returned (.func (.func 281) #[] #[.pointer (some ⟨w.heap.size, 0, none⟩)]) ∧ w' = w.alloc (.cells #[.string s] 9) := by
 go_enter Tryz.func270, Tryz.ntmps270
 go_wp2
 go_ret
 exact ⟨rfl, rfl⟩
section
variable {BB : Nat} {W0 W : World} {B1 B2 B3 : Nat} {S : Nat → Bool} {a : Act} {ops : Array Oper} {o : Oper} {Q : Exit → Act → World → Prop}
theorem st_load {j t s B : Nat} {k : Int} {x y : Value} (h : Inv BB W0 B1 B2 B3 S a W) (ho : ops[j]? = some o) (hop : o.op = .load 311 (.tmp s)) (hd : o.dst = some t) (hg : o.guard = none) (hs : a.eval (.tmp s) = .pointer (some ⟨B, 0, none⟩)) (hB : W0.heap[B]? = some (.cells #[x, y] 311 (0, 0))) (hv : vp BB j = some (t, fun W v => Good BB W k v)) (hS : S j = false) (hgd : Good BB W0 k (.agg #[x, y])) : wpOp Tryz.prog ops Q j (Inv BB W0 B1 B2 B3 (don S j)) a W := by
 have hBW := h.keep B _ _ _ hB
 have hx0 : W.cell? ⟨B, 0, none⟩ = some x := (blk_cell hBW 0).trans rfl
 have hx1 : W.cell? ⟨B, 1, none⟩ = some y := (blk_cell hBW 1).trans rfl
 have hu := Tryz.underlying311
 have hI := h.value hv hS (KeepC.refl W) h.below (fun _ _ _ hm => hm) (hgd.keep h.keep)
 refine wpOp_of ho hg ?_
 unfold Oper.wp
 simp only [execOp, hop, hs, hd]
 go_simp
 first | exact hI | trace_state
theorem st_call {j t : Nat} {s : ByteArray} (h : Inv BB W0 B1 B2 B3 S a W) (ho : ops[j]? = some o) (hop : o.op = .call { callee := .value (.func 270), args := #[.const (.string s)], argTypes := #[9] }) (hd : o.dst = some t) (hg : o.guard = none) (hv : vp BB j = some (t, fun W v => gfn BB W v (.al s))) (hS : S j = false) : wpOp Tryz.prog ops Q j (Inv BB W0 B1 B2 B3 (don S j)) a W := by
 refine wpOp_of ho hg ?_
 unfold Oper.wp
 have hrun : (execOp a.eval o).run Tryz.prog W = .ok (.enter 270 #[.string s]) W := by
  simp only [execOp, hop]
  go_simp
 rw [hrun]
 refine (always_calls s W).mono ?_
 rintro e w' ⟨rfl, rfl⟩
 rw [hd]
 exact h.value hv hS (KeepC.alloc W _) (h.below.alloc h.below.size _) (fun _ _ _ hm => hm.alloc _) ⟨W.heap.size, Nat.le_trans h.base h.below.size, rfl, Go.heap_alloc_new W _⟩
theorem st_build {j t : Nat} {k : Int} {F : Fn} {xs ys : Array Value} {x : Operand} {tk : ByteArray} (h : Inv BB W0 B1 B2 B3 S a W) (ho : ops[j]? = some o) (hop : o.op = .build 311 #[(0, .const (.string tk)), (1, x)]) (hd : o.dst = some t) (hg : o.guard = none) (hx : a.eval x = .func F xs ys) (hv : vp BB j = some (t, fun W v => Good BB W k v)) (hS : S j = false) (hgd : Good BB W k (.agg #[.string tk, .func F xs ys])) : wpOp Tryz.prog ops Q j (Inv BB W0 B1 B2 B3 (don S j)) a W := by
 have hu := Tryz.underlying311
 have hI := h.value hv hS (KeepC.refl W) h.below (fun _ _ _ hm => hm) hgd
 refine wpOp_of ho hg ?_
 unfold Oper.wp
 have hrun : (execOp a.eval o).run Tryz.prog W = .ok (.value (.agg #[.string tk, .func F xs ys])) W := by
  have hc : ∀ v, a.eval (.const v) = v := fun _ => rfl
  generalize a.eval = ρ at hx hc
  simp only [execOp, hop]
  go_simp
 rw [hrun]
 show Inv BB W0 B1 B2 B3 (don S j) (a.put o.dst _) W
 rw [hd]
 exact hI
theorem st_ins {j t jv : Nat} {k : Int} (h : Inv BB W0 B1 B2 B3 S a W) (ho : ops[j]? = some o) (hop : o.op = .insert 312 (.tmp 10) (.const (.int .i64 k)) (.tmp t)) (hd : o.dst = none) (hg : o.guard = none) (hi : ins j = some k) (hS : S j = false) (hS0 : S 0 = true) (hv : vp BB jv = some (t, fun W v => Good BB W k v)) (hSv : S jv = true) : wpOp Tryz.prog ops Q j (Inv BB W0 B1 B2 B3 (don S j)) a W := by
 obtain ⟨b, n, D, g1, g2, g3, g4, g5⟩ := h.map hS0
 have hgd := h.vals jv t _ hv hSv
 obtain ⟨t1, t2, t3, t4, t5⟩ := ins_idx (BB := BB) hi
 have hkey : keyOf Tryz.prog 3 (.int .i64 k) = some (.int .i64 k) := Maps.keyOf_int_mk Tryz.underlying3 t5
 obtain ⟨w', hrun, r1, r2⟩ := g3.update (Maps.int_keyed Tryz.underlying3) Tryz.underlying312 (by unfold maxLen; omega) hkey (val := a.eval (.tmp t)) (ps := []) rfl
 refine wpOp_of ho hg ?_
 unfold Oper.wp
 simp [execOp, hop, g1, hrun, Result.andThen, BigFrame.eval_const]
 show Inv BB W0 B1 B2 B3 (don S j) (a.put o.dst undef) w'
 rw [hd]
 exact h.insert hi hS hS0 g1 g2 g3 g4 g5 hgd r1 r2
end
theorem cnt_max (S : Nat → Bool) : ∀ n, gy S n ≤ n
 | 0 => Nat.le_refl _
 | n + 1 => by
  have := cnt_max S n
  simp only [gy]
  split <;> omega
theorem gk_ins {k : Int} (h : gk k ≠ none) : ∃ j, ins j = some k := by
 unfold gk at h
 repeat' split at h
 all_goals first
  | exact absurd rfl h
  | (rename_i hk; rcases hk with rfl | rfl | rfl | rfl | rfl <;> first | exact ⟨2, rfl⟩ | exact ⟨4, rfl⟩ | exact ⟨6, rfl⟩ | exact ⟨8, rfl⟩ | exact ⟨10, rfl⟩)
  | (rename_i hk; rcases hk with rfl | rfl | rfl | rfl <;> first | exact ⟨12, rfl⟩ | exact ⟨14, rfl⟩ | exact ⟨16, rfl⟩ | exact ⟨18, rfl⟩)
  | (rename_i hk; rcases hk with rfl | rfl <;> first | exact ⟨35, rfl⟩ | exact ⟨37, rfl⟩)
  | (rename_i hk; subst hk; first | exact ⟨21, rfl⟩ | exact ⟨23, rfl⟩ | exact ⟨25, rfl⟩ | exact ⟨27, rfl⟩ | exact ⟨30, rfl⟩ | exact ⟨33, rfl⟩ | exact ⟨40, rfl⟩ | exact ⟨43, rfl⟩)
section
variable {BB : Nat} {W0 W : World} {B1 B2 B3 : Nat} {S : Nat → Bool} {a : Act} {ops : Array Oper} {o : Oper} {Q : Exit → Act → World → Prop}
theorem st_make (h : Inv BB W0 B1 B2 B3 S a W) (ho : ops[0]? = some o) (hop : o.op = .makeMap 312 none) (hd : o.dst = some 10) (hg : o.guard = none) (hS : S 0 = false) : wpOp Tryz.prog ops Q 0 (Inv BB W0 B1 B2 B3 (don S 0)) a W := by
 have hmm := @run_makeMap Tryz.prog
 refine wpOp_of ho hg ?_
 have hrun : (execOp a.eval o).run Tryz.prog W = .ok (.value (.map (some W.heap.size))) (W.alloc (.map #[] 0)) := by
  simp only [execOp, hop]
  go_simp
 unfold Oper.wp
 rw [hrun]
 show Inv BB W0 B1 B2 B3 (don S 0) (a.put o.dst _) _
 rw [hd]
 have hno : ∀ j k, ins j = some k → S j = false := fun j k hi => by
  cases hj : S j with
  | false => rfl
  | true => have := h.made j k hi hj; rw [hS] at this; cases this
 have h44 : S 44 = false := by
  cases hj : S 44 with
  | false => rfl
  | true => have := (h.mv hj).1; rw [hS] at this; cases this
 have h45 : S 45 = false := by
  cases hj : S 45 with
  | false => rfl
  | true => have := (h.rs hj).1; rw [h44] at this; cases this
 have hne : ∀ x : Nat, x ≠ 10 → (a.put (some 10) (.map (some W.heap.size))).eval (.tmp x) = a.eval (.tmp x) := fun x hx => eval_put_ne a 10 x _ (by omega)
 refine ⟨h.base, by simpa [Act.put] using h.size, h.defs, h.keep.trans (KeepC.alloc W _), h.below.alloc h.below.size _, (hne 1 (by omega)).trans h.s1, (hne 2 (by omega)).trans h.s2, (hne 3 (by omega)).trans h.s3, ?_, ?_, ?_, ?_, ?_⟩
 ·intro j t p hv hSj
  obtain ⟨t1, t2, t3, t4, t5, t6⟩ := vp_tmp hv
  rw [don_ne (by omega)] at hSj
  rw [hne t (by omega)]
  exact vp_keep (KeepC.alloc W _) hv (h.vals j t p hv hSj)
 ·intro j k hi hSj
  exact don_eq
 ·intro _
  refine ⟨W.heap.size, 0, .map [], eval_put_eq a 10 _ (by have := h.size; omega), h.below.size, World.ownsMap_made _ _ _ _, by have := cnt_max (don S 0) 46; omega, fun k hw => .inr ⟨fun zd => rfl, fun j hi => ?_⟩⟩
  rw [don_ne (by have := ins_idx (BB := BB) hi; omega)]
  exact hno j k hi
 ·intro h0
  rw [don_ne (by omega), h44] at h0
  cases h0
 ·intro h0
  rw [don_ne (by omega), h45] at h0
  cases h0
theorem st_move (h : Inv BB W0 B1 B2 B3 S a W) (ho : ops[44]? = some o) (hop : o.op = .move (.tmp 10)) (hd : o.dst = some 35) (hg : o.guard = none) (hS : S 44 = false) (hS0 : S 0 = true) : wpOp Tryz.prog ops Q 44 (Inv BB W0 B1 B2 B3 (don S 44)) a W := by
 refine wpOp_of ho hg ?_
 have hrun : (execOp a.eval o).run Tryz.prog W = .ok (.value (a.eval (.tmp 10))) W := by
  simp only [execOp, hop]
  go_simp
 unfold Oper.wp
 rw [hrun]
 show Inv BB W0 B1 B2 B3 (don S 44) (a.put o.dst _) _
 rw [hd]
 have h45 : S 45 = false := by
  cases hj : S 45 with
  | false => rfl
  | true => have := (h.rs hj).1; rw [hS] at this; cases this
 have hne : ∀ x : Nat, x ≠ 35 → (a.put (some 35) (a.eval (.tmp 10))).eval (.tmp x) = a.eval (.tmp x) := fun x hx => eval_put_ne a 35 x _ (by omega)
 refine ⟨h.base, by simpa [Act.put] using h.size, h.defs, h.keep, h.below, (hne 1 (by omega)).trans h.s1, (hne 2 (by omega)).trans h.s2, (hne 3 (by omega)).trans h.s3, ?_, ?_, ?_, ?_, ?_⟩
 ·intro j t p hv hSj
  obtain ⟨t1, t2, t3, t4, t5, t6⟩ := vp_tmp hv
  rw [don_ne (by omega)] at hSj
  rw [hne t (by omega)]
  exact h.vals j t p hv hSj
 ·intro j k hi hSj
  rw [don_ne (by omega)]
  exact hS0
 ·intro h0
  obtain ⟨b, n, D, g1, g2, g3, g4, g5⟩ := h.map hS0
  refine ⟨b, n, D, (hne 10 (by omega)).trans g1, g2, g3, by have := cnt_don S 44 hS 46 (by omega); omega, fun k hw => ?_⟩
  rcases g5 k hw with ⟨x, x1, x2, j', x3, x4⟩ | ⟨x1, x2⟩
  ·exact .inl ⟨x, x1, x2, j', x3, by rw [don_ne (by have := ins_idx (BB := BB) x3; omega)]; exact x4⟩
  ·exact .inr ⟨x1, fun j' x3 => by rw [don_ne (by have := ins_idx (BB := BB) x3; omega)]; exact x2 j' x3⟩
 ·intro _
  rw [don_ne (by omega)]
  exact ⟨hS0, by rw [eval_put_eq a 35 _ (by have := h.size; omega), hne 10 (by omega)]⟩
 ·intro h0
  rw [don_ne (by omega), h45] at h0
  cases h0
theorem st_res (h : Inv BB W0 B1 B2 B3 S a W) (ho : ops[45]? = some o) (hop : o.op = .assign (.tmp 35)) (hd : o.dst = some 0) (hg : o.guard = none) (hS : S 45 = false) (hS44 : S 44 = true) : wpOp Tryz.prog ops Q 45 (Inv BB W0 B1 B2 B3 (don S 45)) a W := by
 refine wpOp_of ho hg ?_
 have hrun : (execOp a.eval o).run Tryz.prog W = .ok (.value (a.eval (.tmp 35))) W := by
  simp only [execOp, hop]
  go_simp
 unfold Oper.wp
 rw [hrun]
 show Inv BB W0 B1 B2 B3 (don S 45) (a.put o.dst _) _
 rw [hd]
 have hS0 := (h.mv hS44).1
 have hne : ∀ x : Nat, x ≠ 0 → (a.put (some 0) (a.eval (.tmp 35))).eval (.tmp x) = a.eval (.tmp x) := fun x hx => eval_put_ne a 0 x _ (by omega)
 refine ⟨h.base, by simpa [Act.put] using h.size, h.defs, h.keep, h.below, (hne 1 (by omega)).trans h.s1, (hne 2 (by omega)).trans h.s2, (hne 3 (by omega)).trans h.s3, ?_, ?_, ?_, ?_, ?_⟩
 ·intro j t p hv hSj
  obtain ⟨t1, t2, t3, t4, t5, t6⟩ := vp_tmp hv
  rw [don_ne (by omega)] at hSj
  rw [hne t (by omega)]
  exact h.vals j t p hv hSj
 ·intro j k hi hSj
  rw [don_ne (by omega)]
  exact hS0
 ·intro h0
  obtain ⟨b, n, D, g1, g2, g3, g4, g5⟩ := h.map hS0
  refine ⟨b, n, D, (hne 10 (by omega)).trans g1, g2, g3, by have := cnt_don S 45 hS 46 (by omega); omega, fun k hw => ?_⟩
  rcases g5 k hw with ⟨x, x1, x2, j', x3, x4⟩ | ⟨x1, x2⟩
  ·exact .inl ⟨x, x1, x2, j', x3, by rw [don_ne (by have := ins_idx (BB := BB) x3; omega)]; exact x4⟩
  ·exact .inr ⟨x1, fun j' x3 => by rw [don_ne (by have := ins_idx (BB := BB) x3; omega)]; exact x2 j' x3⟩
 ·intro _
  rw [don_ne (by omega), hne 35 (by omega), hne 10 (by omega)]
  exact h.mv hS44
 ·intro _
  rw [don_ne (by omega)]
  exact ⟨hS44, by rw [eval_put_eq a 0 _ (by have := h.size; omega), hne 35 (by omega)]⟩
end
end Go.Proofs.YtofeifhecboinaaGreat.E
namespace Go.Proofs.YtofeifhecboinaaGreat.E
open Go.RowKit Go.Proofs.YtofeifhecboinaaGreatH
attribute [local go_sem] run_store_func
theorem below_alloc {w W : World} (h : Below w.heap.size w W) (o : Obj) : Below w.heap.size w (W.alloc o) := h.alloc h.size o
theorem below_drew {B : Nat} {w W : World} (h : Below B w W) : Below B w W.drew := h.drew
theorem alloc_at {w W : World} {o : Obj} {n : Nat} (hn : W.heap.size = n) : (W.alloc o).heap[n]? = some o := by
 subst hn
 exact Go.heap_alloc_new W o
theorem alloc_sz {W : World} {o : Obj} {n : Nat} (hn : W.heap.size = n) : (W.alloc o).heap.size = n + 1 := by rw [World.size_alloc, hn]
theorem alloc_old {W : World} {o o2 : Obj} {n m : Nat} (hn : W.heap.size = n) (hm : m < n) (h : W.heap[m]? = some o2) : (W.alloc o).heap[m]? = some o2 := by
 rw [Below.heap_alloc _ _ _ (by omega)]
 exact h
theorem alloc6 (w : World) (o0 o1 o2 o3 o4 o5 : Obj) (W0 : World) (e : W0 = (((((w.alloc o0).alloc o1).alloc o2).alloc o3).alloc o4).alloc o5) : W0.heap[w.heap.size]? = some o0 ∧ W0.heap[w.heap.size + 1]? = some o1 ∧ W0.heap[w.heap.size + 1 + 1]? = some o2 ∧ W0.heap[w.heap.size + 1 + 1 + 1]? = some o3 ∧ W0.heap[w.heap.size + 1 + 1 + 1 + 1]? = some o4 ∧ W0.heap[w.heap.size + 1 + 1 + 1 + 1 + 1]? = some o5 := by
 subst e
 have e0 : w.heap.size = w.heap.size := rfl
 have e1 := alloc_sz (o := o0) e0
 have e2 := alloc_sz (o := o1) e1
 have e3 := alloc_sz (o := o2) e2
 have e4 := alloc_sz (o := o3) e3
 have e5 := alloc_sz (o := o4) e4
 refine ⟨?_, ?_, ?_, ?_, ?_, Go.Proofs.YtofeifhecboinaaGreat.E.alloc_at (w := w) e5⟩
 ·exact alloc_old e5 (by omega) (alloc_old e4 (by omega) (alloc_old e3 (by omega) (alloc_old e2 (by omega) (alloc_old e1 (by omega) (alloc_at (w := w) e0)))))
 ·exact alloc_old e5 (by omega) (alloc_old e4 (by omega) (alloc_old e3 (by omega) (alloc_old e2 (by omega) (alloc_at (w := w) e1))))
 ·exact alloc_old e5 (by omega) (alloc_old e4 (by omega) (alloc_old e3 (by omega) (alloc_at (w := w) e2)))
 ·exact alloc_old e5 (by omega) (alloc_old e4 (by omega) (alloc_at (w := w) e3))
 ·exact alloc_old e5 (by omega) (alloc_at (w := w) e4)
set_option maxHeartbeats 8000000 in
set_option maxRecDepth 100000 in
theorem effects_calls (w : World) : Calls Tryz.prog 237 #[] w fun e w' => ∃ (b n : Nat) (D : DataW Value), e = .returned (.map (some b)) ∧ w.heap.size ≤ b ∧ Below w.heap.size w w' ∧ w'.ownsMap Tryz.prog 3 RV b n D ∧ ∀ k : Int, (Lit.int .i64 k).wf = true → ((∃ v, (∀ zd, D.atKey (.int .i64 k) zd = .held v) ∧ Good w.heap.size w' k v) ∨ (gk k = none ∧ ∀ zd, D.atKey (.int .i64 k) zd = zd)) := by
 have hu311 := Tryz.underlying311
 go_enter Tryz.func237, Tryz.ntmps237
 go_wp2
 have HW : ∀ W0 : World, W0 = ((((((w.alloc (.cells #[.string ⟨#[105]⟩] 9)).alloc (.cells #[.string ⟨#[]⟩] 9)).alloc (.cells #[.string ⟨#[]⟩, .func (.func 281) #[] #[.pointer (some ⟨w.heap.size, 0, none⟩)]] 311)).alloc (.cells #[.string ⟨#[105]⟩, .func (.func 281) #[] #[.pointer (some ⟨w.heap.size + 1, 0, none⟩)]] 311)).alloc (.cells #[.string ⟨#[98]⟩] 9)).alloc (.cells #[.string ⟨#[98, 98]⟩, .func (.func 281) #[] #[.pointer (some ⟨w.heap.size + 1 + 1 + 1 + 1, 0, none⟩)]] 311)) → Below w.heap.size w W0 ∧ W0.heap[w.heap.size]? = some (.cells #[.string ⟨#[105]⟩] 9 (0, 0)) ∧ W0.heap[w.heap.size + 1]? = some (.cells #[.string ⟨#[]⟩] 9 (0, 0)) ∧ W0.heap[w.heap.size + 1 + 1]? = some (.cells #[.string ⟨#[]⟩, .func (.func 281) #[] #[.pointer (some ⟨w.heap.size, 0, none⟩)]] 311 (0, 0)) ∧ W0.heap[w.heap.size + 1 + 1 + 1]? = some (.cells #[.string ⟨#[105]⟩, .func (.func 281) #[] #[.pointer (some ⟨w.heap.size + 1, 0, none⟩)]] 311 (0, 0)) ∧ W0.heap[w.heap.size + 1 + 1 + 1 + 1]? = some (.cells #[.string ⟨#[98]⟩] 9 (0, 0)) ∧ W0.heap[w.heap.size + 1 + 1 + 1 + 1 + 1]? = some (.cells #[.string ⟨#[98, 98]⟩, .func (.func 281) #[] #[.pointer (some ⟨w.heap.size + 1 + 1 + 1 + 1, 0, none⟩)]] 311 (0, 0)) := by
  rintro W0 e
  refine ⟨?_, alloc6 w _ _ _ _ _ _ W0 e⟩
  subst e
  repeat (first | exact Below.refl _ _ | refine below_alloc ?_ _)
 obtain ⟨qb, q0, q1, q2, q3, q4, q5⟩ := HW _ rfl
 clear HW
 generalize ((((((w.alloc (.cells #[.string ⟨#[105]⟩] 9)).alloc (.cells #[.string ⟨#[]⟩] 9)).alloc (.cells #[.string ⟨#[]⟩, .func (.func 281) #[] #[.pointer (some ⟨w.heap.size, 0, none⟩)]] 311)).alloc (.cells #[.string ⟨#[105]⟩, .func (.func 281) #[] #[.pointer (some ⟨w.heap.size + 1, 0, none⟩)]] 311)).alloc (.cells #[.string ⟨#[98]⟩] 9)).alloc (.cells #[.string ⟨#[98, 98]⟩, .func (.func 281) #[] #[.pointer (some ⟨w.heap.size + 1 + 1 + 1 + 1, 0, none⟩)]] 311)) = W0 at *
 refine wp_region_inv (by kernel_rfl) (Inv w.heap.size W0 (w.heap.size + 1 + 1) (w.heap.size + 1 + 1 + 1) (w.heap.size + 1 + 1 + 1 + 1 + 1)) ?_ ?_ ?_ ?_
 ·exact back_of (by kernel_rfl)
 ·intro S i o a W ho hS ha hI
  have hlt : i < 46 := (Array.getElem?_eq_some_iff.1 ho).1
  have hcs : i = 0 ∨ i = 1 ∨ i = 2 ∨ i = 3 ∨ i = 4 ∨ i = 5 ∨ i = 6 ∨ i = 7 ∨ i = 8 ∨ i = 9 ∨ i = 10 ∨ i = 11 ∨ i = 12 ∨ i = 13 ∨ i = 14 ∨ i = 15 ∨ i = 16 ∨ i = 17 ∨ i = 18 ∨ i = 19 ∨ i = 20 ∨ i = 21 ∨ i = 22 ∨ i = 23 ∨ i = 24 ∨ i = 25 ∨ i = 26 ∨ i = 27 ∨ i = 28 ∨ i = 29 ∨ i = 30 ∨ i = 31 ∨ i = 32 ∨ i = 33 ∨ i = 34 ∨ i = 35 ∨ i = 36 ∨ i = 37 ∨ i = 38 ∨ i = 39 ∨ i = 40 ∨ i = 41 ∨ i = 42 ∨ i = 43 ∨ i = 44 ∨ i = 45 := by omega
  rcases hcs with rfl | rfl | rfl | rfl | rfl | rfl | rfl | rfl | rfl | rfl | rfl | rfl | rfl | rfl | rfl | rfl | rfl | rfl | rfl | rfl | rfl | rfl | rfl | rfl | rfl | rfl | rfl | rfl | rfl | rfl | rfl | rfl | rfl | rfl | rfl | rfl | rfl | rfl | rfl | rfl | rfl | rfl | rfl | rfl | rfl | rfl
  ·obtain rfl := Option.some.inj ho
   exact st_make hI ho rfl rfl rfl hS
  ·obtain rfl := Option.some.inj ho
   exact st_load hI ho rfl rfl rfl hI.s1 q2 rfl hS ⟨_, _, _, rfl, rfl, ⟨_, Nat.le_refl _, rfl, q0⟩⟩
  ·obtain rfl := Option.some.inj ho
   exact st_ins hI ho rfl rfl rfl rfl hS (ha ⟨0, .data⟩ (by simp) rfl) (jv := 1) rfl (ha ⟨1, .data⟩ (by simp) rfl)
  ·obtain rfl := Option.some.inj ho
   exact st_load hI ho rfl rfl rfl hI.s1 q2 rfl hS ⟨_, _, _, rfl, rfl, ⟨_, Nat.le_refl _, rfl, q0⟩⟩
  ·obtain rfl := Option.some.inj ho
   exact st_ins hI ho rfl rfl rfl rfl hS (ha ⟨0, .data⟩ (by simp) rfl) (jv := 3) rfl (ha ⟨3, .data⟩ (by simp) rfl)
  ·obtain rfl := Option.some.inj ho
   exact st_load hI ho rfl rfl rfl hI.s1 q2 rfl hS ⟨_, _, _, rfl, rfl, ⟨_, Nat.le_refl _, rfl, q0⟩⟩
  ·obtain rfl := Option.some.inj ho
   exact st_ins hI ho rfl rfl rfl rfl hS (ha ⟨0, .data⟩ (by simp) rfl) (jv := 5) rfl (ha ⟨5, .data⟩ (by simp) rfl)
  ·obtain rfl := Option.some.inj ho
   exact st_load hI ho rfl rfl rfl hI.s1 q2 rfl hS ⟨_, _, _, rfl, rfl, ⟨_, Nat.le_refl _, rfl, q0⟩⟩
  ·obtain rfl := Option.some.inj ho
   exact st_ins hI ho rfl rfl rfl rfl hS (ha ⟨0, .data⟩ (by simp) rfl) (jv := 7) rfl (ha ⟨7, .data⟩ (by simp) rfl)
  ·obtain rfl := Option.some.inj ho
   exact st_load hI ho rfl rfl rfl hI.s1 q2 rfl hS ⟨_, _, _, rfl, rfl, ⟨_, Nat.le_refl _, rfl, q0⟩⟩
  ·obtain rfl := Option.some.inj ho
   exact st_ins hI ho rfl rfl rfl rfl hS (ha ⟨0, .data⟩ (by simp) rfl) (jv := 9) rfl (ha ⟨9, .data⟩ (by simp) rfl)
  ·obtain rfl := Option.some.inj ho
   exact st_load hI ho rfl rfl rfl hI.s2 q3 rfl hS ⟨_, _, _, rfl, rfl, ⟨_, by omega, rfl, q1⟩⟩
  ·obtain rfl := Option.some.inj ho
   exact st_ins hI ho rfl rfl rfl rfl hS (ha ⟨0, .data⟩ (by simp) rfl) (jv := 11) rfl (ha ⟨11, .data⟩ (by simp) rfl)
  ·obtain rfl := Option.some.inj ho
   exact st_load hI ho rfl rfl rfl hI.s2 q3 rfl hS ⟨_, _, _, rfl, rfl, ⟨_, by omega, rfl, q1⟩⟩
  ·obtain rfl := Option.some.inj ho
   exact st_ins hI ho rfl rfl rfl rfl hS (ha ⟨0, .data⟩ (by simp) rfl) (jv := 13) rfl (ha ⟨13, .data⟩ (by simp) rfl)
  ·obtain rfl := Option.some.inj ho
   exact st_load hI ho rfl rfl rfl hI.s2 q3 rfl hS ⟨_, _, _, rfl, rfl, ⟨_, by omega, rfl, q1⟩⟩
  ·obtain rfl := Option.some.inj ho
   exact st_ins hI ho rfl rfl rfl rfl hS (ha ⟨0, .data⟩ (by simp) rfl) (jv := 15) rfl (ha ⟨15, .data⟩ (by simp) rfl)
  ·obtain rfl := Option.some.inj ho
   exact st_load hI ho rfl rfl rfl hI.s2 q3 rfl hS ⟨_, _, _, rfl, rfl, ⟨_, by omega, rfl, q1⟩⟩
  ·obtain rfl := Option.some.inj ho
   exact st_ins hI ho rfl rfl rfl rfl hS (ha ⟨0, .data⟩ (by simp) rfl) (jv := 17) rfl (ha ⟨17, .data⟩ (by simp) rfl)
  ·obtain rfl := Option.some.inj ho
   exact st_call hI ho rfl rfl rfl rfl hS
  ·obtain rfl := Option.some.inj ho
   obtain ⟨p, hpB, hp, hc⟩ := hI.vals 19 20 _ rfl (ha ⟨19, .data⟩ (by simp) rfl); exact st_build hI ho rfl rfl rfl hp rfl hS ⟨_, _, _, rfl, rfl, ⟨p, hpB, rfl, hc⟩⟩
  ·obtain rfl := Option.some.inj ho
   exact st_ins hI ho rfl rfl rfl rfl hS (ha ⟨0, .data⟩ (by simp) rfl) (jv := 20) rfl (ha ⟨20, .data⟩ (by simp) rfl)
  ·obtain rfl := Option.some.inj ho
   exact st_build hI ho rfl rfl rfl rfl rfl hS ⟨_, _, _, rfl, rfl, rfl⟩
  ·obtain rfl := Option.some.inj ho
   exact st_ins hI ho rfl rfl rfl rfl hS (ha ⟨0, .data⟩ (by simp) rfl) (jv := 22) rfl (ha ⟨22, .data⟩ (by simp) rfl)
  ·obtain rfl := Option.some.inj ho
   exact st_build hI ho rfl rfl rfl rfl rfl hS ⟨_, _, _, rfl, rfl, rfl⟩
  ·obtain rfl := Option.some.inj ho
   exact st_ins hI ho rfl rfl rfl rfl hS (ha ⟨0, .data⟩ (by simp) rfl) (jv := 24) rfl (ha ⟨24, .data⟩ (by simp) rfl)
  ·obtain rfl := Option.some.inj ho
   exact st_build hI ho rfl rfl rfl rfl rfl hS ⟨_, _, _, rfl, rfl, rfl⟩
  ·obtain rfl := Option.some.inj ho
   exact st_ins hI ho rfl rfl rfl rfl hS (ha ⟨0, .data⟩ (by simp) rfl) (jv := 26) rfl (ha ⟨26, .data⟩ (by simp) rfl)
  ·obtain rfl := Option.some.inj ho
   exact st_call hI ho rfl rfl rfl rfl hS
  ·obtain rfl := Option.some.inj ho
   obtain ⟨p, hpB, hp, hc⟩ := hI.vals 28 25 _ rfl (ha ⟨28, .data⟩ (by simp) rfl); exact st_build hI ho rfl rfl rfl hp rfl hS ⟨_, _, _, rfl, rfl, ⟨p, hpB, rfl, hc⟩⟩
  ·obtain rfl := Option.some.inj ho
   exact st_ins hI ho rfl rfl rfl rfl hS (ha ⟨0, .data⟩ (by simp) rfl) (jv := 29) rfl (ha ⟨29, .data⟩ (by simp) rfl)
  ·obtain rfl := Option.some.inj ho
   exact st_call hI ho rfl rfl rfl rfl hS
  ·obtain rfl := Option.some.inj ho
   obtain ⟨p, hpB, hp, hc⟩ := hI.vals 31 27 _ rfl (ha ⟨31, .data⟩ (by simp) rfl); exact st_build hI ho rfl rfl rfl hp rfl hS ⟨_, _, _, rfl, rfl, ⟨p, hpB, rfl, hc⟩⟩
  ·obtain rfl := Option.some.inj ho
   exact st_ins hI ho rfl rfl rfl rfl hS (ha ⟨0, .data⟩ (by simp) rfl) (jv := 32) rfl (ha ⟨32, .data⟩ (by simp) rfl)
  ·obtain rfl := Option.some.inj ho
   exact st_load hI ho rfl rfl rfl hI.s3 q5 rfl hS ⟨_, _, _, rfl, rfl, ⟨_, by omega, rfl, q4⟩⟩
  ·obtain rfl := Option.some.inj ho
   exact st_ins hI ho rfl rfl rfl rfl hS (ha ⟨0, .data⟩ (by simp) rfl) (jv := 34) rfl (ha ⟨34, .data⟩ (by simp) rfl)
  ·obtain rfl := Option.some.inj ho
   exact st_load hI ho rfl rfl rfl hI.s3 q5 rfl hS ⟨_, _, _, rfl, rfl, ⟨_, by omega, rfl, q4⟩⟩
  ·obtain rfl := Option.some.inj ho
   exact st_ins hI ho rfl rfl rfl rfl hS (ha ⟨0, .data⟩ (by simp) rfl) (jv := 36) rfl (ha ⟨36, .data⟩ (by simp) rfl)
  ·obtain rfl := Option.some.inj ho
   exact st_call hI ho rfl rfl rfl rfl hS
  ·obtain rfl := Option.some.inj ho
   obtain ⟨p, hpB, hp, hc⟩ := hI.vals 38 31 _ rfl (ha ⟨38, .data⟩ (by simp) rfl); exact st_build hI ho rfl rfl rfl hp rfl hS ⟨_, _, _, rfl, rfl, ⟨p, hpB, rfl, hc⟩⟩
  ·obtain rfl := Option.some.inj ho
   exact st_ins hI ho rfl rfl rfl rfl hS (ha ⟨0, .data⟩ (by simp) rfl) (jv := 39) rfl (ha ⟨39, .data⟩ (by simp) rfl)
  ·obtain rfl := Option.some.inj ho
   exact st_call hI ho rfl rfl rfl rfl hS
  ·obtain rfl := Option.some.inj ho
   obtain ⟨p, hpB, hp, hc⟩ := hI.vals 41 33 _ rfl (ha ⟨41, .data⟩ (by simp) rfl); exact st_build hI ho rfl rfl rfl hp rfl hS ⟨_, _, _, rfl, rfl, ⟨p, hpB, rfl, hc⟩⟩
  ·obtain rfl := Option.some.inj ho
   exact st_ins hI ho rfl rfl rfl rfl hS (ha ⟨0, .data⟩ (by simp) rfl) (jv := 42) rfl (ha ⟨42, .data⟩ (by simp) rfl)
  ·obtain rfl := Option.some.inj ho
   exact st_move hI ho rfl rfl rfl hS (ha ⟨0, .data⟩ (by simp) rfl)
  ·obtain rfl := Option.some.inj ho
   exact st_res hI ho rfl rfl rfl hS (ha ⟨44, .data⟩ (by simp) rfl)
 ·intro S a W hall hI
  have hi : ∀ i, i < 46 → S i = true := hall
  obtain ⟨b, n, D, g1, g2, g3, g4, g5⟩ := hI.map (hi 0 (by omega))
  have hr : a.eval (.tmp 0) = .map (some b) := by rw [(hI.rs (hi 45 (by omega))).2, (hI.mv (hi 44 (by omega))).2, g1]
  have hdf := hI.defs
  have hB : Below w.heap.size w W := qb.trans (Below.mono hI.below qb.size)
  have hfin : ∀ k : Int, (Lit.int .i64 k).wf = true → ((∃ v, (∀ zd, D.atKey (.int .i64 k) zd = .held v) ∧ Good w.heap.size W k v) ∨ (gk k = none ∧ ∀ zd, D.atKey (.int .i64 k) zd = zd)) := fun k hw => by
   rcases g5 k hw with ⟨v, x1, x2, _⟩ | ⟨x1, x2⟩
   ·exact .inl ⟨v, x1, x2⟩
   ·refine .inr ⟨Classical.byContradiction fun hne => ?_, x1⟩
    obtain ⟨j, hj⟩ := gk_ins hne
    have h1 := x2 j hj
    rw [hi j (by have := ins_idx (BB := 0) hj; omega)] at h1
    cases h1
  rename_i hK
  refine hK a W ?_
  refine wp_ret ?_
  show bodyPost Tryz.prog Tryz.f237 _ .ret a W
  refine bodyPost_ret (results_tmp (show Tryz.f237.results = #[.tmp 0] from rfl) _ _ _) hdf ?_
  exact ⟨b, n, D, congrArg Ending.returned hr, Nat.le_trans qb.size g2, hB, g3, hfin⟩
 ·refine ⟨qb.size, rfl, rfl, KeepC.below (below_drew (Below.refl _ _)), below_drew (Below.refl _ _), rfl, rfl, rfl, fun _ _ _ _ h => (Bool.noConfusion h), fun _ _ _ h => (Bool.noConfusion h), fun h => (Bool.noConfusion h), fun h => (Bool.noConfusion h), fun h => (Bool.noConfusion h)⟩
end Go.Proofs.YtofeifhecboinaaGreat.E
namespace Go.Proofs.Dk
open Go Go.RowKit
abbrev WL := Go.Proofs.YtofeifhecboinaaGreat.E.GK
abbrev BV := Go.Proofs.YtofeifhecboinaaGreat.E.gk
def ZE : WL → DV
 | .al s => .fn (.func 281) [] [.pi [.sc (.string s)]]
 | .dup => .fn (.func 271) [] []
 | .swp => .fn (.func 272) [] []
 | .two => .fn (.func 273) [] []
def mc (p : ByteArray × WL) : DV := .agg [.sc (.string p.1), ZE p.2]
def yf : List (List Int) := [[1, 11, 13, 15, 17], [12, 14, 16, 18], [2], [3], [4], [5], [6], [7], [8, 9], [10], [20]]
def yg : List DV := [mc (⟨#[]⟩, .al ⟨#[105]⟩), mc (⟨#[105]⟩, .al ⟨#[]⟩), mc (⟨#[32]⟩, .al ⟨#[]⟩), mc (⟨#[32]⟩, .dup), mc (⟨#[32, 32]⟩, .swp), mc (⟨#[105, 105]⟩, .two), mc (⟨#[105]⟩, .al ⟨#[105]⟩), mc (⟨#[98]⟩, .al ⟨#[98]⟩), mc (⟨#[98, 98]⟩, .al ⟨#[98]⟩), mc (⟨#[98]⟩, .al ⟨#[105]⟩), mc (⟨#[98]⟩, .al ⟨#[]⟩)]
theorem tg (n : Int) : eo yf yg n = (BV n).map mc := by
 unfold BV Go.Proofs.YtofeifhecboinaaGreat.E.gk
 simp only [yf, yg, eo, List.any_cons, List.any_nil, bi, aJ, ag, apply_ite (Option.map mc), bJ, Option.map_none]
theorem OF {n : Int} (h : BV n ≠ none) : (Lit.int .i64 n).wf = true := by
 obtain ⟨j, hj⟩ := Go.Proofs.YtofeifhecboinaaGreat.E.gk_ins h
 exact (Go.Proofs.YtofeifhecboinaaGreat.E.ins_idx (BB := 0) hj).2.2.2.2
theorem VW {w : World} {B b n : Nat} {D : DataW Value} (h : w.ownsMap Tryz.prog 3 Go.Proofs.YtofeifhecboinaaGreat.E.RV b n D) (hk : ∀ k : Int, (Lit.int .i64 k).wf = true → ((∃ v, (∀ zd, D.atKey (.int .i64 k) zd = .held v) ∧ Go.Proofs.YtofeifhecboinaaGreat.E.Good B w k v) ∨ (BV k = none ∧ ∀ zd, D.atKey (.int .i64 k) zd = zd))) :
  ∃ es clock val, w.heap[b]? = some (.map es clock) ∧ TabE yf yg val es.toList ∧ ∀ n d, eo yf yg n = some d → Go.Proofs.YtofeifhecboinaaGreat.E.Good B w n (val n) := by
 obtain ⟨es, clock, hb, F, _, rfl⟩ := h
 have hu := Tryz.underlying3
 have key : ∀ e ∈ es.toList, ∃ n, e.key = .int .i64 n ∧ (Lit.int .i64 n).wf = true := by
  intro e he
  obtain ⟨y, hy⟩ := F.reads e he
  have h1 := WideElems.rd_key hy
  revert h1
  generalize e.key = q
  intro h1
  cases q <;> simp [keyOf, hu, mapKey] at h1
  obtain ⟨⟨rfl, h2⟩, _⟩ := h1
  exact ⟨_, rfl, h2⟩
 have one : ∀ e ∈ es.toList, ∀ e' ∈ es.toList, e.key = e'.key → e = e' := by
  have hs := ((MapKept.stamped_iff es clock).1 F.stamped).2.2
  intro e he e' he' hee
  obtain ⟨i, hi, rfl⟩ := bP he
  obtain ⟨j, hj, rfl⟩ := bP he'
  rw [List.pairwise_iff_getElem] at hs
  rcases Nat.lt_trichotomy i j with h | h | h
  ·exact absurd hee (hs i j hi hj h)
  ·subst h; rfl
  ·exact absurd hee.symm (hs j i hj hi h)
 have at_ : ∀ n, (Lit.int .i64 n).wf = true → ((∃ e ∈ es.toList, e.key = .int .i64 n ∧ Go.Proofs.YtofeifhecboinaaGreat.E.Good B w n e.val) ∨ (BV n = none ∧ ∀ e ∈ es.toList, e.key ≠ .int .i64 n)) := by
  intro n hn
  have hkey : keyOf Tryz.prog 3 (.int .i64 n) = some (.int .i64 n) := Maps.keyOf_int_mk hu hn
  have hz0 : (oR Tryz.prog 311).isSome = true := by kernel_rfl
  obtain ⟨its, hits⟩ := Option.isSome_iff_exists.1 hz0
  obtain ⟨it, z, hit, hz1, _⟩ := sS (I := ⟨fun _ => none, fun _ => False⟩) (w := w) hits
  have hz : (zeroValue 311).run Tryz.prog w = .ok z w := by simp [zeroValue, typeInfo, Sem.run_bind, hit, hz1]
  rcases Maps.fit_look false (Maps.int_keyed hu) Tryz.underlying312 hz hb F hkey with ⟨_, h2, h3⟩ | ⟨e0, y, h1, h2, _, h4, h5, _⟩
  ·rcases hk n hn with ⟨v, g1, g2⟩ | ⟨g1, g2⟩
   ·have := (h3 (.lit (.bool true))).symm.trans (g1 _)
    cases this
   ·exact .inr ⟨g1, h2⟩
  ·rcases hk n hn with ⟨v, g1, g2⟩ | ⟨g1, g2⟩
   ·refine .inl ⟨e0, h1, h2, ?_⟩
    have h6 := (h5 (.lit (.bool true))).symm.trans (g1 _)
    simp only [Go.Proofs.YtofeifhecboinaaGreat.E.RV, ab] at h4
    rw [← h4] at h6
    simp only [DataW.held.injEq] at h6
    rw [h6]
    exact g2
   ·have h6 := (h5 (.lit (.bool true))).symm.trans (g2 _)
    simp only [Go.Proofs.YtofeifhecboinaaGreat.E.RV, ab] at h4
    rw [← h4] at h6
    cases h6
 have hex : ∀ n : Int, ∃ v : Value, ∀ e ∈ es.toList, e.key = .int .i64 n → v = e.val := by
  intro n
  by_cases h : ∃ e ∈ es.toList, e.key = .int .i64 n
  ·obtain ⟨e, he, hen⟩ := h
   exact ⟨e.val, fun e' he' hen' => by rw [one e he e' he' (hen.trans hen'.symm)]⟩
  ·exact ⟨default, fun e he hen => absurd ⟨e, he, hen⟩ h⟩
 obtain ⟨val, hval⟩ := Classical.axiomOfChoice hex
 refine ⟨es, clock, val, hb, ⟨fun e he => ?_, fun e he n hn => ⟨hval n e he hn, ?_⟩, fun n hn => ?_⟩, fun n d hd => ?_⟩
 ·obtain ⟨n, hn, _⟩ := key e he
  exact ⟨n, hn⟩
 ·obtain ⟨n', hn', hw⟩ := key e he
  rw [hn] at hn'
  cases hn'
  rcases at_ n hw with ⟨e', _, _, t, g, f, hg, _⟩ | ⟨_, h2⟩
  ·rw [tg, show BV n = _ from hg]; rfl
  ·exact absurd hn (h2 e he)
 ·have hne : BV n ≠ none := by
   rw [tg] at hn
   intro h0
   rw [h0] at hn
   cases hn
  rcases at_ n (OF hne) with ⟨e, h1, h2, _⟩ | ⟨h1, _⟩
  ·exact ⟨e, h1, h2⟩
  ·exact absurd h1 hne
 ·have hne : BV n ≠ none := by
   rw [tg] at hd
   intro h0
   rw [h0] at hd
   cases hd
  rcases at_ n (OF hne) with ⟨e, h1, h2, h3⟩ | ⟨h1, _⟩
  ·rw [hval n e h1 h2]; exact h3
  ·exact absurd h1 hne
def MN : FS := ⟨⟨[], []⟩, ⟨[.tab yf yg], []⟩, Unit, fun _ => ((), ()), fun _ => (), fun _ => some ()⟩
theorem WM {I : In} {w : World} {B : Nat} {p : ByteArray × WL} {v f : Value} (hv : v = .agg #[.string p.1, f]) (hg : Go.Proofs.YtofeifhecboinaaGreat.E.gfn B w f p.2) (hI : ∀ q, B ≤ q → q < w.heap.size → I.R q) : VR I w (mc p) v := by
 obtain ⟨t, g⟩ := p
 subst hv
 refine .agg _ _ (.one _ _ _ _ (.sc _ rfl) rfl ?_)
 have fin : ∀ {d : DV}, VR I w d f → f.oneCell' = true → CR I w [d] [f] := fun hd ho => .one _ _ _ _ hd ho .nil
 cases g with
 | al s =>
  obtain ⟨q, hqB, rfl, hq⟩ := hg
  refine fin (.fn _ _ _ _ _ .nil (.cons _ _ _ _ (.pi _ ⟨q, 0, none⟩ [.string s] rfl (hI q hqB (Array.getElem?_eq_some_iff.1 hq).1) (fun d hd => ?_) (.one _ _ _ _ (.sc _ rfl) rfl .nil) (fun j u hu => ?_)) .nil)) rfl
  ·simp only [aD] at hd
   subst hd
   rfl
  ·cases j with
   | zero =>
    simp only [bm, ab] at hu
    subst hu
    exact (Go.Proofs.YtofeifhecboinaaGreat.E.blk_cell hq 0).trans rfl
   | succ j => simp at hu
 | dup => subst hg; exact fin (.fn _ _ _ _ _ .nil .nil) rfl
 | swp => subst hg; exact fin (.fn _ _ _ _ _ .nil .nil) rfl
 | two => subst hg; exact fin (.fn _ _ _ _ _ .nil .nil) rfl
theorem HR.more {I I' : In} {w w' : World} {H : Heap} (hH : HR I w H) (hι : I'.ι = I.ι) (hR : ∀ b, I'.R b ↔ I.R b ∨ (w.heap.size ≤ b ∧ b < w'.heap.size)) (hw : ∀ b, b < w.heap.size → w'.heap[b]? = w.heap[b]?) (hsz : w.heap.size ≤ w'.heap.size) : HR I' w' H := by
 have hs : Same I I' w w' := ⟨⟨fun b h => (hR b).2 (.inl h), fun b h => hw b (hH.rlt b h)⟩, fun n b h => by rw [hι]; exact h, fun n sz v h => by rw [hι]; exact h⟩
 refine HR.of (fun n b hb => (hH.br hb).keep hs (fun e g h1 h2 => hw g (hH.lt n e g h1 h2).1)) (fun n h => by rw [hι]; exact hH.dom n h) (fun n e b h1 h2 => ?_) (fun n m e e' b h1 h2 h3 h4 => ?_) (fun b h => ?_)
 ·rw [hι] at h1
  obtain ⟨k1, k2⟩ := hH.lt n e b h1 h2
  refine ⟨by omega, fun h => ?_⟩
  rcases (hR b).1 h with h | h
  ·exact k2 h
  ·omega
 ·rw [hι] at h1 h2
  exact hH.inj n m e e' b h1 h2 h3 h4
 ·rcases (hR b).1 h with h | h
  ·have := hH.rlt b h; omega
  ·exact h.2
theorem MO : iU Tryz.prog 237 MN := by
 intro α I w H A args ρ k r x m hH hA hx hρ h
 obtain ⟨rfl, rfl⟩ : A = [] ∧ m = ⟨[], []⟩ := by
  unfold Tmpl.pr at hx
  split at hx
  ·rename_i y m1 hy
   have hl := nk hy
   obtain rfl : A = [] := bn hl
   refine ⟨rfl, ?_⟩
   simp only [MN, eC, ab] at hy
   obtain rfl : m1 = ⟨[], []⟩ := (congrArg Prod.snd hy).symm
   exact (au (congrArg (Option.map Prod.snd) hx)).symm
  ·cases hx
 cases hA
 refine Calls.mono (Go.Proofs.YtofeifhecboinaaGreat.E.effects_calls w) ?_
 rintro e w' ⟨b0, n, D, rfl, hnew, hB, hO, hk⟩
 obtain ⟨es, clock, val, hb, hE, hv⟩ := VW hO hk
 have hbw : b0 < w'.heap.size := (Array.getElem?_eq_some_iff.1 hb).1
 have hw : ∀ b, b < w.heap.size → w'.heap[b]? = w.heap[b]? := hB.block
 refine ⟨⟨I.ι, fun b => I.R b ∨ (w.heap.size ≤ b ∧ b < w'.heap.size)⟩, _, _, _, h, ⟨fun n b h => h, fun b h => .inl h, fun b h _ => hw b h, fun n e b h1 h2 => .inl ⟨n, e, h1, h2⟩, fun b h => ?_, hB.size, hB.os, hB.tape, hB.output⟩, hH.more rfl (fun b => Iff.rfl) hw hB.size, ?_, fun l hl n sz v _ h => h⟩
 ·rcases h with h | h
  ·exact .inl h
  ·exact .inr (.inr h.1)
 ·refine .tab yf yg val b0 es clock ?_ hb hE fun n d hd => ?_
  ·exact .inr ⟨hnew, hbw⟩
  ·obtain ⟨t, g, f, h1, h2, h3⟩ := hv n d hd
   rw [tg, show BV n = _ from h1] at hd
   simp only [bJ, ab] at hd
   subst hd
   exact WM (f := f) h2 h3 fun q h4 h5 => .inr ⟨h4, h5⟩
end Go.Proofs.Dk
