/- A part of the proofs: Families: a member is taken out, and put back. -/
import Derived.Test.YtipefepnkpoiaaaGreatMB2
import Derived.Below
import Derived.Orders
import Derived.Deep.Draws
import Derived.Test.YtipefepnkpoiaaaGreatProg
import Derived.Tactics2
import Derived.RowKit
import Derived.KernelRfl
import Derived.Maps.OwnSet
import Derived.BigFrame
import Derived.WideLaws
import Derived.WalkKit
import Derived.RowKit3
import Derived.OwnWalk
import Derived.OrdersHeld
import Derived.Maps.AppendAt
import Derived.Lib.ConvBytes
import Derived.Lib.AppendStr
import Derived.Laws.Slices
import Derived.Laws.Rows
import Derived.Laws.OwnMore
import Derived.Laws.MakeOwn
import Derived.Laws.IdiomCopy
import Derived.Laws.BytesArg
import Derived.Laws.BitsLemmas
import Derived.Deep.RegionHeld3
import Derived.Deep.QuietTactic
import Derived.Deep.OwnRows
import Derived.Deep.LoopGhost
import Derived.Deep.DeepCutAuto
import Derived.Deep.CutBlock
import Derived.Deep.AppendLies
import Derived.BigQuiet
import Derived.ArgAppend
import Derived.Scope
set_option linter.unusedVariables false
set_option linter.unusedSimpArgs false
noncomputable section
namespace Go.Proofs.Dk
open Go Go.RowKit
theorem oH {n : Nat} : ∀ (a b : List DV), fZ n (a ++ b) = fZ n a ++ fZ n b
 | [], b => rfl
 | d :: r, b => by simp only [List.cons_append, fZ]; rw [oH r b]
theorem xj {n : Nat} : ∀ (s : Sh) (x : s.T), fZ n (s.enc x) = s.enc x
 | .int _, _ => rfl
 | .bool, _ => rfl
 | .str, _ => rfl
 | .pair a b, x => by simp only [Sh.enc]; rw [oH, xj a, xj b]
 | .sl _, _ => rfl
 | .arr _ _, _ => rfl
 | .fp _, _ => rfl
theorem rH {n : Nat} : ∀ (k : List EK) (c : Nat) (x : eM (k.map dz)), fZ n (iq nam0 c (k.map dz) x) = iq nam0 c (k.map dz) x
 | [], c, x => rfl
 | .any :: r, c, x => congrArg (DV.undef :: ·) (rH r (c + 1) x)
 | .val s :: r, c, x => by
  show fZ n (s.enc x.1 ++ iq nam0 (c + 1) (r.map dz) x.2) = s.enc x.1 ++ iq nam0 (c + 1) (r.map dz) x.2
  rw [oH, xj, rH r]
 | .row E s :: r, c, x => congrArg (DV.rw (nam0.r c) :: ·) (rH r (c + 1) x.2)
def Ck (j : Nat) (k : List EK) (x : f9 k) (H : Heap) : Heap := el nam0 1000 (k.map dz) (tf k x) (H.set j (some (.obj (iq nam0 1000 (k.map dz) (tf k x)))))
section
variable {I : In} {w : World} {H : Heap}
theorem Ny {j : Nat} {t : TypeId} {k : List EK} {xs : List (f9 k)} {i : Nat} {x : f9 k} {B : Nat → Nat → Prop} (hH : HR I w H) (hj : H j = some (.fam t k xs)) (hB : I.ι j = some (.fam t B)) (hx : xs[i]? = some x) (hjl : j < 100000) (hfr : ∀ n ∈ de nam0 1000 (k.map dz), H n = none) :
  ∃ b J, (I.R.fam t)[i]? = some b ∧ HR J w (Ck j k x H) ∧ J.R = I.R ∧ J.ι j = some (.obj b) ∧ Same I J w w ∧ (∀ n C, J.ι n ≠ some (.fam t C)) ∧
   (∀ n e, n ≠ j → I.ι n = some e → J.ι n = some e) ∧ ∀ n e, J.ι n = some e → ((∀ s C, e ≠ .fam s C) ∧ ∀ c, e.has c → B i c) ∨ (n ≠ j ∧ I.ι n = some e) := by
 obtain ⟨B', g1, g2, g3, g4, g5⟩ := hH.fam j t k xs hj
 rw [hB] at g1
 simp only [ab, Ent.fam.injEq, true_and] at g1
 subst g1
 have hi : i < xs.length := (List.getElem?_eq_some_iff.1 hx).1
 have hb : (I.R.fam t)[i]? = some ((I.R.fam t)[i]'(by omega)) := ax _
 generalize (I.R.fam t)[i]'(by omega) = b at hb
 obtain ⟨ι, m1, ⟨c0, t0, m2, m3⟩, m4, m5, m6, m7, m8⟩ := g3 i x b hx hb
 have hjn : j ∉ de nam0 1000 (k.map dz) := fun h => by have := ii h; omega
 have h0n : 0 ∉ de nam0 1000 (k.map dz) := fun h => by have := ii h; omega
 have hrn : ∀ n ∈ de nam0 1000 (k.map dz), I.ι n = none := fun n h => hH.dom n (hfr n h)
 have hin : ∀ n e, I.ι n = some e → n ∉ de nam0 1000 (k.map dz) := fun n e h hm => by rw [hrn n hm] at h; cases h
 have hia : ∀ a e, ι a = some e → a = 0 ∨ a ∈ de nam0 1000 (k.map dz) := fun a e h => by
  by_cases h0 : a = 0
  ·exact .inl h0
  ·refine .inr (Decidable.byContradiction fun hm => ?_)
   rw [m5 a h0 (eE hm)] at h
   cases h
 let J : In := ⟨fun n => if n = j then ι 0 else if n ∈ de nam0 1000 (k.map dz) then ι n else I.ι n, I.R⟩
 have jj : J.ι j = some (.obj b) := by show (if j = j then ι 0 else _) = _; rw [if_pos rfl, m1]
 have jr : ∀ n, n ∈ de nam0 1000 (k.map dz) → J.ι n = ι n := fun n h => by
  show (if n = j then ι 0 else if n ∈ de nam0 1000 (k.map dz) then ι n else I.ι n) = _
  rw [if_neg (by rintro rfl; exact hjn h), if_pos h]
 have ji : ∀ n, n ≠ j → n ∉ de nam0 1000 (k.map dz) → J.ι n = I.ι n := fun n h1 h2 => by
  show (if n = j then ι 0 else if n ∈ de nam0 1000 (k.map dz) then ι n else I.ι n) = _
  rw [if_neg h1, if_neg h2]
 have org : ∀ n e, J.ι n = some e → (∃ a, ι a = some e ∧ ((n = j ∧ a = 0) ∨ (n ∈ de nam0 1000 (k.map dz) ∧ a = n))) ∨ (n ≠ j ∧ n ∉ de nam0 1000 (k.map dz) ∧ I.ι n = some e) := by
  intro n e h
  by_cases h1 : n = j
  ·subst h1
   rw [jj, ← m1] at h
   exact .inl ⟨0, h, .inl ⟨rfl, rfl⟩⟩
  ·by_cases h2 : n ∈ de nam0 1000 (k.map dz)
   ·rw [jr n h2] at h
    exact .inl ⟨n, h, .inr ⟨h2, rfl⟩⟩
   ·rw [ji n h1 h2] at h
    exact .inr ⟨h1, h2, h⟩
 have keep : ∀ n e, n ≠ j → I.ι n = some e → J.ι n = some e := fun n e h1 h => by rw [ji n h1 (hin n e h)]; exact h
 have hs : Same I J w w := ⟨Keeps.refl I.R w, fun n b' h => keep n _ (by rintro rfl; rw [hB] at h; cases h) h, fun n sz v h => keep n _ (by rintro rfl; rw [hB] at h; cases h) h⟩
 have hm : ButO 0 ⟨ι, I.R⟩ J w w := ⟨Keeps.refl I.R w, fun a b' ha h => by
   have h' : ι a = some (.obj b') := h
   have h2 := (hia a _ h').resolve_left ha
   rw [jr a h2]
   exact h', fun a sz v h => by
   have h' : ι a = some (.row sz v) := h
   rcases hia a _ h' with rfl | h2
   ·rw [m1] at h'; cases h'
   ·rw [jr a h2]
    exact h'⟩
 have hfam : ∀ n s C, J.ι n = some (.fam s C) → n ≠ j ∧ I.ι n = some (.fam s C) := fun n s C h => by
  rcases org n _ h with ⟨a, h1, _⟩ | ⟨h1, _, h2⟩
  ·exact absurd h1 (m8 a s C)
  ·exact ⟨h1, h2⟩
 refine ⟨b, J, hb, HR.of (fun n bk hn => ?_) (fun n hn => ?_) (fun n e c h hc => ?_) (fun n n' e e' c h h' hc hc' => ?_) hH.rlt (fun n n' s C C' h h' => hH.one n n' s C C' (hfam n s C h).2 (hfam n' s C' h').2), rfl, jj, hs, fun n C h => ?_, keep, fun n e h => ?_⟩
 ·unfold Ck at hn
  by_cases h2 : n ∈ de nam0 1000 (k.map dz)
  ·rw [fR (H' := fun _ => none) (.inl h2)] at hn
   obtain ⟨E, s, ys, e⟩ := iX (ρ := nam0) (x := tf k x) (H := fun _ => none) h2
   rw [e] at hn
   simp only [ab] at hn
   subst hn
   obtain ⟨v, cs, k1, k2, k3⟩ := m4 n E s ys e
   exact ⟨v, cs, by rw [jr n h2]; exact k1, k2, k3⟩
  ·rw [eE h2] at hn
   by_cases h1 : n = j
   ·subst h1
    rw [Heap.set_same] at hn
    simp only [ab] at hn
    subst hn
    refine ⟨b, c0, t0, jj, m2, ?_⟩
    have := CR.subO hm m3
    rw [rH] at this
    exact this
   ·rw [dS h1] at hn
    exact (hH.br hn).keep hs (fun s C h => ⟨keep n _ h1 h, rfl⟩) (fun _ _ _ _ => rfl)
 ·unfold Ck at hn
  have h2 := gX hn
  rw [eE h2] at hn
  by_cases h1 : n = j
  ·subst h1
   rw [Heap.set_same] at hn
   cases hn
  ·rw [dS h1] at hn
   rw [ji n h1 h2]
   exact hH.dom n hn
 ·rcases org n e h with ⟨a, h1, _⟩ | ⟨_, _, h1⟩
  ·exact hH.lt j _ c hB ⟨i, m7 a e c h1 hc⟩
  ·exact hH.lt n e c h1 hc
 ·rcases org n e h with ⟨a, h1, h2⟩ | ⟨p1, p2, h1⟩
  ·rcases org n' e' h' with ⟨a', h1', h2'⟩ | ⟨p1', p2', h1'⟩
   ·have := m6 a a' e e' c h1 h1' hc hc'
    subst this
    rcases h2 with ⟨rfl, h3⟩ | ⟨h4, h3⟩
    ·rcases h2' with ⟨rfl, _⟩ | ⟨h4', h3'⟩
     ·rfl
     ·subst h3; exact absurd (h3' ▸ h4') h0n
    ·rcases h2' with ⟨_, h3'⟩ | ⟨_, h3'⟩
     ·rw [h3'] at h3; exact absurd (h3 ▸ h4) h0n
     ·rw [← h3, ← h3']
   ·exact absurd (hH.inj j n' _ e' c hB h1' ⟨i, m7 a e c h1 hc⟩ hc').symm p1'
  ·rcases org n' e' h' with ⟨a', h1', h2'⟩ | ⟨p1', p2', h1'⟩
   ·exact absurd (hH.inj n j e _ c h1 hB hc ⟨i, m7 a' e' c h1' hc'⟩) p1
   ·exact hH.inj n n' e e' c h1 h1' hc hc'
 ·obtain ⟨h1, h2⟩ := hfam n t C h
  exact h1 (hH.one n j t C B h2 hB)
 ·rcases org n e h with ⟨a, h1, _⟩ | ⟨h1, _, h2⟩
  ·exact .inl ⟨fun s C h => m8 a s C (h ▸ h1), fun c hc => m7 a e c h1 hc⟩
  ·exact .inr ⟨h1, h2⟩
theorem PD {j : Nat} {t : TypeId} {B : Nat → Nat → Prop} (hH : HR I w H) (hB : I.ι j = some (.fam t B)) :
  ∃ J, HR J w (H.set j none) ∧ J.R = I.R ∧ J.ι j = none ∧ Same I J w w ∧ (∀ n C, J.ι n ≠ some (.fam t C)) ∧ (∀ n e, n ≠ j → I.ι n = some e → J.ι n = some e) ∧ ∀ n e, J.ι n = some e → n ≠ j ∧ I.ι n = some e := by
 let J : In := ⟨fun n => if n = j then none else I.ι n, I.R⟩
 have jj : J.ι j = none := by show (if j = j then none else _) = _; rw [if_pos rfl]
 have ji : ∀ n, n ≠ j → J.ι n = I.ι n := fun n h => by show (if n = j then none else I.ι n) = _; rw [if_neg h]
 have org : ∀ n e, J.ι n = some e → n ≠ j ∧ I.ι n = some e := fun n e h => by
  by_cases h1 : n = j
  ·subst h1; rw [jj] at h; cases h
  ·rw [ji n h1] at h; exact ⟨h1, h⟩
 have keep : ∀ n e, n ≠ j → I.ι n = some e → J.ι n = some e := fun n e h1 h => by rw [ji n h1]; exact h
 have hs : Same I J w w := ⟨Keeps.refl I.R w, fun n b' h => keep n _ (by rintro rfl; rw [hB] at h; cases h) h, fun n sz v h => keep n _ (by rintro rfl; rw [hB] at h; cases h) h⟩
 refine ⟨J, HR.of (fun n bk hn => ?_) (fun n hn => ?_) (fun n e c h hc => hH.lt n e c (org n e h).2 hc) (fun n n' e e' c h h' hc hc' => hH.inj n n' e e' c (org n e h).2 (org n' e' h').2 hc hc') hH.rlt (fun n n' s C C' h h' => hH.one n n' s C C' (org n _ h).2 (org n' _ h').2), rfl, jj, hs, fun n C h => ?_, keep, org⟩
 ·by_cases h1 : n = j
  ·subst h1; rw [Heap.set_same] at hn; cases hn
  ·rw [dS h1] at hn
   exact (hH.br hn).keep hs (fun s C h => ⟨keep n _ h1 h, rfl⟩) (fun _ _ _ _ => rfl)
 ·by_cases h1 : n = j
  ·subst h1; exact jj
  ·rw [dS h1] at hn
   rw [ji n h1]
   exact hH.dom n hn
 ·obtain ⟨h1, h2⟩ := org n _ h
  exact h1 (hH.one n j t C B h2 hB)
theorem Fm {I0 I1 I2 I3 : In} {w w' : World} {H0 H3 : Heap} {j : Nat} {t : TypeId} {k : List EK} {xs ys : List (f9 k)} {B : Nat → Nat → Prop} {i : Option Nat} {B1 : Nat → Prop}
  (hH0 : HR I0 w H0) (hj : H0 j = some (.fam t k xs)) (hB : I0.ι j = some (.fam t B)) (hR : I1.R = I0.R) (hrl : ∀ b, I0.R b → b < w.heap.size)
  (hno : ∀ n C, I1.ι n ≠ some (.fam t C)) (hk : ∀ n e, n ≠ j → I0.ι n = some e → I1.ι n = some e) (ho : ∀ n e, I1.ι n = some e → (∃ a, i = some a ∧ (∀ s C, e ≠ .fam s C) ∧ ∀ c, e.has c → B a c) ∨ (n ≠ j ∧ I0.ι n = some e))
  (he : Ext I1 w I2 w') (h3 : HR I3 w' H3) (hR3 : I3.R = I2.R) (hsub : ∀ m e, I3.ι m = some e → I2.ι m = some e) (hobj : ∀ m b, m ≠ j → I2.ι m = some (.obj b) → I3.ι m = some (.obj b)) (hj3 : H3 j = none)
  (hlen : ys.length = xs.length) (hoth : ∀ a, i ≠ some a → ys[a]? = xs[a]?) (hthis : ∀ a x b, i = some a → ys[a]? = some x → (I0.R.fam t)[a]? = some b → MemR I2.R w' k x b B1)
  (hB1 : ∀ c, B1 c → (∃ m e, I2.ι m = some e ∧ e.has c ∧ c < w'.heap.size ∧ ¬ I2.R c) ∧ ∀ m e, I3.ι m = some e → ¬ e.has c) :
  ∃ I4, HR I4 w' (H3.set j (some (.fam t k ys))) ∧ I4.R = I3.R ∧ (∀ m, m ≠ j → I4.ι m = I3.ι m) ∧ Ext I0 w I4 w' ∧ Same I3 I4 w' w' := by
 obtain ⟨B', g1, g2, g3, g4, g5⟩ := hH0.fam j t k xs hj
 rw [hB] at g1
 simp only [ab, Ent.fam.injEq, true_and] at g1
 subst g1
 obtain ⟨f1, f2⟩ := he.famE t hno
 have hF : I3.R.fam t = I0.R.fam t := by rw [hR3, f1, hR]
 have hj3' : I3.ι j = none := h3.dom j hj3
 have k1 : ∀ a c, i ≠ some a → B a c → ∀ n e, I1.ι n = some e → ¬ e.has c := fun a c ha hc n e hn hec => by
  rcases ho n e hn with ⟨a', h1, _, h2⟩ | ⟨h1, h2⟩
  ·exact ha (g4 a a' c hc (h2 c hec) ▸ h1)
  ·exact h1 (hH0.inj n j e _ c h2 hB hec ⟨a, hc⟩)
 have k2 : ∀ a c, B a c → c < w.heap.size ∧ ¬ I0.R c := fun a c hc => hH0.lt j _ c hB ⟨a, hc⟩
 have k3 : ∀ a c, i ≠ some a → B a c → w'.heap[c]? = w.heap[c]? := fun a c ha hc => he.same c (k2 a c hc).1 (k1 a c ha hc)
 have k4 : ∀ a c, i ≠ some a → B a c → ∀ n e, I2.ι n = some e → ¬ e.has c := fun a c ha hc n e hn hec => by
  rcases he.own n e c hn hec with ⟨n', e', h1, h2⟩ | h1
  ·exact k1 a c ha hc n' e' h1 h2
  ·have := (k2 a c hc).1; omega
 have k5 : ∀ a c, i ≠ some a → B a c → ¬ I3.R c := fun a c ha hc h => by
  rw [hR3] at h
  rcases he.newR c h with h1 | ⟨n', e', h1, h2⟩ | h1
  ·rw [hR] at h1; exact (k2 a c hc).2 h1
  ·exact k1 a c ha hc n' e' h1 h2
  ·have := (k2 a c hc).1; omega
 let B4 : Nat → Nat → Prop := fun a c => (i ≠ some a ∧ B a c) ∨ (i = some a ∧ a < xs.length ∧ B1 c)
 let I4 : In := ⟨fun m => if m = j then some (.fam t B4) else I3.ι m, I3.R⟩
 have i4j : I4.ι j = some (.fam t B4) := by show (if j = j then some (Ent.fam t B4) else _) = _; rw [if_pos rfl]
 have i4 : ∀ m, m ≠ j → I4.ι m = I3.ι m := fun m h => by show (if m = j then some (Ent.fam t B4) else I3.ι m) = _; rw [if_neg h]
 have keep : ∀ m e, I3.ι m = some e → I4.ι m = some e := fun m e h => by
  rw [i4 m (by rintro rfl; rw [hj3'] at h; cases h)]
  exact h
 have hs : Same I3 I4 w' w' := ⟨Keeps.refl I3.R w', fun m b h => keep m _ h, fun m sz v h => keep m _ h⟩
 have org : ∀ m e, I4.ι m = some e → (m = j ∧ e = .fam t B4) ∨ (m ≠ j ∧ I3.ι m = some e) := fun m e h => by
  by_cases h1 : m = j
  ·subst h1
   rw [i4j] at h
   exact .inl ⟨rfl, (au h).symm⟩
  ·rw [i4 m h1] at h
   exact .inr ⟨h1, h⟩
 have hno3 : ∀ m C, I3.ι m ≠ some (.fam t C) := fun m C h => f2 m C (hsub m _ h)
 have sep : ∀ a c m e, B4 a c → I3.ι m = some e → ¬ e.has c := fun a c m e hc hm => by
  rcases hc with ⟨h1, h2⟩ | ⟨_, _, h2⟩
  ·exact k4 a c h1 h2 m e (hsub m e hm)
  ·exact (hB1 c h2).2 m e hm
 refine ⟨I4, HR.of (fun m bk hm => ?_) (fun m hm => ?_) (fun m e c h hc => ?_) (fun m m' e e' c h h' hc hc' => ?_) h3.rlt (fun m m' s C C' h h' => ?_), rfl, i4, ⟨fun m b h => ?_, fun b h => ?_, fun b hb hn => ?_, fun m e b h hb => ?_, fun b h => ?_, he.size, he.os, he.tape, he.output, fun s a b h => ?_, fun s hs' => ?_⟩, hs⟩
 ·by_cases h1 : m = j
  ·subst h1
   rw [Heap.set_same] at hm
   simp only [ab] at hm
   subst hm
   refine ⟨B4, i4j, by show (I3.R.fam t).length = _; rw [hF, g2, hlen], fun a x b hx hb => ?_, fun a a' c hc hc' => ?_, fun a c hc => ?_⟩
   ·have hb' : (I0.R.fam t)[a]? = some b := by rw [← hF]; exact hb
    by_cases ha : i = some a
    ·obtain ⟨ι, q1, q2, q3, q4, q5, q6, q7⟩ := hthis a x b ha hx hb'
     have ha' : a < xs.length := by rw [← hlen]; exact (List.getElem?_eq_some_iff.1 hx).1
     show MemR I3.R w' k x b (B4 a)
     rw [hR3]
     exact ⟨ι, q1, q2, q3, q4, q5, fun n e c h1 h2 => .inr ⟨ha, ha', q6 n e c h1 h2⟩, q7⟩
    ·rw [hoth a ha] at hx
     have hkk : Keeps I0.R I3.R w w' := by
      rw [hR3, ← hR]
      refine ⟨he.ro, fun c hc => ?_, he.fam⟩
      rw [hR] at hc
      refine he.same c (hrl c hc) fun n e hn hec => ?_
      rcases ho n e hn with ⟨a', _, _, h2⟩ | ⟨_, h2⟩
      ·exact (k2 a' c (h2 c hec)).2 hc
      ·exact (hH0.lt n e c h2 hec).2 hc
     obtain ⟨ι, q1, q2, q3, q4, q5, q6, q7⟩ := (g3 a x b hx hb').keep hkk (fun c hc => k3 a c ha hc)
     exact ⟨ι, q1, q2, q3, q4, q5, fun n e c h1 h2 => .inl ⟨ha, q6 n e c h1 h2⟩, q7⟩
   ·rcases hc with ⟨h1, h2⟩ | ⟨h1, _, h2⟩
    ·rcases hc' with ⟨h1', h2'⟩ | ⟨h1', _, h2'⟩
     ·exact g4 a a' c h2 h2'
     ·obtain ⟨⟨n, e, p1, p2, _⟩, _⟩ := hB1 c h2'
      exact absurd p2 (k4 a c h1 h2 n e p1)
    ·rcases hc' with ⟨h1', h2'⟩ | ⟨h1', _, h2'⟩
     ·obtain ⟨⟨n, e, p1, p2, _⟩, _⟩ := hB1 c h2
      exact absurd p2 (k4 a' c h1' h2' n e p1)
     ·rw [h1] at h1'
      exact au h1'
   ·rw [hlen]
    rcases hc with ⟨_, h2⟩ | ⟨_, h2, _⟩
    ·exact g5 a c h2
    ·exact h2
  ·rw [dS h1] at hm
   exact (h3.br hm).keep hs (fun s C h => ⟨keep m _ h, rfl⟩) (fun _ _ _ _ => rfl)
 ·by_cases h1 : m = j
  ·subst h1; rw [Heap.set_same] at hm; cases hm
  ·rw [dS h1] at hm
   rw [i4 m h1]
   exact h3.dom m hm
 ·rcases org m e h with ⟨rfl, rfl⟩ | ⟨h1, h2⟩
  ·obtain ⟨a, hc⟩ := hc
   rcases hc with ⟨h1, h2⟩ | ⟨h1, _, h2⟩
   ·exact ⟨bb (k2 a c h2).1 he.size, k5 a c h1 h2⟩
   ·obtain ⟨⟨n, e, _, _, p3, p4⟩, _⟩ := hB1 c h2
    exact ⟨p3, by show ¬ I3.R c; rw [hR3]; exact p4⟩
  ·exact h3.lt m e c h2 hc
 ·rcases org m e h with ⟨rfl, rfl⟩ | ⟨h1, h2⟩
  ·rcases org m' e' h' with ⟨rfl, rfl⟩ | ⟨h1', h2'⟩
   ·rfl
   ·obtain ⟨a, hc⟩ := hc
    exact absurd hc' (sep a c m' e' hc h2')
  ·rcases org m' e' h' with ⟨rfl, rfl⟩ | ⟨h1', h2'⟩
   ·obtain ⟨a, hc'⟩ := hc'
    exact absurd hc (sep a c m e hc' h2)
   ·exact h3.inj m m' e e' c h2 h2' hc hc'
 ·rcases org m _ h with ⟨rfl, e⟩ | ⟨h1, h2⟩
  ·simp only [Ent.fam.injEq] at e
   obtain ⟨rfl, _⟩ := e
   rcases org m' _ h' with ⟨rfl, e⟩ | ⟨h1', h2'⟩
   ·rfl
   ·exact absurd h2' (hno3 m' C')
  ·rcases org m' _ h' with ⟨rfl, e⟩ | ⟨h1', h2'⟩
   ·simp only [Ent.fam.injEq] at e
    obtain ⟨rfl, _⟩ := e
    exact absurd h2 (hno3 m C)
   ·exact h3.one m m' s C C' h2 h2'
 ·have hmj : m ≠ j := by rintro rfl; rw [hB] at h; cases h
  exact keep m _ (hobj m b hmj (he.obj m b (hk m _ hmj h)))
 ·show I3.R b
  rw [hR3]
  exact he.ro b (by rw [hR]; exact h)
 ·refine he.same b hb fun n e hn' hec => ?_
  rcases ho n e hn' with ⟨a, _, _, h2⟩ | ⟨_, h2⟩
  ·exact hn j _ hB ⟨a, h2 b hec⟩
  ·exact hn n e h2 hec
 ·have own : ∀ n e, I2.ι n = some e → e.has b → (∃ m e', I0.ι m = some e' ∧ e'.has b) ∨ w.heap.size ≤ b := fun n e h1 h2 => by
   rcases he.own n e b h1 h2 with ⟨n', e', h3, h4⟩ | h3
   ·rcases ho n' e' h3 with ⟨a, _, _, h5⟩ | ⟨_, h5⟩
    ·exact .inl ⟨j, _, hB, a, h5 b h4⟩
    ·exact .inl ⟨n', e', h5, h4⟩
   ·exact .inr h3
  rcases org m e h with ⟨rfl, rfl⟩ | ⟨h1, h2⟩
  ·obtain ⟨a, hc⟩ := hb
   rcases hc with ⟨_, h2⟩ | ⟨_, _, h2⟩
   ·exact .inl ⟨_, _, hB, a, h2⟩
   ·obtain ⟨⟨n, e, p1, p2, _⟩, _⟩ := hB1 b h2
    exact own n e p1 p2
  ·exact own m e (hsub m e h2) hb
 ·have h' : I2.R b := by rw [← hR3]; exact h
  rcases he.newR b h' with h1 | ⟨n', e', h1, h2⟩ | h1
  ·exact .inl (by rw [hR] at h1; exact h1)
  ·rcases ho n' e' h1 with ⟨a, _, _, h5⟩ | ⟨_, h5⟩
   ·exact .inr (.inl ⟨j, _, hB, a, h5 b h2⟩)
   ·exact .inr (.inl ⟨n', e', h5, h2⟩)
  ·exact .inr (.inr h1)
 ·show (I3.R.fam s)[a]? = some b
  rw [hR3]
  exact he.fam s a b (by rw [hR]; exact h)
 ·have hst : s ≠ t := by rintro rfl; exact hs' j B hB
  have h1 : ∀ n C, I1.ι n ≠ some (.fam s C) := fun n C h => by
   rcases ho n _ h with ⟨a, _, h2, _⟩ | ⟨_, h2⟩
   ·exact h2 s C rfl
   ·exact hs' n C h2
  obtain ⟨p1, p2⟩ := he.famE s h1
  refine ⟨by show I3.R.fam s = _; rw [hR3, p1, hR], fun m C h => ?_⟩
  rcases org m _ h with ⟨_, e⟩ | ⟨_, h2⟩
  ·simp only [Ent.fam.injEq] at e
   exact hst e.1
  ·exact p2 m C (hsub m _ h2)
end
theorem PE {I0 I4 : In} {w w' : World} {H4 : Heap} {j q : Nat} {t : TypeId} {k : List EK} {xs : List (f9 k)} {x : f9 k} {u : List Nat} {l : List DV} {us : List Value} {v : Value} {B0 : Nat → Nat → Prop}
  (he : Ext I0 w I4 w') (h4 : HR I4 w' H4) (hj : H4 j = some (.fam t k xs)) (ha : tT k q H4 = some (x, u)) (hq : I0.ι q = none) (hl : LR I4 w' l us) (hv : VR I4 w' (.ptr q 0 []) v) (hj0 : I0.ι j = some (.fam t B0)) :
  ∃ I6, HR I6 w' ((vN q u H4).set j (some (.fam t k (xs ++ [x])))) ∧ LR I6 w' (.fp t (xs.length + 1) :: Ci q u l) (v :: us) ∧ Ext I0 w I6 w' := by
 obtain ⟨b, B5, I5, e1, hm, h5, hl5, hR5, sub, same, hB5, rows⟩ := AN h4 ha hl
 obtain ⟨B, g1, g2, g3, g4, g5⟩ := h4.fam j t k xs hj
 have hjq : j ≠ q := by rintro rfl; rw [e1] at g1; cases g1
 have hju : j ∉ u := fun h => by
  obtain ⟨sz, v, h1⟩ := rows j h
  rw [g1] at h1
  cases h1
 have i5j : I5.ι j = some (.fam t B) := (same j hjq hju).trans g1
 let B6 : Nat → Nat → Prop := fun a c => B a c ∨ (a = xs.length ∧ B5 c)
 let I6 : In := ⟨fun m => if m = j then some (.fam t B6) else I5.ι m, ⟨I4.R.r, fun s => if s = t then I4.R.fam t ++ [b] else I4.R.fam s⟩⟩
 have i6j : I6.ι j = some (.fam t B6) := by show (if j = j then some (Ent.fam t B6) else _) = _; rw [if_pos rfl]
 have i6 : ∀ m, m ≠ j → I6.ι m = I5.ι m := fun m h => by show (if m = j then some (Ent.fam t B6) else I5.ι m) = _; rw [if_neg h]
 have f6 : I6.R.fam t = I4.R.fam t ++ [b] := by show (if t = t then _ else _) = _; rw [if_pos rfl]
 have f6' : ∀ s, s ≠ t → I6.R.fam s = I4.R.fam s := fun s h => by show (if s = t then _ else _) = _; rw [if_neg h]
 have hk : Keeps I4.R I6.R w' w' := by
  refine ⟨fun _ h => h, fun _ _ => rfl, fun s i c h => ?_⟩
  by_cases hs : s = t
  ·subst hs
   rw [f6, aO (List.getElem?_eq_some_iff.1 h).1]
   exact h
  ·rw [f6' s hs]; exact h
 have key : ∀ n e, n ≠ j → I5.ι n = some e → I6.ι n = some e := fun n e h1 h => by rw [i6 n h1]; exact h
 have hs : Same I5 I6 w' w' := ⟨by rw [hR5]; exact hk, fun n c h => key n _ (by rintro rfl; rw [i5j] at h; cases h) h, fun n sz v h => key n _ (by rintro rfl; rw [i5j] at h; cases h) h⟩
 have org : ∀ m e, I6.ι m = some e → (m = j ∧ e = .fam t B6) ∨ (m ≠ j ∧ I5.ι m = some e) := fun m e h => by
  by_cases h1 : m = j
  ·subst h1
   rw [i6j] at h
   exact .inl ⟨rfl, (au h).symm⟩
  ·rw [i6 m h1] at h
   exact .inr ⟨h1, h⟩
 have sep : ∀ a c m e, B6 a c → m ≠ j → I5.ι m = some e → ¬ e.has c := fun a c m e hc hmj hm hec => by
  obtain ⟨m1, m2, m3⟩ := sub m e hm
  rcases hc with hc | ⟨_, hc⟩
  ·exact hmj (h4.inj m j e _ c m1 g1 hec ⟨a, hc⟩)
  ·obtain ⟨n, e', n1, n2, n3⟩ := hB5 c hc
   have := h4.inj m n e e' c m1 n2 hec n3
   subst this
   rcases n1 with n1 | n1
   ·exact m2 n1
   ·exact m3 n1
 have lt6 : ∀ a c, B6 a c → (∃ n e, I4.ι n = some e ∧ e.has c) := fun a c hc => by
  rcases hc with hc | ⟨_, hc⟩
  ·exact ⟨j, _, g1, a, hc⟩
  ·obtain ⟨n, e', n1, n2, n3⟩ := hB5 c hc
   exact ⟨n, e', n2, n3⟩
 refine ⟨I6, HR.of (fun m bk hm' => ?_) (fun m hm' => ?_) (fun m e c h hc => ?_) (fun m m' e e' c h h' hc hc' => ?_) h4.rlt (fun m m' s C C' h h' => ?_), .cons _ _ _ _ (.fp t _ v ?_) (LR.keep hs hl5),
  ⟨fun n c h => ?_, he.ro, fun c hc hn => he.same c hc hn, fun n e c h hc => ?_, he.newR, he.size, he.os, he.tape, he.output, fun s i c h => hk.fam s i c (he.fam s i c h), fun s hs' => ?_⟩⟩
 ·by_cases h1 : m = j
  ·subst h1
   rw [Heap.set_same] at hm'
   simp only [ab] at hm'
   subst hm'
   refine ⟨B6, i6j, by rw [f6, aF, g2]; simp, fun a y c hy hc => ?_, fun a a' c hc hc' => ?_, fun a c hc => ?_⟩
   ·rw [f6] at hc
    rcases am a xs.length with h1 | h1
    ·rw [aO h1] at hy
     rw [aO (by omega)] at hc
     obtain ⟨ι, q1, q2, q3, q4, q5, q6, q7⟩ := (g3 a y c hy hc).keep hk (fun _ _ => rfl)
     exact ⟨ι, q1, q2, q3, q4, q5, fun n e d h1 h2 => .inl (q6 n e d h1 h2), q7⟩
    ·have hla := (List.getElem?_eq_some_iff.1 hy).1
     have : a = xs.length := by simp at hla; omega
     subst this
     rw [aW (ak _), bq] at hy
     rw [aW (by omega), g2, bq] at hc
     simp only [bu, ab] at hy hc
     subst hy hc
     obtain ⟨ι, q1, q2, q3, q4, q5, q6, q7⟩ := hm.keep hk (fun _ _ => rfl)
     exact ⟨ι, q1, q2, q3, q4, q5, fun n e d h1 h2 => .inr ⟨rfl, q6 n e d h1 h2⟩, q7⟩
   ·have no : ∀ a, B a c → ¬ B5 c := fun a h1 h2 => by
     obtain ⟨n, e', n1, n2, n3⟩ := hB5 c h2
     have := h4.inj m n _ e' c g1 n2 ⟨a, h1⟩ n3
     subst this
     rcases n1 with n1 | n1
     ·exact hjq n1
     ·exact hju n1
    rcases hc with hc | ⟨h1, hc⟩
    ·rcases hc' with hc' | ⟨h1', hc'⟩
     ·exact g4 a a' c hc hc'
     ·exact absurd hc' (no a hc)
    ·rcases hc' with hc' | ⟨h1', hc'⟩
     ·exact absurd hc (no a' hc')
     ·rw [h1, h1']
   ·rw [aF]
    rcases hc with hc | ⟨h1, _⟩
    ·have := g5 a c hc
     simp only [aH, bU]
     omega
    ·subst h1; simp
  ·rw [dS h1] at hm'
   refine (h5.br hm').keep hs (fun s C h => ⟨key m _ h1 h, ?_⟩) (fun _ _ _ _ => rfl)
   rw [hR5]
   exact f6' s (by rintro rfl; exact h1 (h5.one m j s C B h i5j))
 ·by_cases h1 : m = j
  ·subst h1; rw [Heap.set_same] at hm'; cases hm'
  ·rw [dS h1] at hm'
   rw [i6 m h1]
   exact h5.dom m hm'
 ·rcases org m e h with ⟨rfl, rfl⟩ | ⟨h1, h2⟩
  ·obtain ⟨a, hc⟩ := hc
   obtain ⟨n, e', n1, n2⟩ := lt6 a c hc
   exact h4.lt n e' c n1 n2
  ·exact h4.lt m e c (sub m e h2).1 hc
 ·rcases org m e h with ⟨rfl, rfl⟩ | ⟨h1, h2⟩
  ·rcases org m' e' h' with ⟨rfl, rfl⟩ | ⟨h1', h2'⟩
   ·rfl
   ·obtain ⟨a, hc⟩ := hc
    exact absurd hc' (sep a c m' e' hc h1' h2')
  ·rcases org m' e' h' with ⟨rfl, rfl⟩ | ⟨h1', h2'⟩
   ·obtain ⟨a, hc'⟩ := hc'
    exact absurd hc (sep a c m e hc' h1 h2)
   ·exact h5.inj m m' e e' c h2 h2' hc hc'
 ·have hp : ∀ m s C, I6.ι m = some (.fam s C) → ∃ C', I5.ι m = some (.fam s C') := fun m s C h => by
   rcases org m _ h with ⟨rfl, e⟩ | ⟨h1, h2⟩
   ·simp only [Ent.fam.injEq] at e
    obtain ⟨rfl, _⟩ := e
    exact ⟨B, i5j⟩
   ·exact ⟨C, h2⟩
  obtain ⟨D, h1⟩ := hp m s C h
  obtain ⟨D', h2⟩ := hp m' s C' h'
  exact h5.one m m' s D D' h1 h2
 ·cases hv with | ptr _ _ _ b' q1 q2 =>
  rw [e1] at q1
  simp only [ab, Ent.obj.injEq] at q1
  subst q1
  refine .inr ⟨xs.length, b, rfl, ?_, rfl⟩
  rw [f6, aW (by omega), g2, bq]
  rfl
 ·have h1 := he.obj n c h
  have hnj : n ≠ j := by rintro rfl; rw [g1] at h1; cases h1
  have hnq : n ≠ q := by rintro rfl; rw [hq] at h; cases h
  have hnu : n ∉ u := fun hu => by
   obtain ⟨sz, v, h2⟩ := rows n hu
   rw [h1] at h2
   cases h2
  rw [i6 n hnj, same n hnq hnu]
  exact h1
 ·rcases org n e h with ⟨rfl, rfl⟩ | ⟨h1, h2⟩
  ·obtain ⟨a, hc⟩ := hc
   obtain ⟨m, e', n1, n2⟩ := lt6 a c hc
   exact he.own m e' c n1 n2
  ·exact he.own n e c (sub n e h2).1 hc
 ·have hst : s ≠ t := by rintro rfl; exact hs' j B0 hj0
  obtain ⟨p1, p2⟩ := he.famE s hs'
  refine ⟨(f6' s hst).trans p1, fun m C h => ?_⟩
  rcases org m _ h with ⟨_, e⟩ | ⟨_, h2⟩
  ·simp only [Ent.fam.injEq] at e
   exact hst e.1
  ·exact p2 m C (sub m _ h2).1
def jz {α β : Type} (xs : List α) : Nat → (α → Option β) → Option β
 | 0, _ => none
 | n + 1, k => match xs[n]? with | some x => k x | none => none
def Nz {α : Type} (rcv : Bool) (j : Nat) (t : TypeId) (k : List EK) (T : List DV) (H : Heap) (κ : List (f9 k) → Option Nat → List DV → Heap → Option α) : Option α :=
 match vy t k (H j) with
 | some xs => match rcv with
  | true => match T with
   | .fp t' n :: r => if t' = t then jz xs n fun x => κ xs (some (n - 1)) (.ptr j 0 [] :: r) (Ck j k x H) else none
   | _ => none
  | false => κ xs none T (H.set j none)
 | none => none
def Sh.cnt : Sh → Nat
 | .pair a b => a.cnt + b.cnt
 | _ => 1
def C7 : List EK → List DV → List Nat
 | .val (.sl _) :: ks, d :: T => yl d ++ C7 ks T
 | .val s :: ks, T => C7 ks (T.drop s.cnt)
 | .any :: ks, _ :: T => C7 ks T
 | .row _ _ :: ks, _ :: T => C7 ks T
 | _, _ => []
def NA (k : List EK) (n : Nat) (H : Heap) : List Nat := match H n with
 | some (.obj cs) => C7 k cs
 | _ => []
def C8 (S : FS) (l : List DV) (H : Heap) : Option S.R := match S.tout.pr (kr S.tin.os.length) l H with
 | some (z, _) => some (S.inn z)
 | none => none
def C9 (S : FS) (j : Nat) (t : TypeId) (k : List EK) (pub : Bool) (xs : List (f9 k)) (l : List DV) (H : Heap) : Option S.R := match H j with
 | some _ => none
 | none => match pub with
  | true => match l with
   | .ptr q 0 [] :: r => (match kq (NA k q H) (.ptr q 0 [] :: r) [] (H.set j (some (.fam t k xs))) with
    | (.ptr q 0 [] :: r, _, H) => if (S.tin.names nam0).contains q = true then none else (match tT k q H with
     | some (x, u) => (match vy t k (H j) with
      | some xs => C8 S (.fp t (xs.length + 1) :: Ci q u r) ((vN q u H).set j (some (.fam t k (xs ++ [x]))))
      | none => none)
     | none => none)
    | _ => none)
   | l => C8 S l (H.set j (some (.fam t k xs)))
  | false => C8 S l (H.set j (some (.fam t k xs)))
def Kj (S : FS) (j : Nat) (t : TypeId) (k : List EK) (pub : Bool) (xs : List (f9 k)) (i : Option Nat) (v : DV) (H : Heap) : Option S.R := match Ch S.tout.ks.length v with
 | some l => match (if gh S.tout.ks = true then kc l [] H else (l, [], H)) with
  | (l, _, H) => match i with
   | some i => (match kq (NA k j H) l [] H with
    | (l, _, H) => (match tT k j H with
     | some (x, u) => C9 S j t k pub (xs.set i x) (Ci j u l) (vN j u H)
     | none => none))
   | none => C9 S j t k pub xs l H
 | none => none
def mQ (cx : Cx) (fuel f d : Nat) (S : FS) (rcv : Bool) (j : Nat) (t : TypeId) (k : List EK) (pub : Bool) : Prop := ∀ X, Nz rcv j t k (S.tin.T nam0 X) (S.tin.H nam0 X fun _ => none) (fun xs i T H => fe cx fuel d f T H fun v H _ => Kj S j t k pub xs i v H) = S.fn X
theorem EP {α β : Type} {xs : List α} {n : Nat} {k : α → Option β} {r : β} (h : jz xs n k = some r) : ∃ m x, n = m + 1 ∧ xs[m]? = some x ∧ k x = some r := by
 cases n with
 | zero => cases h
 | succ m =>
  simp only [jz] at h
  split at h
  ·rename_i x hx
   exact ⟨m, x, rfl, hx, h⟩
  ·cases h
def Kk (S : FS) (I0 : In) (w : World) (w' : World) (us : List Value) (z : S.tout.Ty) : Prop := ∃ I4 H4 l m, Ext I0 w I4 w' ∧ HR I4 w' H4 ∧ LR I4 w' l us ∧ S.tout.pr (kr S.tin.os.length) l H4 = some (z, m)
theorem zU {S : FS} {I0 I4 : In} {w w' : World} {H4 : Heap} {l : List DV} {us : List Value} {r : S.R} (hoi : ∀ o, S.out (S.inn o) = o) (he : Ext I0 w I4 w') (h4 : HR I4 w' H4) (hl : LR I4 w' l us) (h : C8 S l H4 = some r) : Kk S I0 w w' us (S.out r) := by
 unfold C8 at h
 split at h
 ·rename_i z m hz
  simp only [ab] at h
  subst h
  rw [hoi]
  exact ⟨I4, H4, l, m, he, h4, hl, hz⟩
 ·cases h
theorem tU {I : In} {w : World} {H H' : Heap} {r : List Nat} {l l' T' : List DV} {us : List Value} (hH : HR I w H) (hl : LR I w l us) (h : kq r l [] H = (l', T', H')) : ∃ I', HR I' w H' ∧ Ext I w I' w ∧ LR I' w l' us := by
 obtain ⟨I', q1, q2, _, q4⟩ := jt (a := ⟨#[], []⟩) hH ⟨ak _, fun i => .undef _, rfl⟩ hl h
 exact ⟨I', q1, q2, q4⟩
theorem Fo {S : FS} {I0 I4 : In} {w w' : World} {H3 : Heap} {j : Nat} {t : TypeId} {k : List EK} {pub : Bool} {xs : List (f9 k)} {l : List DV} {us : List Value} {r : S.R} {B0 : Nat → Nat → Prop} (hoi : ∀ o, S.out (S.inn o) = o) (hout : ∀ n, n ∉ S.tin.names nam0 → I0.ι n = none) (hj0 : I0.ι j = some (.fam t B0)) (hj3 : H3 j = none)
  (he : Ext I0 w I4 w') (h4 : HR I4 w' (H3.set j (some (.fam t k xs)))) (hl : LR I4 w' l us) (h : C9 S j t k pub xs l H3 = some r) : Kk S I0 w w' us (S.out r) := by
 unfold C9 at h
 rw [hj3] at h
 simp only at h
 split at h
 ·split at h
  ·rename_i q r0
   split at h
   ·rename_i q' r1 T1 H5 hsol
    obtain ⟨I5, h5, he5, hl5⟩ := tU h4 hl hsol
    split at h
    ·cases h
    ·rename_i hq
     split at h
     ·rename_i x u hx
      split at h
      ·rename_i xs5 hf
       cases hl5 with | cons _ _ v us' hv hr =>
       have hq0 : I0.ι q' = none := hout q' (by
        intro hm
        exact hq (by simpa using hm))
       obtain ⟨I6, p1, p2, p3⟩ := PE (he.trans he5) h5 (nS hf) hx hq0 hr hv hj0
       exact zU hoi p3 p1 p2 h
      ·cases h
     ·cases h
   ·cases h
  ·exact zU hoi he h4 hl h
 ·exact zU hoi he h4 hl h
theorem MG {cx : Cx} {fuel f d : Nat} {S : FS} {rcv pub : Bool} {j : Nat} {t : TypeId} {k : List EK} (hg : Good cx) (heq : mQ cx fuel f d S rcv j t k pub) (hoi : ∀ o, S.out (S.inn o) = o) (hnam : S.tin.free nam0 (fun _ => none) = true) (hj : j < 100000) (hfr : fi (de nam0 1000 (k.map dz)) (S.tin.names nam0) = true) : iu cx.P f S := by
 intro α I w H A args ρ κ r X m hH hA hx hρ h
 obtain ⟨Y, hY, hk⟩ := Option.bind_eq_some_iff.1 h
 obtain ⟨⟨I0, hL0⟩, hlen, _⟩ := jx (ρ := nam0) hH rfl hx (vals := fun i => args.getD i undef) (fun i => hA.getD i) (gW I w S.tin nam0 m) hnam
 have hAl : A.length = S.tin.ks.length := by
  unfold Tmpl.pr at hx
  split at hx
  ·rename_i x1 m1 h1
   exact jO h1
  ·cases hx
 have hT0 : (S.tin.T nam0 X).length = S.tin.ks.length := by unfold Tmpl.T; rw [fk]
 have hA0 : LR I0 w (S.tin.T nam0 X) args := LR.of (by rw [hT0, ← hAl, hA.length]) hL0.val
 have hH0 := hL0.hr
 have hout : ∀ n, n ∉ S.tin.names nam0 → I0.ι n = none := fun n hn => hL0.out n hn
 have hfree : ∀ n ∈ de nam0 1000 (k.map dz), S.tin.H nam0 X (fun _ => none) n = none := fun n hn => by
  rw [rq (disjB_iff.1 hfr n hn)]
 have hrl : ∀ b, I0.R b → b < w.heap.size := hH0.rlt
 have hq := heq X
 rw [hY] at hq
 unfold Nz at hq
 split at hq
 rotate_left
 ·cases hq
 rename_i xs hxs
 have hfj := nS hxs
 obtain ⟨B, hB, _⟩ := hH0.fam j t k xs hfj
 -- the end, told under the names of the frame around
 have fin : ∀ {w' : World} {us : List Value}, us.length = S.tout.ks.length → Kk S I0 w w' us (S.out Y) → ∀ z, (∀ {I' : In} {l' : List DV}, LR I' w' l' us → VR I' w' (gV l') z) → ∃ I' v H' u, κ v H' u = some r ∧ Ext I w I' w' ∧ HR I' w' H' ∧ VR I' w' v z ∧ Gi u I I' := by
  rintro w' us hul ⟨I4, H4, l, m1, he, h4, hl, hz⟩ z hzz
  split at hk
  ·rename_i hfree
   obtain ⟨I7, g1, g2, g3, g4, g5⟩ := vL hH hL0 he h4 hz (vals := fun i => us.getD i undef) (fun i => hl.getD i) hρ hfree
   refine ⟨I7, _, _, _, hk, g3, g1, hzz (LR.of ?_ g2), fun l hl n sz v hn hi => ?_⟩
   ·unfold Tmpl.T
    rw [fk, hul]
   ·simp only [ab] at hl
    subst hl
    exact g4 n sz v hn hi
  ·cases hk
 split at hq
 ·-- a member is worked on
  split at hq
  ·rename_i t' n r0 hT
   split at hq
   ·rename_i ht
    subst ht
    obtain ⟨i, x, rfl, hxi, hq⟩ := EP hq
    simp only [cB] at hq
    obtain ⟨b, J, hb, hHJ, hRJ, hJj, hsJ, hnoJ, hkJ, hoJ⟩ := Ny hH0 hfj hB hxi hj hfree
    rw [hT] at hA0
    cases hA0 with | cons _ _ u0 us0 hu0 hr0 =>
    have hu : u0 = .pointer (some ⟨b, 0, none⟩) := by
     cases hu0 with | fp _ _ _ hk0 =>
     rcases hk0 with ⟨e, _⟩ | ⟨i', b', e, hb', e2⟩
     ·cases e
     ·simp only [Nat.add_right_cancel_iff] at e
      subst e
      rw [hb] at hb'
      simp only [ab] at hb'
      subst hb'
      simpa using e2
    subst hu
    have hAJ : LR J w (.ptr j 0 [] :: r0) (.pointer (some ⟨b, 0, none⟩) :: us0) := .cons _ _ _ _ (.ptr j 0 [] b hJj trivial) (LR.keep hsJ hr0)
    obtain ⟨_, hc⟩ := iE hg fuel d hHJ hAJ hq
    refine Calls.mono hc ?_
    rintro e w' he
    cases e with
    | returned z =>
     obtain ⟨I2, v, H2, u2, h1, h2, h3, h4, _⟩ := he
     unfold Kj at h1
     split at h1
     ·rename_i l hl
      split at h1
      rename_i A1 T1 H1 hs
      obtain ⟨us, u1, u2', u3⟩ := rF h4 hl
      obtain ⟨I3, h3', h2', u2⟩ : ∃ I1, HR I1 w' H1 ∧ Ext I2 w' I1 w' ∧ LR I1 w' A1 us := by
       split at hs
       ·exact tU h3 u2' hs
       ·simp only [ah] at hs
        obtain ⟨rfl, rfl, rfl⟩ := hs
        exact ⟨I2, h3, Ext.refl _ _, u2'⟩
      simp only at h1
      generalize hs2 : kq (NA k j H1) A1 [] H1 = q2 at h1
      obtain ⟨A2, T2, H5⟩ := q2
      simp only at h1
      obtain ⟨I5, h5, he5, u5⟩ := tU h3' u2 hs2
      split at h1
      ·rename_i x' u' hx'
       have heJ := (h2.trans h2').trans he5
       obtain ⟨b', B1, I6, e1, hm, h6, hl6, hR6, sub, same, hB5, rows⟩ := AN h5 hx' u5
       have hbb : b' = b := by
        have := heJ.obj j b hJj
        rw [e1] at this
        simpa using this
       subst hbb
       have hj6 : vN j u' H5 j = none := by simp [vN, Heap.subO]
       obtain ⟨I7, p1, p2, p3, p4, p5⟩ := Fm (ys := xs.set i x') (i := some i) (B1 := B1) hH0 hfj hB hRJ hrl hnoJ hkJ (fun n e hn => (hoJ n e hn).imp (fun h => ⟨i, rfl, h.1, h.2⟩) id) heJ h6 hR6 (fun m e h => (sub m e h).1) (fun m b hmj h => by
         rw [same m hmj fun hu => by
          obtain ⟨sz, v, h1⟩ := rows m hu
          rw [h] at h1
          cases h1]
         exact h) hj6 (by simp) (fun a ha => by
         rw [List.getElem?_set_ne]
         rintro rfl
         exact ha rfl) (fun a y c ha hy hc => by
         simp only [ab] at ha
         subst ha
         have hi := (List.getElem?_eq_some_iff.1 hxi).1
         rw [List.getElem?_set_self hi] at hy
         simp only [ab] at hy
         subst hy
         rw [hb] at hc
         simp only [ab] at hc
         subst hc
         exact hm) (fun c hc => by
         obtain ⟨m, e, n1, n2, n3⟩ := hB5 c hc
         refine ⟨⟨m, e, n2, n3, h5.lt m e c n2 n3⟩, fun m' e' hm' hec => ?_⟩
         obtain ⟨k1, k2, k3⟩ := sub m' e' hm'
         have := h5.inj m m' e e' c n2 k1 n3 hec
         subst this
         rcases n1 with n1 | n1
         ·exact k2 n1
         ·exact k3 n1)
       exact fin u1 (Fo hoi hout hB hj6 p4 p1 (LR.keep p5 hl6) h1) z u3
      ·cases h1
     ·cases h1
    | _ => exact he.elim
   ·cases hq
  ·cases hq
 ·obtain ⟨J, hHJ, hRJ, hJj, hsJ, hnoJ, hkJ, hoJ⟩ := PD hH0 hB
  obtain ⟨_, hc⟩ := iE hg fuel d hHJ (LR.keep hsJ hA0) hq
  refine Calls.mono hc ?_
  rintro e w' he
  cases e with
  | returned z =>
   obtain ⟨I2, v, H2, u2, h1, h2, h3, h4, _⟩ := he
   unfold Kj at h1
   split at h1
   ·rename_i l hl
    split at h1
    rename_i A1 T1 H1 hs
    obtain ⟨us, u1, u2', u3⟩ := rF h4 hl
    obtain ⟨I3, h3', h2', u2⟩ : ∃ I1, HR I1 w' H1 ∧ Ext I2 w' I1 w' ∧ LR I1 w' A1 us := by
     split at hs
     ·exact tU h3 u2' hs
     ·simp only [ah] at hs
      obtain ⟨rfl, rfl, rfl⟩ := hs
      exact ⟨I2, h3, Ext.refl _ _, u2'⟩
    simp only at h1
    have hj3 : H1 j = none := by
     unfold C9 at h1
     split at h1
     ·cases h1
     ·assumption
    obtain ⟨I7, p1, p2, p3, p4, p5⟩ := Fm (ys := xs) (i := none) (B1 := fun _ => False) hH0 hfj hB hRJ hrl hnoJ hkJ (fun n e hn => .inr (hoJ n e hn)) (h2.trans h2') h3' rfl (fun m e h => h) (fun m b hmj h => h) hj3 rfl (fun a ha => rfl) (fun a y c ha => by cases ha) (fun c hc => hc.elim)
    exact fin u1 (Fo hoi hout hB hj3 p4 p1 (LR.keep p5 u2) h1) z u3
   ·cases h1
  | _ => exact he.elim
theorem jA {cx : Cx} (h : Good cx) (fuel d : Nat) {f : FuncId} {S : FS} (rcv : Bool) (j : Nat) (t : TypeId) (k : List EK) (pub : Bool) (heq : mQ cx fuel f d S rcv j t k pub) (hoi : ∀ o, S.out (S.inn o) = o) (hnam : S.tin.free nam0 (fun _ => none) = true) (hj : j < 100000) (hfr : fi (de nam0 1000 (k.map dz)) (S.tin.names nam0) = true) : Good (cx.bare.addSpec f S) :=
 h.bare.addSpec (MG h heq hoi hnam hj hfr)
def Sh.flat : Sh → Bool
 | .int _ | .bool | .str => true
 | .pair a b => a.flat && b.flat
 | .arr _ e => e.flat
 | _ => false
theorem Sh.K_flat {R R' : RO} {w : World} : ∀ {s : Sh} {x : s.T} {cs : List Value}, s.flat = true → s.K R w x cs → s.K R' w x cs
 | .int _, _, _, _, h => h
 | .bool, _, _, _, h => h
 | .str, _, _, _, h => h
 | .pair a b, x, _, hf, ⟨c1, c2, e, h1, h2⟩ => by
  simp only [Sh.flat, aj] at hf
  exact ⟨c1, c2, e, K_flat hf.1 h1, K_flat hf.2 h2⟩
 | .sl e, _, _, hf, _ => by cases hf
 | .fp t, _, _, hf, _ => by cases hf
 | .arr n e, xs, _, hf, ⟨h1, h2, h3⟩ => ⟨h1, h2, fun i x hx => K_flat (s := e) hf (h3 i x hx)⟩
def oI : (k : List EK) → eM (k.map dz) → List DV
 | [], _ => []
 | .any :: r, x => oI r x
 | .val s :: r, x => s.enc x.1 ++ oI r x.2
 | .row _ s :: r, x => .vs s x.1 :: oI r x.2
def Cl : List EK → Bool
 | [] => true
 | .any :: _ => false
 | _ :: r => Cl r
theorem rI : ∀ (k : List EK) (x : eM (k.map dz)), ∀ d ∈ oI k x, d.imm = true
 | [], x, d, h => by simp [oI] at h
 | .any :: r, x, d, h => rI r x d h
 | .val s :: r, x, d, h => by
  simp only [oI, aA] at h
  rcases h with h | h
  ·exact Sh.enc_imm s _ d h
  ·exact rI r _ d h
 | .row E s :: r, x, d, h => by
  simp only [oI, aB] at h
  rcases h with rfl | h
  ·rfl
  ·exact rI r _ d h
section
variable {I : In} {w : World} {H : Heap}
theorem Kl {n : Nat} {E : TypeId} {s : Sh} {xs : List s.T} {sz : Nat} {v : Value} (hH : HR I w H) (h : H n = some (.row E s xs)) (hi : I.ι n = some (.row sz v)) : (Sh.sl s).K ⟨fun b => b < w.heap.size, I.R.fam⟩ w xs [v] := by
 obtain ⟨v', cs, h1, h2, h3⟩ := hH.row n E s xs h
 rw [hi] at h1
 simp only [ab, Ent.row.injEq] at h1
 obtain ⟨rfl, rfl⟩ := h1
 have hk : Keeps I.R ⟨fun b => b < w.heap.size, I.R.fam⟩ w w := ⟨hH.rlt, fun _ _ => rfl, fun _ _ _ h => h⟩
 rcases h2.2 with ⟨rfl, h0⟩ | ⟨g, cap, cur, rfl, _, hh, hc, _⟩
 ·have : xs = [] := bn h0
  subst this
  exact ⟨none, 0, rfl, ak _, fun h => absurd rfl h⟩
 ·obtain ⟨_, _, cs', k1, k2, k3⟩ := kK hH h hi
  refine ⟨_, cap, rfl, hc, fun hne => ⟨_, rfl, rfl, (hH.lt n _ g hi rfl).1, fun i x hx => ?_⟩⟩
  have hi := (List.getElem?_eq_some_iff.1 hx).1
  have hkk := k1.2.2 i x hx
  have hl : i * s.sz + s.sz ≤ xs.length * s.sz := by rw [← aK]; exact aS _ hi
  refine ⟨_, Sh.K_len hkk, Sh.K_keep hk hkk, fun j u hu => ?_⟩
  rw [Addr.add_mid, bw]
  refine k3 _ u ?_
  rw [aP] at hu
  split at hu
  ·rw [aV] at hu
   exact hu
  ·cases hu
theorem Da (hH : HR I w H) : ∀ {k : List EK} {c : Nat} {x : eM (k.map dz)} {cs : List Value}, Cl k = true → (∀ n E s xs, el nam0 c (k.map dz) x (fun _ => none) n = some (.row E s xs) → H n = some (.row E s xs)) → CR I w (iq nam0 c (k.map dz) x) cs → CR ⟨fun _ => none, ⟨fun b => b < w.heap.size, I.R.fam⟩⟩ w (oI k x) cs
 | [], c, x, cs, hn, hr, h => by cases h; exact .nil
 | .any :: r, c, x, cs, hn, hr, h => by cases hn
 | .val s :: r, c, x, cs, hn, hr, h => by
  have hk : Keeps I.R ⟨fun b => b < w.heap.size, I.R.fam⟩ w w := ⟨hH.rlt, fun _ _ => rfl, fun _ _ _ h => h⟩
  have h' : CR I w (s.enc x.1 ++ iq nam0 (c + 1) (r.map dz) x.2) cs := h
  obtain ⟨c1, c2, rfl, k1, k2⟩ := Sh.dec_ok (Sh.dec_enc s x.1 _) h'
  exact CR.append (Sh.enc_ok (Sh.K_keep hk k1)) (Da hH (k := r) (c := c + 1) hn hr k2)
 | .row E s :: r, c, x, cs, hn, hr, h => by
  have h' : CR I w (.rw (nam0.r c) :: iq nam0 (c + 1) (r.map dz) x.2) cs := h
  have hnin : nam0.r c ∉ de nam0 (c + 1) (r.map dz) := fun h => by
   have := ii h
   have : 100000 + (c + 1) ≤ 100000 + c := this
   omega
  cases h' with | one _ _ u us hv hu hrr =>
  cases hv with | rw _ sz _ h1 h2 =>
  have hrow := hr (nam0.r c) E s x.1 (by
   show el nam0 (c + 1) (r.map dz) x.2 (Heap.set (fun _ => none) (nam0.r c) (some (.row E s x.1))) (nam0.r c) = _
   rw [eE hnin, Heap.set_same])
  have hkk := Kl hH hrow h1
  refine .one _ _ _ _ (.vs s x.1 _ hkk) hu (Da hH (k := r) (c := c + 1) hn (fun n E' s' xs' hn' => hr n E' s' xs' ?_) hrr)
  have hm : n ∈ de nam0 (c + 1) (r.map dz) := Decidable.byContradiction fun hm => by
   rw [eE hm] at hn'
   cases hn'
  show el nam0 (c + 1) (r.map dz) x.2 (Heap.set (fun _ => none) (nam0.r c) (some (.row E s x.1))) n = _
  rw [fR (H' := fun _ => none) (.inl hm)]
  exact hn'
end
def NB (E : TypeId) (s : Sh) (v : DV) (H : Heap) : Option (List s.T) := match ja H E s v with
 | some (xs, _) => some xs
 | none => none
def Gz (cx : Cx) (fuel f d : Nat) (k : List EK) (E : TypeId) (s : Sh) (fn : (oG k).Ty → Option (List s.T)) : Prop := ∀ X, jc cx (fe cx fuel (d + 1)) f d [.pi (oI k X.2.1)] (fun _ => none) (NB E s) = fn X
theorem NC {cx : Cx} {fuel f d : Nat} {k : List EK} {E : TypeId} {s : Sh} {fn : (oG k).Ty → Option (List s.T)} (hg : Good cx) (heq : Gz cx fuel f d k E s fn) (hany : Cl k = true) (hflat : s.flat = true) : tG cx.P f ⟨oG k, E, s, fn⟩ := by
 intro I w H A args X m Y hH hA hx hY
 obtain ⟨⟨I0, hL0⟩, hlen, _⟩ := jx (ρ := nam0) hH rfl hx (vals := fun i => args.getD i undef) (fun i => hA.getD i) (gW I w (oG k) nam0 m) (C6 k)
 have hAl : 1 ≤ args.length := by rw [← hA.length]; exact hlen
 have hH0 : ∀ q, (oG k).H nam0 X (fun _ => none) q = el nam0 1000 (k.map dz) X.2.1 (Heap.set (fun _ => none) 0 (some (.obj (iq nam0 1000 (k.map dz) X.2.1)))) q := by
  intro q
  show el nam0 1000 (k.map dz) X.2.1 (Heap.set (fun _ => none) 0 (some (qT nam0 1000 (k.map dz) X.2.1))) q = _
  rw [xh C5]
 have h00 : (0 : Nat) ∉ de nam0 1000 (k.map dz) := fun h => by have := ii h; omega
 obtain ⟨b, c, t, k1, k2, k3⟩ := hL0.hr.obj 0 (iq nam0 1000 (k.map dz) X.2.1) (by rw [hH0, eE h00, Heap.set_same])
 have hv0 : args.getD 0 undef = .pointer (some ⟨b, 0, none⟩) := by
  have h0 : VR I0 w (.ptr 0 0 []) (args.getD 0 undef) := hL0.val 0
  generalize args.getD 0 undef = v at h0
  cases h0 with | ptr _ _ _ b' h1 h2 =>
  rw [k1] at h1
  simp only [ab, Ent.obj.injEq] at h1
  subst h1
  rfl
 have hfz := Da hL0.hr (k := k) (c := 1000) (x := X.2.1) hany (fun n E s xs hn => by
  have hm : n ∈ de nam0 1000 (k.map dz) := Decidable.byContradiction fun hm => by
   rw [eE hm] at hn
   cases hn
  rw [hH0, fR (H' := fun _ => none) (.inl hm)]
  exact hn) k3
 have hH1 : HR ⟨fun _ => none, ⟨fun b => b < w.heap.size, I0.R.fam⟩⟩ w fun _ => none := ⟨fun n cs h => (by cases h), fun n E s xs h => (by cases h), fun n ks vs h => (by cases h), fun n t k xs h => (by cases h), fun n h => rfl, fun n e b h => (by cases h), fun n m e e' b h => (by cases h), fun b h => h, fun n m t B B' h => (by cases h)⟩
 have hpi : VR ⟨fun _ => none, ⟨fun b => b < w.heap.size, I0.R.fam⟩⟩ w (.pi (oI k X.2.1)) (args.getD 0 undef) := by
  rw [hv0]
  refine .pi _ ⟨b, 0, none⟩ _ rfl (hL0.hr.lt 0 _ b k1 rfl).1 (rI k X.2.1) hfz fun j u hu => ?_
  rw [Addr.add_mid, bw, qX k2]
  exact hu
 refine Calls.mono (oC hg (iE hg fuel (d + 1)) hH1 (A := [.pi (oI k X.2.1)]) (by simpa using hAl) (fun i => by
  cases i with
  | zero => exact hpi
  | succ i => exact .undef _) ((heq X).trans hY)) ?_
 rintro e w' he
 cases e with
 | returned z =>
  obtain ⟨I2, v, H2, h1, h2, h3, h4⟩ := he
  unfold NB at h1
  split at h1
  ·rename_i xs u hu
   simp only [ab] at h1
   subst h1
   obtain ⟨cs, g1, g2, g3, g4⟩ := CY h3 h4 hu
   refine ⟨GrowW.of (fun n => rfl) h2, g3, ⟨cs, g1, fun R => Sh.K_flat (s := .arr _ s) hflat g2⟩, fun b hb => ?_⟩
   rcases g4 with ⟨_, h5⟩ | ⟨n, sz, v0, _, h5, h6⟩
   ·rw [h5] at hb; cases hb
   ·rw [h6] at hb
    rcases h2.own n _ b h5 hb with ⟨m, e', h7, _⟩ | h7
    ·cases h7
    ·exact h7
  ·cases h1
 | _ => exact he.elim
def Cx.addQR (cx : Cx) (f : FuncId) (S : QR) : Cx := ⟨cx.P, cx.loops, cx.specs, cx.tabs, cx.qs, fun g => if Nat.beq g f then S :: cx.qr g else cx.qr g⟩
theorem If {cx : Cx} (h : Good cx) (fuel d : Nat) {f : FuncId} (k : List EK) (E : TypeId) (s : Sh) (fn : (oG k).Ty → Option (List s.T)) (heq : Gz cx fuel f d k E s fn) (hany : Cl k = true) (hflat : s.flat = true) : Good (cx.bare.addQR f ⟨oG k, E, s, fn⟩) := by
 have hb := h.bare
 refine ⟨hb.specs, hb.loops, hb.pures, hb.tabs, hb.qs, fun g S' hm => ?_⟩
 simp only [Cx.addQR] at hm
 split at hm
 ·rename_i hgf
  have := bO hgf
  subst this
  rcases aB.1 hm with rfl | hm
  ·intro I w H A args X m Y hH hA hX hY
   exact NC h heq hany hflat hH hA hX hY
  ·intro I w H A args X m Y hH hA hX hY
   exact h.qr g S' hm hH hA hX hY
 ·intro I w H A args X m Y hH hA hX hY
  exact h.qr g S' hm hH hA hX hY
def Db (fs : List (TypeId × List EK)) : Heap := fun n => match fs[n]? with
 | some e => some (.fam e.1 e.2 [])
 | none => none
def Sh.nofp : Sh → Bool
 | .int _ | .bool | .str => true
 | .pair a b => a.nofp && b.nofp
 | .sl e => e.nofp
 | .arr _ e => e.nofp
 | .fp _ => false
theorem Sh.K_nofp {R R' : RO} {w w' : World} (hs : ∀ b, R b → R' b) (hw : ∀ b, R b → w'.heap[b]? = w.heap[b]?) : ∀ {s : Sh} {x : s.T} {cs : List Value}, s.nofp = true → s.K R w x cs → s.K R' w' x cs
 | .int _, _, _, _, h => h
 | .bool, _, _, _, h => h
 | .str, _, _, _, h => h
 | .pair a b, x, _, hf, ⟨c1, c2, e, h1, h2⟩ => by
  simp only [Sh.nofp, aj] at hf
  exact ⟨c1, c2, e, K_nofp hs hw hf.1 h1, K_nofp hs hw hf.2 h2⟩
 | .sl e, xs, _, hf, ⟨A, cap, h1, h2, h3⟩ => ⟨A, cap, h1, h2, fun hn => by
   obtain ⟨a, e1, e2, e3, e4⟩ := h3 hn
   refine ⟨a, e1, e2, hs _ e3, fun i x hx => ?_⟩
   obtain ⟨c, g1, g2, g3⟩ := e4 i x hx
   exact ⟨c, g1, K_nofp hs hw (s := e) hf g2, fun j u hu => (kJ (by rw [gp]; exact hw _ e3)).trans (g3 j u hu)⟩⟩
 | .fp t, _, _, hf, _ => by cases hf
 | .arr n e, xs, _, hf, ⟨h1, h2, h3⟩ => ⟨h1, h2, fun i x hx => K_nofp hs hw (s := e) hf (h3 i x hx)⟩
def rJ : List IK → Bool
 | [] => true
 | .val s :: r => s.nofp && rJ r
 | _ => false
theorem PF {I I' : In} {w w' : World} (hs : ∀ b, I.R b → I'.R b) (hw : ∀ b, I.R b → w'.heap[b]? = w.heap[b]?) {s : Sh} {x : s.T} {v : Value} (hf : s.nofp = true) (h : VR I w (s.val x) v) : VR I' w' (s.val x) v := by
 unfold Sh.val at h ⊢
 split at h
 ·cases h with | agg _ cs hc =>
  obtain ⟨c1, c2, e, k1, k2⟩ := Sh.dec_ok (Sh.dec_enc s x []) (by rw [aG]; exact hc)
  cases k2
  rw [aG] at e
  subst e
  rename_i hm
  rw [if_pos hm]
  exact .agg _ _ (Sh.enc_ok (Sh.K_nofp hs hw hf k1))
 ·rename_i hm
  rw [if_neg hm]
  cases s with
  | int k => cases h with | sc _ h => exact .sc _ h
  | bool => cases h with | sc _ h => exact .sc _ h
  | str => cases h with | sc _ h => exact .sc _ h
  | sl e => cases h with | vs _ _ _ h => exact .vs e x v (Sh.K_nofp hs hw (s := .sl e) hf h)
  | fp t => cases hf
  | pair a b => exact absurd rfl hm
  | arr n e => exact absurd rfl hm
theorem Dc {I I' : In} {w w' : World} (hs : ∀ b, I.R b → I'.R b) (hw : ∀ b, I.R b → w'.heap[b]? = w.heap[b]?) {ρ : Nam} : ∀ {ks : List IK} {c : Nat} {x : eM ks} {vals : Nat → Value}, rJ ks = true → (∀ i, VR I w ((ip ρ c ks x).getD i .undef) (vals i)) → ∀ i, VR I' w' ((ip ρ c ks x).getD i .undef) (vals i)
 | [], c, x, vals, hk, h, i => .undef _
 | .val s :: r, c, x, vals, hk, h, i => by
  simp only [rJ, aj] at hk
  cases i with
  | zero => exact PF hs hw hk.1 (h 0)
  | succ i => exact Dc hs hw (ks := r) (c := c + 1) (vals := fun i => vals (i + 1)) hk.2 (fun i => h (i + 1)) i
 | .any :: r, c, x, vals, hk, h, i => by cases hk
 | .row E s :: r, c, x, vals, hk, h, i => by cases hk
 | .agf s F :: r, c, x, vals, hk, h, i => by cases hk
 | .obj j :: r, c, x, vals, hk, h, i => by cases hk
 | .inn j o :: r, c, x, vals, hk, h, i => by cases hk
 | .clo F is :: r, c, x, vals, hk, h, i => by cases hk
 | .tab ks vs :: r, c, x, vals, hk, h, i => by cases hk
 | .fam t k :: r, c, x, vals, hk, h, i => by cases hk
theorem rK : ∀ {ks : List IK}, rJ ks = true → gh ks = true
 | [], _ => rfl
 | .val s :: r, h => by
  simp only [rJ, aj] at h
  exact rK (ks := r) h.2
 | .any :: r, h => by cases h
 | .row E s :: r, h => by cases h
 | .agf s F :: r, h => by cases h
 | .obj j :: r, h => by cases h
 | .inn j o :: r, h => by cases h
 | .clo F is :: r, h => by cases h
 | .tab ks vs :: r, h => by cases h
 | .fam t k :: r, h => by cases h
def AO (fs : List (TypeId × List EK)) (r : Nat → Prop) : In := ⟨fun n => match fs[n]? with
 | some e => some (.fam e.1 fun _ _ => False)
 | none => none, ⟨r, fun _ => []⟩⟩
theorem Qn {fs : List (TypeId × List EK)} (hd : (fs.map (·.1)).Nodup) (w : World) {r : Nat → Prop} (hr : ∀ b, r b → b < w.heap.size) : HR (AO fs r) w (Db fs) := by
 have hh : ∀ n b, Db fs n = some b → ∃ e, fs[n]? = some e ∧ b = .fam e.1 e.2 [] := fun n b h => by
  simp only [Db] at h
  split at h
  ·rename_i e he
   exact ⟨e, he, (au h).symm⟩
  ·cases h
 have hi : ∀ n e, (AO fs r).ι n = some e → ∃ q, fs[n]? = some q ∧ e = .fam q.1 fun _ _ => False := fun n e h => by
  simp only [AO] at h
  split at h
  ·rename_i q hq
   exact ⟨q, hq, (au h).symm⟩
  ·cases h
 refine HR.of (fun n b h => ?_) (fun n h => ?_) (fun n e b h hb => ?_) (fun n m e e' b h h' hb hb' => ?_) hr (fun n m t B B' h h' => ?_)
 ·obtain ⟨e, he, rfl⟩ := hh n b h
  refine ⟨fun _ _ => False, by simp [AO, he], rfl, fun i x b hx => by simp at hx, fun i j c h => h.elim, fun i c h => h.elim⟩
 ·simp only [Db] at h
  split at h
  ·cases h
  ·rename_i he
   simp [AO, he]
 ·obtain ⟨q, _, rfl⟩ := hi n e h
  obtain ⟨i, hb⟩ := hb
  exact hb.elim
 ·obtain ⟨q, _, rfl⟩ := hi n e h
  obtain ⟨i, hb⟩ := hb
  exact hb.elim
 ·obtain ⟨q, hq, e⟩ := hi n _ h
  obtain ⟨q', hq', e'⟩ := hi m _ h'
  simp only [Ent.fam.injEq] at e e'
  have h1 : (fs.map (·.1))[n]? = some t := by rw [bN, hq, e.1]; rfl
  have h2 : (fs.map (·.1))[m]? = some t := by rw [bN, hq', e'.1]; rfl
  have hn := (List.getElem?_eq_some_iff.1 h1).1
  exact (List.getElem?_inj hn hd).1 (h1.trans h2.symm)
def GA (cx : Cx) (fuel f d : Nat) (S : FS) (fs : List (TypeId × List EK)) : Prop := ∀ x, jc cx (fe cx fuel (d + 1)) f d (S.tin.T nam0 x) (Db fs) (Gt S) = S.fn x
theorem Fp {cx : Cx} {fuel f d : Nat} {S : FS} {fs : List (TypeId × List EK)} (hg : Good cx) (heq : GA cx fuel f d S fs) (hoi : ∀ o, S.out (S.inn o) = o) (hd : (fs.map (·.1)).Nodup) (h1 : rJ S.tin.ks = true) (h2 : S.tin.os.isEmpty = true) (h3 : rJ S.tout.ks = true) (h4 : S.tout.os.isEmpty = true) : iu cx.P f S := by
 obtain ⟨⟨ks, os⟩, ⟨oks, oos⟩, R, out, inn, fn⟩ := S
 simp only [List.isEmpty_iff] at h2 h4
 subst h2 h4
 have hnames : ∀ (t : List IK) (y : eM t) (ρ : Nam), gh t = true → Tmpl.names ⟨t, []⟩ ρ = [] := by
  intro t y ρ hp
  unfold Tmpl.names
  simp only [gb, aG]
  exact (iK (ρ := ρ) (c := 0) (x := y) (H := fun _ => none) hp).2
 have hfree : ∀ (t : List IK) (y : eM t) (ρ : Nam) (H : Heap), gh t = true → Tmpl.free ⟨t, []⟩ ρ H = true := by
  intro t y ρ H hp
  unfold Tmpl.free
  rw [hnames t y ρ hp]
  rfl
 have hHn : ∀ (t : List IK) (y : eM t × ol []) (ρ : Nam) (H0 : Heap), gh t = true → Tmpl.H ⟨t, []⟩ ρ y H0 = H0 := fun t y ρ H0 hp => by
  unfold Tmpl.H
  simp only [sG]
  exact (iK hp).1
 have p1 := rK h1
 have p3 := rK h3
 intro α I w H A args ρ κ r X m hH hA hx hρ h
 obtain ⟨Y, hY, hk⟩ := Option.bind_eq_some_iff.1 h
 obtain rfl : m = ⟨[], []⟩ := by
  unfold Tmpl.pr at hx
  split at hx
  ·rename_i x m1 hx1
   obtain ⟨rfl, _⟩ := mj p1 hx1
   simp only [om] at hx
   split at hx
   ·simp only [ab, ah] at hx
    exact hx.2.symm
   ·cases hx
  ·cases hx
 obtain ⟨⟨I0, hL0⟩, hlen, _⟩ := jx (ρ := nam0) hH rfl hx (vals := fun i => args.getD i undef) (fun i => hA.getD i) (gW I w ⟨ks, []⟩ nam0 ⟨[], []⟩) (hfree ks X.1 nam0 _ p1)
 have hle : (Tmpl.T ⟨ks, []⟩ nam0 X).length ≤ args.length := by
  unfold Tmpl.T
  rw [fk, ← hA.length]
  exact hlen
 have hV : ∀ i, VR (AO fs I.R.r) w ((Tmpl.T ⟨ks, []⟩ nam0 X).getD i .undef) (args.getD i undef) := Dc (I := I0) (fun b hb => by rw [hL0.R] at hb; exact hb) (fun b _ => rfl) h1 hL0.val
 have hb := (heq X).trans hY
 refine Calls.mono (oC hg (iE hg fuel (d + 1)) (Qn hd w hH.rlt) hle hV hb) ?_
 rintro e w' he
 cases e with
 | returned z =>
  obtain ⟨I', v, H', g1, g2, g3, g4⟩ := he
  have hnb : ∀ n e c, (AO fs I.R.r).ι n = some e → ¬ e.has c := fun n e c hn => by
   simp only [AO] at hn
   split at hn
   ·simp only [ab] at hn
    subst hn
    rintro ⟨i, h⟩
    exact h
   ·cases hn
  have gw : GrowW w w' := ⟨g2.size, fun b hb => g2.same b hb fun n e hn => hnb n e b hn, g2.os, g2.tape, g2.output⟩
  unfold Gt at g1
  split at g1
  ·rename_i l hl
   have p3' : gh (FS.mk ⟨ks, []⟩ ⟨oks, []⟩ R out inn fn).tout.ks = true := p3
   rw [if_pos p3'] at g1
   generalize hs : kc l [] H' = q at g1
   obtain ⟨A1, T1, H1⟩ := q
   simp only at g1
   obtain ⟨us, u1, u2', u3⟩ := rF g4 hl
   obtain ⟨I3, h3', h2', u2⟩ := tU g3 u2' hs
   split at g1
   ·rename_i zz m1 hz
    simp only [ab] at g1
    rw [← g1, hoi] at hk
    have he3 := g2.trans h2'
    obtain ⟨⟨I2, hL2⟩, _, _⟩ := jx (ρ := nam0) h3' rfl hz (vals := fun i => us.getD i undef) (fun i => u2.getD i) (gW I3 w' ⟨oks, []⟩ nam0 m1) (hfree oks zz.1 nam0 _ p3)
    split at hk
    ·have e1 : Tmpl.H ⟨oks, []⟩ ρ zz ((dv [] H).away ⟨[], []⟩) = H := by
      rw [hHn oks zz ρ _ p3]
      rfl
     rw [e1] at hk
     have hT : Tmpl.T ⟨oks, []⟩ ρ zz = Tmpl.T ⟨oks, []⟩ nam0 zz := ml p3
     rw [hT] at hk
     obtain ⟨q1, q2⟩ := gw.hr hH
     refine ⟨I.grow w w', _, _, _, hk, gw.ext I, q1, u3 (LR.of ?_ (Dc (I := I2) (fun b hb => ?_) (fun b _ => rfl) h3 hL2.val)), fun l hl n sz v _ hi => hi⟩
     ·unfold Tmpl.T
      rw [fk, u1]
     ·rw [hL2.R] at hb
      rcases he3.newR b hb with h5 | ⟨n, e, h5, h6⟩ | h5
      ·exact .inl h5
      ·exact absurd h6 (hnb n e b h5)
      ·exact .inr ⟨h5, h3'.rlt b hb⟩
    ·cases hk
   ·cases g1
  ·cases g1
 | _ => exact he.elim
end Go.Proofs.Dk
namespace Go.Proofs.YtipefepnkpoiaaaGreatH
open Go
def cnt (S : Nat → Bool) : Nat → Nat
 | 0 => 0
 | n + 1 => cnt S n + (if S n then 0 else 1)
def don (S : Nat → Bool) (i : Nat) : Nat → Bool := fun j => if j = i then true else S j
theorem cnt_le (S : Nat → Bool) (i : Nat) : ∀ n, n ≤ i → cnt (don S i) n = cnt S n
 | 0, _ => rfl
 | n + 1, h => by
  simp only [cnt]
  rw [cnt_le S i n (by omega)]
  simp [don, show n ≠ i by omega]
theorem cnt_don (S : Nat → Bool) (i : Nat) (hi : S i = false) : ∀ n, i < n → cnt S n = cnt (don S i) n + 1
 | 0, h => by omega
 | n + 1, h => by
  simp only [cnt]
  by_cases e : n = i
  ·subst e
   rw [cnt_le S n n (Nat.le_refl _)]
   simp [don, hi]
  ·rw [cnt_don S i hi n (by omega)]
   simp [don, e]
   omega
theorem oz (S : Nat → Bool) : ∀ n, cnt S n = 0 → ∀ i, i < n → S i = true
 | 0, _, i, hi => by omega
 | n + 1, h, i, hi => by
  simp only [cnt] at h
  by_cases e : i = n
  ·subst e
   cases hs : S i with
   | true => rfl
   | false => rw [hs] at h; simp at h
  ·exact oz S n (by omega) i (by omega)
section
variable {P : Program} {ops : Array Oper} {Q : Exit → Act → World → Prop}
theorem mem_ready' {listed : Array Bool} (hs : listed.size = ops.size) {i : Nat} : i ∈ Region.ready .any ops listed ↔ listed.getD i false = false ∧ ∃ o, ops[i]? = some o ∧ ∀ e ∈ o.after, Region.binds .any e = true → listed.getD e.on false = true := by
 rw [mem_ready]
 constructor
 ·rintro ⟨h, o, ho, ha⟩
  have hlt : i < listed.size := by rw [hs]; exact (Array.getElem?_eq_some_iff.1 ho).1
  exact ⟨by simpa [hlt] using h, o, ho, ha⟩
 ·rintro ⟨h, o, ho, ha⟩
  have hlt : i < listed.size := by rw [hs]; exact (Array.getElem?_eq_some_iff.1 ho).1
  exact ⟨by simpa [hlt] using h, o, ho, ha⟩
theorem all_done (hback : ∀ (i : Nat) (o : Oper), ops[i]? = some o → ∀ e ∈ o.after, e.on < i) (listed : Array Bool) (hs : listed.size = ops.size) (h : Region.ready .any ops listed = []) : ∀ i, i < ops.size → listed.getD i false = true := by
 intro i
 induction i using Nat.strongRecOn with
 | _ i ih =>
  intro hi
  cases hl : listed.getD i false with
  | true => rfl
  | false =>
   exfalso
   have hm : i ∈ Region.ready .any ops listed := by
    rw [mem_ready' hs]
    refine ⟨hl, ops[i], by simp [hi], fun e he _ => ?_⟩
    have hlt := hback i ops[i] (by simp [hi]) e he
    exact ih e.on hlt (by omega)
   rw [h] at hm
   cases hm
theorem wpAny_inv (I : (Nat → Bool) → Act → World → Prop) (hback : ∀ (i : Nat) (o : Oper), ops[i]? = some o → ∀ e ∈ o.after, e.on < i)
  (hstep : ∀ S i o a w, ops[i]? = some o → S i = false → (∀ e ∈ o.after, Region.binds .any e = true → S e.on = true) → I S a w → wpOp P ops Q i (I (don S i)) a w)
  (hend : ∀ S a w, (∀ i, i < ops.size → S i = true) → I S a w → Q .normal a w) :
  ∀ (fuel : Nat) (listed : Array Bool) (a : Act) (w : World), listed.size = ops.size → cnt (fun i => listed.getD i false) ops.size ≤ fuel → I (fun i => listed.getD i false) a w → wpAny P .any ops Q fuel listed a w
 | 0, listed, a, w, hs, hc, hI => by
  have hall := oz _ _ (Nat.le_zero.1 hc)
  refine ⟨?_, hend _ a w hall hI⟩
  cases hr : Region.ready .any ops listed with
  | nil => rfl
  | cons i rs =>
   have hm : i ∈ Region.ready .any ops listed := by rw [hr]; exact List.mem_cons_self
   rw [mem_ready' hs] at hm
   obtain ⟨h1, o, ho, _⟩ := hm
   have := hall i (Array.getElem?_eq_some_iff.1 ho).1
   rw [this] at h1
   cases h1
 | fuel + 1, listed, a, w, hs, hc, hI => by
  refine ⟨fun hr => hend _ a w (all_done hback listed hs hr) hI, fun i hm => ?_⟩
  rw [mem_ready' hs] at hm
  obtain ⟨h1, o, ho, ha⟩ := hm
  have hlt : i < ops.size := (Array.getElem?_eq_some_iff.1 ho).1
  have hS : (fun j => (listed.setIfInBounds i true).getD j false) = don (fun j => listed.getD j false) i := by
   funext j
   simp only [don]
   by_cases e : j = i
   ·subst e
    simp [hs, hlt]
   ·rw [if_neg e, getD_set_ne false (Ne.symm e)]
  refine wpOp_mono (fun a' w' h => ?_) (hstep _ i o a w ho h1 ha hI)
  refine wpAny_inv I hback hstep hend fuel _ a' w' (by simp [hs]) ?_ ?_
  ·rw [hS]
   have := cnt_don (fun j => listed.getD j false) i h1 ops.size hlt
   omega
  ·rw [hS]
   exact h
theorem wp_region_inv {id : Nat} {a : Act} {w : World} (hm : P.follows .mixedOrders = true) (I : (Nat → Bool) → Act → World → Prop) (hback : ∀ (i : Nat) (o : Oper), ops[i]? = some o → ∀ e ∈ o.after, e.on < i)
  (hstep : ∀ S i o a w, ops[i]? = some o → S i = false → (∀ e ∈ o.after, Region.binds .any e = true → S e.on = true) → I S a w → wpOp P ops Q i (I (don S i)) a w)
  (hend : ∀ S a w, (∀ i, i < ops.size → S i = true) → I S a w → Q .normal a w) (h0 : I (fun _ => false) a w.drew) : (Code.region id ops true).wp P Q a w := by
 refine wp_region_any hm (wpAny_inv I hback hstep hend ops.size _ a _ (by simp) ?_ ?_)
 ·have : ∀ (S : Nat → Bool) n, cnt S n ≤ n := by
   intro S n
   induction n with
   | zero => exact Nat.le_refl _
   | succ n ih => simp only [cnt]; split <;> omega
  exact this _ _
 ·have e : (fun i => (Array.replicate ops.size false).getD i false) = fun _ => false := by
   funext i
   by_cases hi : i < ops.size <;> simp [hi]
  rw [e]
  exact h0
end
def backB (ops : Array Oper) : Bool := (List.range ops.size).all fun i => match ops[i]? with | some o => o.after.all (fun e => decide (e.on < i)) | none => true
theorem back_of {ops : Array Oper} (h : backB ops = true) : ∀ (i : Nat) (o : Oper), ops[i]? = some o → ∀ e ∈ o.after, e.on < i := by
 intro i o ho e he
 have hlt : i < ops.size := (Array.getElem?_eq_some_iff.1 ho).1
 have h1 := List.all_eq_true.1 h i (List.mem_range.2 hlt)
 rw [ho] at h1
 have h2 := Array.all_eq_true_iff_forall_mem.1 h1 e he
 exact of_decide_eq_true h2
end Go.Proofs.YtipefepnkpoiaaaGreatH
namespace Go.Proofs.YtipefepnkpoiaaaGreat.E
open Go.RowKit Go.Proofs.YtipefepnkpoiaaaGreatH
theorem blk_cell {w : World} {g : Nat} {t : TypeId} {cs : Array Value} (h : w.heap[g]? = some (.cells cs t (0, 0))) (i : Nat) : w.cell? ⟨g, i, none⟩ = cs[i]? := cell_of_row w g i cs t (0, 0) h
theorem run_store_func {P : Program} {w : World} {a : Addr} {m : Mode} (f : Fn) (x y : Array Value) : (store a (.func f x y) m).run P w = stored P w a (.func f x y) m := run_store P w a _ m rfl
attribute [local go_sem] run_store_func
inductive GK | al (s : ByteArray) | dup | swp | two
def gk (k : Int) : Option (ByteArray × GK) :=
 if k = 1 ∨ k = 11 ∨ k = 13 ∨ k = 15 ∨ k = 17 then some (⟨#[]⟩, .al ⟨#[105]⟩)
 else if k = 12 ∨ k = 14 ∨ k = 16 ∨ k = 18 then some (⟨#[105]⟩, .al ⟨#[]⟩)
 else if k = 2 then some (⟨#[32]⟩, .al ⟨#[]⟩)
 else if k = 3 then some (⟨#[32]⟩, .dup)
 else if k = 4 then some (⟨#[32, 32]⟩, .swp)
 else if k = 5 then some (⟨#[105, 105]⟩, .two)
 else if k = 6 then some (⟨#[105]⟩, .al ⟨#[105]⟩)
 else if k = 7 then some (⟨#[98]⟩, .al ⟨#[98]⟩)
 else if k = 8 ∨ k = 9 then some (⟨#[98, 98]⟩, .al ⟨#[98]⟩)
 else if k = 10 then some (⟨#[98]⟩, .al ⟨#[105]⟩)
 else if k = 20 then some (⟨#[98]⟩, .al ⟨#[]⟩)
 else none
def gfn (BB : Nat) (w : World) (f : Value) : GK → Prop
 | .al s => ∃ p : Nat, BB ≤ p ∧ f = .func (.func 176) #[] #[.pointer (some ⟨p, 0, none⟩)] ∧ w.heap[p]? = some (.cells #[.string s] 9 (0, 0))
 | .dup => f = .func (.func 171) #[] #[]
 | .swp => f = .func (.func 172) #[] #[]
 | .two => f = .func (.func 173) #[] #[]
def Good (BB : Nat) (w : World) (k : Int) (v : Value) : Prop := ∃ t g f, gk k = some (t, g) ∧ v = .agg #[.string t, f] ∧ gfn BB w f g
def KeepC (w w' : World) : Prop := ∀ (k : Nat) (cs : Array Value) (t : TypeId) (sh : Nat × Nat), w.heap[k]? = some (.cells cs t sh) → w'.heap[k]? = some (.cells cs t sh)
theorem KeepC.refl (w : World) : KeepC w w := fun _ _ _ _ h => h
theorem KeepC.trans {a b c : World} (h : KeepC a b) (h2 : KeepC b c) : KeepC a c := fun k cs t sh hk => h2 k cs t sh (h k cs t sh hk)
theorem KeepC.alloc (w : World) (o : Obj) : KeepC w (w.alloc o) := fun k cs t sh hk => by
 have hlt : k < w.heap.size := (Array.getElem?_eq_some_iff.1 hk).1
 rw [Below.heap_alloc _ _ _ hlt]
 exact hk
theorem KeepC.below {w w' : World} (h : Below w.heap.size w w') : KeepC w w' := fun k cs t sh hk => by
 have hlt : k < w.heap.size := (Array.getElem?_eq_some_iff.1 hk).1
 rw [h.block k hlt]
 exact hk
theorem KeepC.map {w w' : World} {b : Nat} {es : Array MapEntry} {c : Nat} (hb : w.heap[b]? = some (.map es c)) (hg : w.grownBy w' (some b)) : KeepC w w' := fun k cs t sh hk => by
 have hlt : k < w.heap.size := (Array.getElem?_eq_some_iff.1 hk).1
 rw [hg.block k hlt (fun e => by injection e with e; subst e; rw [hb] at hk; cases hk)]
 exact hk
theorem gfn_keep {BB : Nat} {w w' : World} (h : KeepC w w') {f : Value} : ∀ {g : GK}, gfn BB w f g → gfn BB w' f g
 | .al s, ⟨p, e0, e, hp⟩ => ⟨p, e0, e, h _ _ _ _ hp⟩
 | .dup, e => e
 | .swp, e => e
 | .two, e => e
theorem Good.keep {BB : Nat} {w w' : World} (h : KeepC w w') {k : Int} {v : Value} : Good BB w k v → Good BB w' k v
 | ⟨t, g, f, e, e2, hg⟩ => ⟨t, g, f, e, e2, gfn_keep h hg⟩
def vp (BB : Nat) : Nat → Option (Nat × (World → Value → Prop))
 | 1 => some (11, (fun W v => Good BB W 1 v))
 | 3 => some (12, (fun W v => Good BB W 11 v))
 | 5 => some (13, (fun W v => Good BB W 13 v))
 | 7 => some (14, (fun W v => Good BB W 15 v))
 | 9 => some (15, (fun W v => Good BB W 17 v))
 | 11 => some (16, (fun W v => Good BB W 12 v))
 | 13 => some (17, (fun W v => Good BB W 14 v))
 | 15 => some (18, (fun W v => Good BB W 16 v))
 | 17 => some (19, (fun W v => Good BB W 18 v))
 | 19 => some (20, (fun W v => gfn BB W v (.al ⟨#[]⟩)))
 | 20 => some (21, (fun W v => Good BB W 2 v))
 | 22 => some (22, (fun W v => Good BB W 3 v))
 | 24 => some (23, (fun W v => Good BB W 4 v))
 | 26 => some (24, (fun W v => Good BB W 5 v))
 | 28 => some (25, (fun W v => gfn BB W v (.al ⟨#[105]⟩)))
 | 29 => some (26, (fun W v => Good BB W 6 v))
 | 31 => some (27, (fun W v => gfn BB W v (.al ⟨#[98]⟩)))
 | 32 => some (28, (fun W v => Good BB W 7 v))
 | 34 => some (29, (fun W v => Good BB W 8 v))
 | 36 => some (30, (fun W v => Good BB W 9 v))
 | 38 => some (31, (fun W v => gfn BB W v (.al ⟨#[105]⟩)))
 | 39 => some (32, (fun W v => Good BB W 10 v))
 | 41 => some (33, (fun W v => gfn BB W v (.al ⟨#[]⟩)))
 | 42 => some (34, (fun W v => Good BB W 20 v))
 | _ => none
def ins : Nat → Option Int
 | 2 => some 1
 | 4 => some 11
 | 6 => some 13
 | 8 => some 15
 | 10 => some 17
 | 12 => some 12
 | 14 => some 14
 | 16 => some 16
 | 18 => some 18
 | 21 => some 2
 | 23 => some 3
 | 25 => some 4
 | 27 => some 5
 | 30 => some 6
 | 33 => some 7
 | 35 => some 8
 | 37 => some 9
 | 40 => some 10
 | 43 => some 20
 | _ => none
def vidx : Nat → Nat
 | 11 => 1
 | 12 => 3
 | 13 => 5
 | 14 => 7
 | 15 => 9
 | 16 => 11
 | 17 => 13
 | 18 => 15
 | 19 => 17
 | 20 => 19
 | 21 => 20
 | 22 => 22
 | 23 => 24
 | 24 => 26
 | 25 => 28
 | 26 => 29
 | 27 => 31
 | 28 => 32
 | 29 => 34
 | 30 => 36
 | 31 => 38
 | 32 => 39
 | 33 => 41
 | 34 => 42
 | _ => 0
def iidx (k : Int) : Nat := if k = 1 then 2 else if k = 11 then 4 else if k = 13 then 6 else if k = 15 then 8 else if k = 17 then 10 else if k = 12 then 12 else if k = 14 then 14 else if k = 16 then 16 else if k = 18 then 18 else if k = 2 then 21 else if k = 3 then 23 else if k = 4 then 25 else if k = 5 then 27 else if k = 6 then 30 else if k = 7 then 33 else if k = 8 then 35 else if k = 9 then 37 else if k = 10 then 40 else if k = 20 then 43 else 0
def RV (v : Value) : Option (DataW Value × List MemPlace) := some (.held v, [])
structure Inv (BB : Nat) (W0 : World) (B1 B2 B3 : Nat) (S : Nat → Bool) (a : Act) (W : World) : Prop where
 base : BB ≤ W0.heap.size
 size : a.tmps.size = 36
 defs : a.defers = []
 keep : KeepC W0 W
 below : Below W0.heap.size W0 W
 s1 : a.eval (.tmp 1) = .pointer (some ⟨B1, 0, none⟩)
 s2 : a.eval (.tmp 2) = .pointer (some ⟨B2, 0, none⟩)
 s3 : a.eval (.tmp 3) = .pointer (some ⟨B3, 0, none⟩)
 vals : ∀ j t p, vp BB j = some (t, p) → S j = true → p W (a.eval (.tmp t))
 made : ∀ j k, ins j = some k → S j = true → S 0 = true
 map : S 0 = true → ∃ (b n : Nat) (D : DataW Value), a.eval (.tmp 10) = .map (some b) ∧ W0.heap.size ≤ b ∧ W.ownsMap Tryz.prog 3 RV b n D ∧ n + cnt S 46 ≤ 46 ∧ ∀ k : Int, (Lit.int .i64 k).wf = true → ((∃ v, (∀ zd, D.atKey (.int .i64 k) zd = .held v) ∧ Good BB W k v ∧ ∃ j, ins j = some k ∧ S j = true) ∨ ((∀ zd, D.atKey (.int .i64 k) zd = zd) ∧ ∀ j, ins j = some k → S j = false))
 mv : S 44 = true → S 0 = true ∧ a.eval (.tmp 35) = a.eval (.tmp 10)
 rs : S 45 = true → S 44 = true ∧ a.eval (.tmp 0) = a.eval (.tmp 35)
theorem eval_put_ne (a : Act) (d t : Nat) (v : Value) (h : d ≠ t) : (a.put (some d) v).eval (.tmp t) = a.eval (.tmp t) := Act.eval_put (fun d' e e2 => by cases e; cases e2; exact h rfl)
theorem eval_put_eq (a : Act) (d : Nat) (v : Value) (h : d < a.tmps.size) : (a.put (some d) v).eval (.tmp d) = v := by
 simp [Act.put, Act.eval, h]
theorem vp_keep {BB : Nat} {w w' : World} (h : KeepC w w') {j t : Nat} {p : World → Value → Prop} (hv : vp BB j = some (t, p)) {v : Value} (hp : p w v) : p w' v := by
 unfold vp at hv
 split at hv <;> first
  | (injection hv with hv; injection hv with h1 h2; subst h2; exact Good.keep h hp)
  | (injection hv with hv; injection hv with h1 h2; subst h2; exact gfn_keep h hp)
  | cases hv
theorem vp_tmp {BB : Nat} {j t : Nat} {p : World → Value → Prop} (hv : vp BB j = some (t, p)) : 11 ≤ t ∧ t ≤ 34 ∧ vidx t = j ∧ 0 < j ∧ j < 44 ∧ ins j = none := by
 unfold vp at hv
 split at hv <;> first
  | (injection hv with hv; injection hv with h1 h2; subst h1; decide)
  | cases hv
theorem ins_idx {BB : Nat} {j : Nat} {k : Int} (hv : ins j = some k) : iidx k = j ∧ 0 < j ∧ j < 44 ∧ vp BB j = none ∧ (Lit.int .i64 k).wf = true := by
 unfold ins at hv
 split at hv <;> first
  | (injection hv with hv; subst hv; exact ⟨by decide, by decide, by decide, rfl, by decide⟩)
  | cases hv
theorem don_ne {S : Nat → Bool} {i j : Nat} (h : i ≠ j) : don S j i = S i := by simp [don, h]
theorem don_eq {S : Nat → Bool} {j : Nat} : don S j j = true := by simp [don]
section
variable {BB : Nat} {W0 W W' : World} {B1 B2 B3 : Nat} {S : Nat → Bool} {a : Act}
theorem Inv.value (h : Inv BB W0 B1 B2 B3 S a W) {j t : Nat} {p : World → Value → Prop} {v : Value} (hv : vp BB j = some (t, p)) (hS : S j = false) (hk : KeepC W W') (hb : Below W0.heap.size W0 W') (hm : ∀ b n D, W.ownsMap Tryz.prog 3 RV b n D → W'.ownsMap Tryz.prog 3 RV b n D) (hp : p W' v) : Inv BB W0 B1 B2 B3 (don S j) (a.put (some t) v) W' := by
 obtain ⟨t1, t2, t3, t4, t5, t6⟩ := vp_tmp hv
 have hne : ∀ x : Nat, x < 11 ∨ 34 < x → (a.put (some t) v).eval (.tmp x) = a.eval (.tmp x) := fun x hx => eval_put_ne a t x v (by omega)
 refine ⟨h.base, by simpa [Act.put] using h.size, h.defs, h.keep.trans hk, hb, (hne 1 (by omega)).trans h.s1, (hne 2 (by omega)).trans h.s2, (hne 3 (by omega)).trans h.s3, ?_, ?_, ?_, ?_, ?_⟩
 ·intro j' t' p' hv' hS'
  by_cases e : j' = j
  ·subst e
   rw [hv] at hv'
   injection hv' with hv'
   injection hv' with e1 e2
   subst e1
   subst e2
   rw [eval_put_eq a t v (by have := h.size; omega)]
   exact hp
  ·rw [don_ne e] at hS'
   rw [eval_put_ne a t t' v (fun e2 => by subst e2; exact e ((vp_tmp hv').2.2.1.symm.trans t3))]
   exact vp_keep hk hv' (h.vals j' t' p' hv' hS')
 ·intro j' k hi hS'
  have e : j' ≠ j := fun e => by subst e; rw [t6] at hi; cases hi
  rw [don_ne e] at hS'
  rw [don_ne (by omega)]
  exact h.made j' k hi hS'
 ·intro h0
  rw [don_ne (by omega)] at h0
  obtain ⟨b, n, D, g1, g2, g3, g4, g5⟩ := h.map h0
  refine ⟨b, n, D, (hne 10 (by omega)).trans g1, g2, hm _ _ _ g3, ?_, fun k hw => ?_⟩
  ·have := cnt_don S j hS 46 (by omega)
   omega
  ·rcases g5 k hw with ⟨x, x1, x2, j', x3, x4⟩ | ⟨x1, x2⟩
   ·exact .inl ⟨x, x1, x2.keep hk, j', x3, by rw [don_ne (fun e => by subst e; rw [t6] at x3; cases x3)]; exact x4⟩
   ·exact .inr ⟨x1, fun j' x3 => by rw [don_ne (fun e => by subst e; rw [t6] at x3; cases x3)]; exact x2 j' x3⟩
 ·intro h0
  rw [don_ne (by omega)] at h0
  rw [don_ne (by omega), hne 35 (by omega), hne 10 (by omega)]
  exact h.mv h0
 ·intro h0
  rw [don_ne (by omega)] at h0
  rw [don_ne (by omega), hne 0 (by omega), hne 35 (by omega)]
  exact h.rs h0
theorem Inv.insert (h : Inv BB W0 B1 B2 B3 S a W) {j : Nat} {k : Int} {v : Value} {b n : Nat} {D : DataW Value} (hi : ins j = some k) (hS : S j = false) (hS0 : S 0 = true) (g1 : a.eval (.tmp 10) = .map (some b)) (g2 : W0.heap.size ≤ b) (g3 : W.ownsMap Tryz.prog 3 RV b n D) (g4 : n + cnt S 46 ≤ 46) (g5 : ∀ k : Int, (Lit.int .i64 k).wf = true → ((∃ v, (∀ zd, D.atKey (.int .i64 k) zd = .held v) ∧ Good BB W k v ∧ ∃ j, ins j = some k ∧ S j = true) ∨ ((∀ zd, D.atKey (.int .i64 k) zd = zd) ∧ ∀ j, ins j = some k → S j = false))) (hg : Good BB W k v)
  (hm : W'.ownsMap Tryz.prog 3 RV b (n + 1) (D.put (.int .i64 k) (.held v))) (hgr : W.grownBy W' (some b)) : Inv BB W0 B1 B2 B3 (don S j) a W' := by
 obtain ⟨t1, t2, t3, t4, t5⟩ := ins_idx (BB := BB) hi
 have hk : KeepC W W' := by
  obtain ⟨es, c, hb, _⟩ := g3
  exact KeepC.map hb hgr
 have hD : Maps.IsMap D := by
  obtain ⟨es, c, hb, _, _, e⟩ := g3
  exact ⟨_, e⟩
 refine ⟨h.base, h.size, h.defs, h.keep.trans hk, h.below.grown hgr h.below.size (fun j hj => by cases hj; exact g2), h.s1, h.s2, h.s3, ?_, ?_, ?_, ?_, ?_⟩
 ·intro j' t' p' hv' hS'
  rw [don_ne (fun e => by subst e; rw [t4] at hv'; cases hv')] at hS'
  exact vp_keep hk hv' (h.vals j' t' p' hv' hS')
 ·intro j' k' hi' hS'
  rw [don_ne (by omega)]
  exact hS0
 ·intro _
  refine ⟨b, n + 1, _, g1, g2, hm, ?_, fun k' hw => ?_⟩
  ·have := cnt_don S j hS 46 (by omega)
   omega
  ·by_cases e : k' = k
   ·subst e
    exact .inl ⟨v, fun zd => Maps.atKey_put_same hD (by first | exact trivial | simp [WideAt.IsKeyLit]) _ zd, hg.keep hk, j, hi, don_eq⟩
   ·have hne : (Lit.int IntKind.i64 k') ≠ .int .i64 k := fun e2 => e (by injection e2)
    rcases g5 k' hw with ⟨x, x1, x2, j', x3, x4⟩ | ⟨x1, x2⟩
    ·refine .inl ⟨x, fun zd => (Maps.atKey_put_other hne _ zd).trans (x1 zd), x2.keep hk, j', x3, ?_⟩
     rw [don_ne (fun e2 => by subst e2; rw [hi] at x3; injection x3 with x3; exact e x3.symm)]
     exact x4
    ·refine .inr ⟨fun zd => (Maps.atKey_put_other hne _ zd).trans (x1 zd), fun j' x3 => ?_⟩
     rw [don_ne (fun e2 => by subst e2; rw [hi] at x3; injection x3 with x3; exact e x3.symm)]
     exact x2 j' x3
 ·intro h0
  rw [don_ne (by omega)] at h0 ⊢
  exact h.mv h0
 ·intro h0
  rw [don_ne (by omega)] at h0 ⊢
  exact h.rs h0
end
theorem wpOp_of {P : Program} {ops : Array Oper} {Q : Exit → Act → World → Prop} {i : Nat} {o : Oper} {a : Act} {w : World} {K : Act → World → Prop} (ho : ops[i]? = some o) (hg : o.guard = none) (h : o.wp P a w K Q) : wpOp P ops Q i K a w := by
 unfold wpOp
 rw [ho]
 have hw : Region.wanted o (yielded ops a.tmps) = true := by simp [Region.wanted, hg]
 simp only [hw, if_true]
 exact .inl h
set_option maxHeartbeats 8000000 in
set_option maxRecDepth 100000 in
theorem always_calls (s : ByteArray) (w : World) : Calls Tryz.prog 170 #[.string s] w fun e w' => e = .returned (.func (.func 176) #[] #[.pointer (some ⟨w.heap.size, 0, none⟩)]) ∧ w' = w.alloc (.cells #[.string s] 9) := by
 go_enter Tryz.func170, Tryz.ntmps170
 go_wp2
 go_ret
 exact ⟨rfl, rfl⟩
section
variable {BB : Nat} {W0 W : World} {B1 B2 B3 : Nat} {S : Nat → Bool} {a : Act} {ops : Array Oper} {o : Oper} {Q : Exit → Act → World → Prop}
theorem st_load {j t s B : Nat} {k : Int} {x y : Value} (h : Inv BB W0 B1 B2 B3 S a W) (ho : ops[j]? = some o) (hop : o.op = .load 196 (.tmp s)) (hd : o.dst = some t) (hg : o.guard = none) (hs : a.eval (.tmp s) = .pointer (some ⟨B, 0, none⟩)) (hB : W0.heap[B]? = some (.cells #[x, y] 196 (0, 0))) (hv : vp BB j = some (t, fun W v => Good BB W k v)) (hS : S j = false) (hgd : Good BB W0 k (.agg #[x, y])) : wpOp Tryz.prog ops Q j (Inv BB W0 B1 B2 B3 (don S j)) a W := by
 have hBW := h.keep B _ _ _ hB
 have hx0 : W.cell? ⟨B, 0, none⟩ = some x := (blk_cell hBW 0).trans rfl
 have hx1 : W.cell? ⟨B, 1, none⟩ = some y := (blk_cell hBW 1).trans rfl
 have hu := Tryz.underlying196
 have hI := h.value hv hS (KeepC.refl W) h.below (fun _ _ _ hm => hm) (hgd.keep h.keep)
 refine wpOp_of ho hg ?_
 unfold Oper.wp
 simp only [execOp, hop, hs, hd]
 go_simp
 first | exact hI | trace_state
theorem st_call {j t : Nat} {s : ByteArray} (h : Inv BB W0 B1 B2 B3 S a W) (ho : ops[j]? = some o) (hop : o.op = .call { callee := .value (.func 170), args := #[.const (.string s)], argTypes := #[9] }) (hd : o.dst = some t) (hg : o.guard = none) (hv : vp BB j = some (t, fun W v => gfn BB W v (.al s))) (hS : S j = false) : wpOp Tryz.prog ops Q j (Inv BB W0 B1 B2 B3 (don S j)) a W := by
 refine wpOp_of ho hg ?_
 unfold Oper.wp
 have hrun : (execOp a.eval o).run Tryz.prog W = .ok (.enter 170 #[.string s]) W := by
  simp only [execOp, hop]
  go_simp
 rw [hrun]
 refine (always_calls s W).mono ?_
 rintro e w' ⟨rfl, rfl⟩
 rw [hd]
 exact h.value hv hS (KeepC.alloc W _) (h.below.alloc h.below.size _) (fun _ _ _ hm => hm.alloc _) ⟨W.heap.size, Nat.le_trans h.base h.below.size, rfl, Go.heap_alloc_new W _⟩
theorem st_build {j t : Nat} {k : Int} {F : Fn} {xs ys : Array Value} {x : Operand} {tk : ByteArray} (h : Inv BB W0 B1 B2 B3 S a W) (ho : ops[j]? = some o) (hop : o.op = .build 196 #[(0, .const (.string tk)), (1, x)]) (hd : o.dst = some t) (hg : o.guard = none) (hx : a.eval x = .func F xs ys) (hv : vp BB j = some (t, fun W v => Good BB W k v)) (hS : S j = false) (hgd : Good BB W k (.agg #[.string tk, .func F xs ys])) : wpOp Tryz.prog ops Q j (Inv BB W0 B1 B2 B3 (don S j)) a W := by
 have hu := Tryz.underlying196
 have hI := h.value hv hS (KeepC.refl W) h.below (fun _ _ _ hm => hm) hgd
 refine wpOp_of ho hg ?_
 unfold Oper.wp
 have hrun : (execOp a.eval o).run Tryz.prog W = .ok (.value (.agg #[.string tk, .func F xs ys])) W := by
  have hc : ∀ v, a.eval (.const v) = v := fun _ => rfl
  generalize a.eval = ρ at hx hc
  simp only [execOp, hop]
  go_simp
 rw [hrun]
 show Inv BB W0 B1 B2 B3 (don S j) (a.put o.dst _) W
 rw [hd]
 exact hI
theorem st_ins {j t jv : Nat} {k : Int} (h : Inv BB W0 B1 B2 B3 S a W) (ho : ops[j]? = some o) (hop : o.op = .insert 197 (.tmp 10) (.const (.int .i64 k)) (.tmp t)) (hd : o.dst = none) (hg : o.guard = none) (hi : ins j = some k) (hS : S j = false) (hS0 : S 0 = true) (hv : vp BB jv = some (t, fun W v => Good BB W k v)) (hSv : S jv = true) : wpOp Tryz.prog ops Q j (Inv BB W0 B1 B2 B3 (don S j)) a W := by
 obtain ⟨b, n, D, g1, g2, g3, g4, g5⟩ := h.map hS0
 have hgd := h.vals jv t _ hv hSv
 obtain ⟨t1, t2, t3, t4, t5⟩ := ins_idx (BB := BB) hi
 have hkey : keyOf Tryz.prog 3 (.int .i64 k) = some (.int .i64 k) := Maps.keyOf_int_mk Tryz.underlying3 t5
 obtain ⟨w', hrun, r1, r2⟩ := g3.update (Maps.int_keyed Tryz.underlying3) Tryz.underlying197 (by unfold maxLen; omega) hkey (val := a.eval (.tmp t)) (ps := []) rfl
 refine wpOp_of ho hg ?_
 unfold Oper.wp
 simp [execOp, hop, g1, hrun, Result.andThen, BigFrame.eval_const]
 show Inv BB W0 B1 B2 B3 (don S j) (a.put o.dst undef) w'
 rw [hd]
 exact h.insert hi hS hS0 g1 g2 g3 g4 g5 hgd r1 r2
end
theorem cnt_max (S : Nat → Bool) : ∀ n, cnt S n ≤ n
 | 0 => Nat.le_refl _
 | n + 1 => by
  have := cnt_max S n
  simp only [cnt]
  split <;> omega
theorem gk_ins {k : Int} (h : gk k ≠ none) : ∃ j, ins j = some k := by
 unfold gk at h
 repeat' split at h
 all_goals first
  | exact absurd rfl h
  | (rename_i hk; rcases hk with rfl | rfl | rfl | rfl | rfl <;> first | exact ⟨2, rfl⟩ | exact ⟨4, rfl⟩ | exact ⟨6, rfl⟩ | exact ⟨8, rfl⟩ | exact ⟨10, rfl⟩)
  | (rename_i hk; rcases hk with rfl | rfl | rfl | rfl <;> first | exact ⟨12, rfl⟩ | exact ⟨14, rfl⟩ | exact ⟨16, rfl⟩ | exact ⟨18, rfl⟩)
  | (rename_i hk; rcases hk with rfl | rfl <;> first | exact ⟨35, rfl⟩ | exact ⟨37, rfl⟩)
  | (rename_i hk; subst hk; first | exact ⟨21, rfl⟩ | exact ⟨23, rfl⟩ | exact ⟨25, rfl⟩ | exact ⟨27, rfl⟩ | exact ⟨30, rfl⟩ | exact ⟨33, rfl⟩ | exact ⟨40, rfl⟩ | exact ⟨43, rfl⟩)
section
variable {BB : Nat} {W0 W : World} {B1 B2 B3 : Nat} {S : Nat → Bool} {a : Act} {ops : Array Oper} {o : Oper} {Q : Exit → Act → World → Prop}
theorem st_make (h : Inv BB W0 B1 B2 B3 S a W) (ho : ops[0]? = some o) (hop : o.op = .makeMap 197 none) (hd : o.dst = some 10) (hg : o.guard = none) (hS : S 0 = false) : wpOp Tryz.prog ops Q 0 (Inv BB W0 B1 B2 B3 (don S 0)) a W := by
 have hmm := @run_makeMap Tryz.prog
 refine wpOp_of ho hg ?_
 have hrun : (execOp a.eval o).run Tryz.prog W = .ok (.value (.map (some W.heap.size))) (W.alloc (.map #[] 0)) := by
  simp only [execOp, hop]
  go_simp
 unfold Oper.wp
 rw [hrun]
 show Inv BB W0 B1 B2 B3 (don S 0) (a.put o.dst _) _
 rw [hd]
 have hno : ∀ j k, ins j = some k → S j = false := fun j k hi => by
  cases hj : S j with
  | false => rfl
  | true => have := h.made j k hi hj; rw [hS] at this; cases this
 have h44 : S 44 = false := by
  cases hj : S 44 with
  | false => rfl
  | true => have := (h.mv hj).1; rw [hS] at this; cases this
 have h45 : S 45 = false := by
  cases hj : S 45 with
  | false => rfl
  | true => have := (h.rs hj).1; rw [h44] at this; cases this
 have hne : ∀ x : Nat, x ≠ 10 → (a.put (some 10) (.map (some W.heap.size))).eval (.tmp x) = a.eval (.tmp x) := fun x hx => eval_put_ne a 10 x _ (by omega)
 refine ⟨h.base, by simpa [Act.put] using h.size, h.defs, h.keep.trans (KeepC.alloc W _), h.below.alloc h.below.size _, (hne 1 (by omega)).trans h.s1, (hne 2 (by omega)).trans h.s2, (hne 3 (by omega)).trans h.s3, ?_, ?_, ?_, ?_, ?_⟩
 ·intro j t p hv hSj
  obtain ⟨t1, t2, t3, t4, t5, t6⟩ := vp_tmp hv
  rw [don_ne (by omega)] at hSj
  rw [hne t (by omega)]
  exact vp_keep (KeepC.alloc W _) hv (h.vals j t p hv hSj)
 ·intro j k hi hSj
  exact don_eq
 ·intro _
  refine ⟨W.heap.size, 0, .map [], eval_put_eq a 10 _ (by have := h.size; omega), h.below.size, World.ownsMap_made _ _ _ _, by have := cnt_max (don S 0) 46; omega, fun k hw => .inr ⟨fun zd => rfl, fun j hi => ?_⟩⟩
  rw [don_ne (by have := ins_idx (BB := BB) hi; omega)]
  exact hno j k hi
 ·intro h0
  rw [don_ne (by omega), h44] at h0
  cases h0
 ·intro h0
  rw [don_ne (by omega), h45] at h0
  cases h0
theorem st_move (h : Inv BB W0 B1 B2 B3 S a W) (ho : ops[44]? = some o) (hop : o.op = .move (.tmp 10)) (hd : o.dst = some 35) (hg : o.guard = none) (hS : S 44 = false) (hS0 : S 0 = true) : wpOp Tryz.prog ops Q 44 (Inv BB W0 B1 B2 B3 (don S 44)) a W := by
 refine wpOp_of ho hg ?_
 have hrun : (execOp a.eval o).run Tryz.prog W = .ok (.value (a.eval (.tmp 10))) W := by
  simp only [execOp, hop]
  go_simp
 unfold Oper.wp
 rw [hrun]
 show Inv BB W0 B1 B2 B3 (don S 44) (a.put o.dst _) _
 rw [hd]
 have h45 : S 45 = false := by
  cases hj : S 45 with
  | false => rfl
  | true => have := (h.rs hj).1; rw [hS] at this; cases this
 have hne : ∀ x : Nat, x ≠ 35 → (a.put (some 35) (a.eval (.tmp 10))).eval (.tmp x) = a.eval (.tmp x) := fun x hx => eval_put_ne a 35 x _ (by omega)
 refine ⟨h.base, by simpa [Act.put] using h.size, h.defs, h.keep, h.below, (hne 1 (by omega)).trans h.s1, (hne 2 (by omega)).trans h.s2, (hne 3 (by omega)).trans h.s3, ?_, ?_, ?_, ?_, ?_⟩
 ·intro j t p hv hSj
  obtain ⟨t1, t2, t3, t4, t5, t6⟩ := vp_tmp hv
  rw [don_ne (by omega)] at hSj
  rw [hne t (by omega)]
  exact h.vals j t p hv hSj
 ·intro j k hi hSj
  rw [don_ne (by omega)]
  exact hS0
 ·intro h0
  obtain ⟨b, n, D, g1, g2, g3, g4, g5⟩ := h.map hS0
  refine ⟨b, n, D, (hne 10 (by omega)).trans g1, g2, g3, by have := cnt_don S 44 hS 46 (by omega); omega, fun k hw => ?_⟩
  rcases g5 k hw with ⟨x, x1, x2, j', x3, x4⟩ | ⟨x1, x2⟩
  ·exact .inl ⟨x, x1, x2, j', x3, by rw [don_ne (by have := ins_idx (BB := BB) x3; omega)]; exact x4⟩
  ·exact .inr ⟨x1, fun j' x3 => by rw [don_ne (by have := ins_idx (BB := BB) x3; omega)]; exact x2 j' x3⟩
 ·intro _
  rw [don_ne (by omega)]
  exact ⟨hS0, by rw [eval_put_eq a 35 _ (by have := h.size; omega), hne 10 (by omega)]⟩
 ·intro h0
  rw [don_ne (by omega), h45] at h0
  cases h0
theorem st_res (h : Inv BB W0 B1 B2 B3 S a W) (ho : ops[45]? = some o) (hop : o.op = .assign (.tmp 35)) (hd : o.dst = some 0) (hg : o.guard = none) (hS : S 45 = false) (hS44 : S 44 = true) : wpOp Tryz.prog ops Q 45 (Inv BB W0 B1 B2 B3 (don S 45)) a W := by
 refine wpOp_of ho hg ?_
 have hrun : (execOp a.eval o).run Tryz.prog W = .ok (.value (a.eval (.tmp 35))) W := by
  simp only [execOp, hop]
  go_simp
 unfold Oper.wp
 rw [hrun]
 show Inv BB W0 B1 B2 B3 (don S 45) (a.put o.dst _) _
 rw [hd]
 have hS0 := (h.mv hS44).1
 have hne : ∀ x : Nat, x ≠ 0 → (a.put (some 0) (a.eval (.tmp 35))).eval (.tmp x) = a.eval (.tmp x) := fun x hx => eval_put_ne a 0 x _ (by omega)
 refine ⟨h.base, by simpa [Act.put] using h.size, h.defs, h.keep, h.below, (hne 1 (by omega)).trans h.s1, (hne 2 (by omega)).trans h.s2, (hne 3 (by omega)).trans h.s3, ?_, ?_, ?_, ?_, ?_⟩
 ·intro j t p hv hSj
  obtain ⟨t1, t2, t3, t4, t5, t6⟩ := vp_tmp hv
  rw [don_ne (by omega)] at hSj
  rw [hne t (by omega)]
  exact h.vals j t p hv hSj
 ·intro j k hi hSj
  rw [don_ne (by omega)]
  exact hS0
 ·intro h0
  obtain ⟨b, n, D, g1, g2, g3, g4, g5⟩ := h.map hS0
  refine ⟨b, n, D, (hne 10 (by omega)).trans g1, g2, g3, by have := cnt_don S 45 hS 46 (by omega); omega, fun k hw => ?_⟩
  rcases g5 k hw with ⟨x, x1, x2, j', x3, x4⟩ | ⟨x1, x2⟩
  ·exact .inl ⟨x, x1, x2, j', x3, by rw [don_ne (by have := ins_idx (BB := BB) x3; omega)]; exact x4⟩
  ·exact .inr ⟨x1, fun j' x3 => by rw [don_ne (by have := ins_idx (BB := BB) x3; omega)]; exact x2 j' x3⟩
 ·intro _
  rw [don_ne (by omega), hne 35 (by omega), hne 10 (by omega)]
  exact h.mv hS44
 ·intro _
  rw [don_ne (by omega)]
  exact ⟨hS44, by rw [eval_put_eq a 0 _ (by have := h.size; omega), hne 35 (by omega)]⟩
end
end Go.Proofs.YtipefepnkpoiaaaGreat.E
namespace Go.Proofs.YtipefepnkpoiaaaGreat.E
open Go.RowKit Go.Proofs.YtipefepnkpoiaaaGreatH
attribute [local go_sem] run_store_func
theorem below_alloc {w W : World} (h : Below w.heap.size w W) (o : Obj) : Below w.heap.size w (W.alloc o) := h.alloc h.size o
theorem below_drew {B : Nat} {w W : World} (h : Below B w W) : Below B w W.drew := h.drew
theorem alloc_at {w W : World} {o : Obj} {n : Nat} (hn : W.heap.size = n) : (W.alloc o).heap[n]? = some o := by
 subst hn
 exact Go.heap_alloc_new W o
theorem alloc_sz {W : World} {o : Obj} {n : Nat} (hn : W.heap.size = n) : (W.alloc o).heap.size = n + 1 := by rw [World.size_alloc, hn]
theorem alloc_old {W : World} {o o2 : Obj} {n m : Nat} (hn : W.heap.size = n) (hm : m < n) (h : W.heap[m]? = some o2) : (W.alloc o).heap[m]? = some o2 := by
 rw [Below.heap_alloc _ _ _ (by omega)]
 exact h
theorem alloc6 (w : World) (o0 o1 o2 o3 o4 o5 : Obj) (W0 : World) (e : W0 = (((((w.alloc o0).alloc o1).alloc o2).alloc o3).alloc o4).alloc o5) : W0.heap[w.heap.size]? = some o0 ∧ W0.heap[w.heap.size + 1]? = some o1 ∧ W0.heap[w.heap.size + 1 + 1]? = some o2 ∧ W0.heap[w.heap.size + 1 + 1 + 1]? = some o3 ∧ W0.heap[w.heap.size + 1 + 1 + 1 + 1]? = some o4 ∧ W0.heap[w.heap.size + 1 + 1 + 1 + 1 + 1]? = some o5 := by
 subst e
 have e0 : w.heap.size = w.heap.size := rfl
 have e1 := alloc_sz (o := o0) e0
 have e2 := alloc_sz (o := o1) e1
 have e3 := alloc_sz (o := o2) e2
 have e4 := alloc_sz (o := o3) e3
 have e5 := alloc_sz (o := o4) e4
 refine ⟨?_, ?_, ?_, ?_, ?_, Go.Proofs.YtipefepnkpoiaaaGreat.E.alloc_at (w := w) e5⟩
 ·exact alloc_old e5 (by omega) (alloc_old e4 (by omega) (alloc_old e3 (by omega) (alloc_old e2 (by omega) (alloc_old e1 (by omega) (alloc_at (w := w) e0)))))
 ·exact alloc_old e5 (by omega) (alloc_old e4 (by omega) (alloc_old e3 (by omega) (alloc_old e2 (by omega) (alloc_at (w := w) e1))))
 ·exact alloc_old e5 (by omega) (alloc_old e4 (by omega) (alloc_old e3 (by omega) (alloc_at (w := w) e2)))
 ·exact alloc_old e5 (by omega) (alloc_old e4 (by omega) (alloc_at (w := w) e3))
 ·exact alloc_old e5 (by omega) (alloc_at (w := w) e4)
set_option maxHeartbeats 8000000 in
set_option maxRecDepth 100000 in
theorem effects_calls (w : World) : Calls Tryz.prog 154 #[] w fun e w' => ∃ (b n : Nat) (D : DataW Value), e = .returned (.map (some b)) ∧ w.heap.size ≤ b ∧ Below w.heap.size w w' ∧ w'.ownsMap Tryz.prog 3 RV b n D ∧ ∀ k : Int, (Lit.int .i64 k).wf = true → ((∃ v, (∀ zd, D.atKey (.int .i64 k) zd = .held v) ∧ Good w.heap.size w' k v) ∨ (gk k = none ∧ ∀ zd, D.atKey (.int .i64 k) zd = zd)) := by
 have hu196 := Tryz.underlying196
 go_enter Tryz.func154, Tryz.ntmps154
 go_wp2
 have HW : ∀ W0 : World, W0 = ((((((w.alloc (.cells #[.string ⟨#[105]⟩] 9)).alloc (.cells #[.string ⟨#[]⟩] 9)).alloc (.cells #[.string ⟨#[]⟩, .func (.func 176) #[] #[.pointer (some ⟨w.heap.size, 0, none⟩)]] 196)).alloc (.cells #[.string ⟨#[105]⟩, .func (.func 176) #[] #[.pointer (some ⟨w.heap.size + 1, 0, none⟩)]] 196)).alloc (.cells #[.string ⟨#[98]⟩] 9)).alloc (.cells #[.string ⟨#[98, 98]⟩, .func (.func 176) #[] #[.pointer (some ⟨w.heap.size + 1 + 1 + 1 + 1, 0, none⟩)]] 196)) → Below w.heap.size w W0 ∧ W0.heap[w.heap.size]? = some (.cells #[.string ⟨#[105]⟩] 9 (0, 0)) ∧ W0.heap[w.heap.size + 1]? = some (.cells #[.string ⟨#[]⟩] 9 (0, 0)) ∧ W0.heap[w.heap.size + 1 + 1]? = some (.cells #[.string ⟨#[]⟩, .func (.func 176) #[] #[.pointer (some ⟨w.heap.size, 0, none⟩)]] 196 (0, 0)) ∧ W0.heap[w.heap.size + 1 + 1 + 1]? = some (.cells #[.string ⟨#[105]⟩, .func (.func 176) #[] #[.pointer (some ⟨w.heap.size + 1, 0, none⟩)]] 196 (0, 0)) ∧ W0.heap[w.heap.size + 1 + 1 + 1 + 1]? = some (.cells #[.string ⟨#[98]⟩] 9 (0, 0)) ∧ W0.heap[w.heap.size + 1 + 1 + 1 + 1 + 1]? = some (.cells #[.string ⟨#[98, 98]⟩, .func (.func 176) #[] #[.pointer (some ⟨w.heap.size + 1 + 1 + 1 + 1, 0, none⟩)]] 196 (0, 0)) := by
  rintro W0 e
  refine ⟨?_, alloc6 w _ _ _ _ _ _ W0 e⟩
  subst e
  repeat (first | exact Below.refl _ _ | refine below_alloc ?_ _)
 obtain ⟨qb, q0, q1, q2, q3, q4, q5⟩ := HW _ rfl
 clear HW
 generalize ((((((w.alloc (.cells #[.string ⟨#[105]⟩] 9)).alloc (.cells #[.string ⟨#[]⟩] 9)).alloc (.cells #[.string ⟨#[]⟩, .func (.func 176) #[] #[.pointer (some ⟨w.heap.size, 0, none⟩)]] 196)).alloc (.cells #[.string ⟨#[105]⟩, .func (.func 176) #[] #[.pointer (some ⟨w.heap.size + 1, 0, none⟩)]] 196)).alloc (.cells #[.string ⟨#[98]⟩] 9)).alloc (.cells #[.string ⟨#[98, 98]⟩, .func (.func 176) #[] #[.pointer (some ⟨w.heap.size + 1 + 1 + 1 + 1, 0, none⟩)]] 196)) = W0 at *
 refine wp_region_inv (by kernel_rfl) (Inv w.heap.size W0 (w.heap.size + 1 + 1) (w.heap.size + 1 + 1 + 1) (w.heap.size + 1 + 1 + 1 + 1 + 1)) ?_ ?_ ?_ ?_
 ·exact back_of (by kernel_rfl)
 ·intro S i o a W ho hS ha hI
  have hlt : i < 46 := (Array.getElem?_eq_some_iff.1 ho).1
  have hcs : i = 0 ∨ i = 1 ∨ i = 2 ∨ i = 3 ∨ i = 4 ∨ i = 5 ∨ i = 6 ∨ i = 7 ∨ i = 8 ∨ i = 9 ∨ i = 10 ∨ i = 11 ∨ i = 12 ∨ i = 13 ∨ i = 14 ∨ i = 15 ∨ i = 16 ∨ i = 17 ∨ i = 18 ∨ i = 19 ∨ i = 20 ∨ i = 21 ∨ i = 22 ∨ i = 23 ∨ i = 24 ∨ i = 25 ∨ i = 26 ∨ i = 27 ∨ i = 28 ∨ i = 29 ∨ i = 30 ∨ i = 31 ∨ i = 32 ∨ i = 33 ∨ i = 34 ∨ i = 35 ∨ i = 36 ∨ i = 37 ∨ i = 38 ∨ i = 39 ∨ i = 40 ∨ i = 41 ∨ i = 42 ∨ i = 43 ∨ i = 44 ∨ i = 45 := by omega
  rcases hcs with rfl | rfl | rfl | rfl | rfl | rfl | rfl | rfl | rfl | rfl | rfl | rfl | rfl | rfl | rfl | rfl | rfl | rfl | rfl | rfl | rfl | rfl | rfl | rfl | rfl | rfl | rfl | rfl | rfl | rfl | rfl | rfl | rfl | rfl | rfl | rfl | rfl | rfl | rfl | rfl | rfl | rfl | rfl | rfl | rfl | rfl
  ·obtain rfl := Option.some.inj ho
   exact st_make hI ho rfl rfl rfl hS
  ·obtain rfl := Option.some.inj ho
   exact st_load hI ho rfl rfl rfl hI.s1 q2 rfl hS ⟨_, _, _, rfl, rfl, ⟨_, Nat.le_refl _, rfl, q0⟩⟩
  ·obtain rfl := Option.some.inj ho
   exact st_ins hI ho rfl rfl rfl rfl hS (ha ⟨0, .data⟩ (by simp) rfl) (jv := 1) rfl (ha ⟨1, .data⟩ (by simp) rfl)
  ·obtain rfl := Option.some.inj ho
   exact st_load hI ho rfl rfl rfl hI.s1 q2 rfl hS ⟨_, _, _, rfl, rfl, ⟨_, Nat.le_refl _, rfl, q0⟩⟩
  ·obtain rfl := Option.some.inj ho
   exact st_ins hI ho rfl rfl rfl rfl hS (ha ⟨0, .data⟩ (by simp) rfl) (jv := 3) rfl (ha ⟨3, .data⟩ (by simp) rfl)
  ·obtain rfl := Option.some.inj ho
   exact st_load hI ho rfl rfl rfl hI.s1 q2 rfl hS ⟨_, _, _, rfl, rfl, ⟨_, Nat.le_refl _, rfl, q0⟩⟩
  ·obtain rfl := Option.some.inj ho
   exact st_ins hI ho rfl rfl rfl rfl hS (ha ⟨0, .data⟩ (by simp) rfl) (jv := 5) rfl (ha ⟨5, .data⟩ (by simp) rfl)
  ·obtain rfl := Option.some.inj ho
   exact st_load hI ho rfl rfl rfl hI.s1 q2 rfl hS ⟨_, _, _, rfl, rfl, ⟨_, Nat.le_refl _, rfl, q0⟩⟩
  ·obtain rfl := Option.some.inj ho
   exact st_ins hI ho rfl rfl rfl rfl hS (ha ⟨0, .data⟩ (by simp) rfl) (jv := 7) rfl (ha ⟨7, .data⟩ (by simp) rfl)
  ·obtain rfl := Option.some.inj ho
   exact st_load hI ho rfl rfl rfl hI.s1 q2 rfl hS ⟨_, _, _, rfl, rfl, ⟨_, Nat.le_refl _, rfl, q0⟩⟩
  ·obtain rfl := Option.some.inj ho
   exact st_ins hI ho rfl rfl rfl rfl hS (ha ⟨0, .data⟩ (by simp) rfl) (jv := 9) rfl (ha ⟨9, .data⟩ (by simp) rfl)
  ·obtain rfl := Option.some.inj ho
   exact st_load hI ho rfl rfl rfl hI.s2 q3 rfl hS ⟨_, _, _, rfl, rfl, ⟨_, by omega, rfl, q1⟩⟩
  ·obtain rfl := Option.some.inj ho
   exact st_ins hI ho rfl rfl rfl rfl hS (ha ⟨0, .data⟩ (by simp) rfl) (jv := 11) rfl (ha ⟨11, .data⟩ (by simp) rfl)
  ·obtain rfl := Option.some.inj ho
   exact st_load hI ho rfl rfl rfl hI.s2 q3 rfl hS ⟨_, _, _, rfl, rfl, ⟨_, by omega, rfl, q1⟩⟩
  ·obtain rfl := Option.some.inj ho
   exact st_ins hI ho rfl rfl rfl rfl hS (ha ⟨0, .data⟩ (by simp) rfl) (jv := 13) rfl (ha ⟨13, .data⟩ (by simp) rfl)
  ·obtain rfl := Option.some.inj ho
   exact st_load hI ho rfl rfl rfl hI.s2 q3 rfl hS ⟨_, _, _, rfl, rfl, ⟨_, by omega, rfl, q1⟩⟩
  ·obtain rfl := Option.some.inj ho
   exact st_ins hI ho rfl rfl rfl rfl hS (ha ⟨0, .data⟩ (by simp) rfl) (jv := 15) rfl (ha ⟨15, .data⟩ (by simp) rfl)
  ·obtain rfl := Option.some.inj ho
   exact st_load hI ho rfl rfl rfl hI.s2 q3 rfl hS ⟨_, _, _, rfl, rfl, ⟨_, by omega, rfl, q1⟩⟩
  ·obtain rfl := Option.some.inj ho
   exact st_ins hI ho rfl rfl rfl rfl hS (ha ⟨0, .data⟩ (by simp) rfl) (jv := 17) rfl (ha ⟨17, .data⟩ (by simp) rfl)
  ·obtain rfl := Option.some.inj ho
   exact st_call hI ho rfl rfl rfl rfl hS
  ·obtain rfl := Option.some.inj ho
   obtain ⟨p, hpB, hp, hc⟩ := hI.vals 19 20 _ rfl (ha ⟨19, .data⟩ (by simp) rfl); exact st_build hI ho rfl rfl rfl hp rfl hS ⟨_, _, _, rfl, rfl, ⟨p, hpB, rfl, hc⟩⟩
  ·obtain rfl := Option.some.inj ho
   exact st_ins hI ho rfl rfl rfl rfl hS (ha ⟨0, .data⟩ (by simp) rfl) (jv := 20) rfl (ha ⟨20, .data⟩ (by simp) rfl)
  ·obtain rfl := Option.some.inj ho
   exact st_build hI ho rfl rfl rfl rfl rfl hS ⟨_, _, _, rfl, rfl, rfl⟩
  ·obtain rfl := Option.some.inj ho
   exact st_ins hI ho rfl rfl rfl rfl hS (ha ⟨0, .data⟩ (by simp) rfl) (jv := 22) rfl (ha ⟨22, .data⟩ (by simp) rfl)
  ·obtain rfl := Option.some.inj ho
   exact st_build hI ho rfl rfl rfl rfl rfl hS ⟨_, _, _, rfl, rfl, rfl⟩
  ·obtain rfl := Option.some.inj ho
   exact st_ins hI ho rfl rfl rfl rfl hS (ha ⟨0, .data⟩ (by simp) rfl) (jv := 24) rfl (ha ⟨24, .data⟩ (by simp) rfl)
  ·obtain rfl := Option.some.inj ho
   exact st_build hI ho rfl rfl rfl rfl rfl hS ⟨_, _, _, rfl, rfl, rfl⟩
  ·obtain rfl := Option.some.inj ho
   exact st_ins hI ho rfl rfl rfl rfl hS (ha ⟨0, .data⟩ (by simp) rfl) (jv := 26) rfl (ha ⟨26, .data⟩ (by simp) rfl)
  ·obtain rfl := Option.some.inj ho
   exact st_call hI ho rfl rfl rfl rfl hS
  ·obtain rfl := Option.some.inj ho
   obtain ⟨p, hpB, hp, hc⟩ := hI.vals 28 25 _ rfl (ha ⟨28, .data⟩ (by simp) rfl); exact st_build hI ho rfl rfl rfl hp rfl hS ⟨_, _, _, rfl, rfl, ⟨p, hpB, rfl, hc⟩⟩
  ·obtain rfl := Option.some.inj ho
   exact st_ins hI ho rfl rfl rfl rfl hS (ha ⟨0, .data⟩ (by simp) rfl) (jv := 29) rfl (ha ⟨29, .data⟩ (by simp) rfl)
  ·obtain rfl := Option.some.inj ho
   exact st_call hI ho rfl rfl rfl rfl hS
  ·obtain rfl := Option.some.inj ho
   obtain ⟨p, hpB, hp, hc⟩ := hI.vals 31 27 _ rfl (ha ⟨31, .data⟩ (by simp) rfl); exact st_build hI ho rfl rfl rfl hp rfl hS ⟨_, _, _, rfl, rfl, ⟨p, hpB, rfl, hc⟩⟩
  ·obtain rfl := Option.some.inj ho
   exact st_ins hI ho rfl rfl rfl rfl hS (ha ⟨0, .data⟩ (by simp) rfl) (jv := 32) rfl (ha ⟨32, .data⟩ (by simp) rfl)
  ·obtain rfl := Option.some.inj ho
   exact st_load hI ho rfl rfl rfl hI.s3 q5 rfl hS ⟨_, _, _, rfl, rfl, ⟨_, by omega, rfl, q4⟩⟩
  ·obtain rfl := Option.some.inj ho
   exact st_ins hI ho rfl rfl rfl rfl hS (ha ⟨0, .data⟩ (by simp) rfl) (jv := 34) rfl (ha ⟨34, .data⟩ (by simp) rfl)
  ·obtain rfl := Option.some.inj ho
   exact st_load hI ho rfl rfl rfl hI.s3 q5 rfl hS ⟨_, _, _, rfl, rfl, ⟨_, by omega, rfl, q4⟩⟩
  ·obtain rfl := Option.some.inj ho
   exact st_ins hI ho rfl rfl rfl rfl hS (ha ⟨0, .data⟩ (by simp) rfl) (jv := 36) rfl (ha ⟨36, .data⟩ (by simp) rfl)
  ·obtain rfl := Option.some.inj ho
   exact st_call hI ho rfl rfl rfl rfl hS
  ·obtain rfl := Option.some.inj ho
   obtain ⟨p, hpB, hp, hc⟩ := hI.vals 38 31 _ rfl (ha ⟨38, .data⟩ (by simp) rfl); exact st_build hI ho rfl rfl rfl hp rfl hS ⟨_, _, _, rfl, rfl, ⟨p, hpB, rfl, hc⟩⟩
  ·obtain rfl := Option.some.inj ho
   exact st_ins hI ho rfl rfl rfl rfl hS (ha ⟨0, .data⟩ (by simp) rfl) (jv := 39) rfl (ha ⟨39, .data⟩ (by simp) rfl)
  ·obtain rfl := Option.some.inj ho
   exact st_call hI ho rfl rfl rfl rfl hS
  ·obtain rfl := Option.some.inj ho
   obtain ⟨p, hpB, hp, hc⟩ := hI.vals 41 33 _ rfl (ha ⟨41, .data⟩ (by simp) rfl); exact st_build hI ho rfl rfl rfl hp rfl hS ⟨_, _, _, rfl, rfl, ⟨p, hpB, rfl, hc⟩⟩
  ·obtain rfl := Option.some.inj ho
   exact st_ins hI ho rfl rfl rfl rfl hS (ha ⟨0, .data⟩ (by simp) rfl) (jv := 42) rfl (ha ⟨42, .data⟩ (by simp) rfl)
  ·obtain rfl := Option.some.inj ho
   exact st_move hI ho rfl rfl rfl hS (ha ⟨0, .data⟩ (by simp) rfl)
  ·obtain rfl := Option.some.inj ho
   exact st_res hI ho rfl rfl rfl hS (ha ⟨44, .data⟩ (by simp) rfl)
 ·intro S a W hall hI
  have hi : ∀ i, i < 46 → S i = true := hall
  obtain ⟨b, n, D, g1, g2, g3, g4, g5⟩ := hI.map (hi 0 (by omega))
  have hr : a.eval (.tmp 0) = .map (some b) := by rw [(hI.rs (hi 45 (by omega))).2, (hI.mv (hi 44 (by omega))).2, g1]
  have hdf := hI.defs
  have hB : Below w.heap.size w W := qb.trans (Below.mono hI.below qb.size)
  have hfin : ∀ k : Int, (Lit.int .i64 k).wf = true → ((∃ v, (∀ zd, D.atKey (.int .i64 k) zd = .held v) ∧ Good w.heap.size W k v) ∨ (gk k = none ∧ ∀ zd, D.atKey (.int .i64 k) zd = zd)) := fun k hw => by
   rcases g5 k hw with ⟨v, x1, x2, _⟩ | ⟨x1, x2⟩
   ·exact .inl ⟨v, x1, x2⟩
   ·refine .inr ⟨Classical.byContradiction fun hne => ?_, x1⟩
    obtain ⟨j, hj⟩ := gk_ins hne
    have h1 := x2 j hj
    rw [hi j (by have := ins_idx (BB := 0) hj; omega)] at h1
    cases h1
  rename_i hK
  refine hK a W ?_
  refine wp_ret ?_
  show bodyPost Tryz.prog Tryz.f154 _ .ret a W
  refine bodyPost_ret (results_tmp (show Tryz.f154.results = #[.tmp 0] from rfl) _ _ _) hdf ?_
  exact ⟨b, n, D, congrArg Ending.returned hr, Nat.le_trans qb.size g2, hB, g3, hfin⟩
 ·refine ⟨qb.size, rfl, rfl, KeepC.below (below_drew (Below.refl _ _)), below_drew (Below.refl _ _), rfl, rfl, rfl, fun _ _ _ _ h => (Bool.noConfusion h), fun _ _ _ h => (Bool.noConfusion h), fun h => (Bool.noConfusion h), fun h => (Bool.noConfusion h), fun h => (Bool.noConfusion h)⟩
end Go.Proofs.YtipefepnkpoiaaaGreat.E
namespace Go.Proofs.Dk
open Go Go.RowKit
abbrev ND := Go.Proofs.YtipefepnkpoiaaaGreat.E.GK
abbrev yS := Go.Proofs.YtipefepnkpoiaaaGreat.E.gk
def Qo : ND → DV
 | .al s => .fn (.func 176) [] [.pi [.sc (.string s)]]
 | .dup => .fn (.func 171) [] []
 | .swp => .fn (.func 172) [] []
 | .two => .fn (.func 173) [] []
def lC (p : ByteArray × ND) : DV := .agg [.sc (.string p.1), Qo p.2]
def vO : List (List Int) := [[1, 11, 13, 15, 17], [12, 14, 16, 18], [2], [3], [4], [5], [6], [7], [8, 9], [10], [20]]
def vP : List DV := [lC (⟨#[]⟩, .al ⟨#[105]⟩), lC (⟨#[105]⟩, .al ⟨#[]⟩), lC (⟨#[32]⟩, .al ⟨#[]⟩), lC (⟨#[32]⟩, .dup), lC (⟨#[32, 32]⟩, .swp), lC (⟨#[105, 105]⟩, .two), lC (⟨#[105]⟩, .al ⟨#[105]⟩), lC (⟨#[98]⟩, .al ⟨#[98]⟩), lC (⟨#[98, 98]⟩, .al ⟨#[98]⟩), lC (⟨#[98]⟩, .al ⟨#[105]⟩), lC (⟨#[98]⟩, .al ⟨#[]⟩)]
theorem rL (n : Int) : d6 vO vP n = (yS n).map lC := by
 unfold yS Go.Proofs.YtipefepnkpoiaaaGreat.E.gk
 simp only [vO, vP, d6, List.any_cons, List.any_nil, bo, aE, ai, apply_ite (Option.map lC), bF, Option.map_none]
theorem Ig {n : Int} (h : yS n ≠ none) : (Lit.int .i64 n).wf = true := by
 obtain ⟨j, hj⟩ := Go.Proofs.YtipefepnkpoiaaaGreat.E.gk_ins h
 exact (Go.Proofs.YtipefepnkpoiaaaGreat.E.ins_idx (BB := 0) hj).2.2.2.2
theorem MH {w : World} {B b n : Nat} {D : DataW Value} (h : w.ownsMap Tryz.prog 3 Go.Proofs.YtipefepnkpoiaaaGreat.E.RV b n D) (hk : ∀ k : Int, (Lit.int .i64 k).wf = true → ((∃ v, (∀ zd, D.atKey (.int .i64 k) zd = .held v) ∧ Go.Proofs.YtipefepnkpoiaaaGreat.E.Good B w k v) ∨ (yS k = none ∧ ∀ zd, D.atKey (.int .i64 k) zd = zd))) :
  ∃ es clock val, w.heap[b]? = some (.map es clock) ∧ TabE vO vP val es.toList ∧ ∀ n d, d6 vO vP n = some d → Go.Proofs.YtipefepnkpoiaaaGreat.E.Good B w n (val n) := by
 obtain ⟨es, clock, hb, F, _, rfl⟩ := h
 have hu := Tryz.underlying3
 have key : ∀ e ∈ es.toList, ∃ n, e.key = .int .i64 n ∧ (Lit.int .i64 n).wf = true := by
  intro e he
  obtain ⟨y, hy⟩ := F.reads e he
  have h1 := WideElems.rd_key hy
  revert h1
  generalize e.key = q
  intro h1
  cases q <;> simp [keyOf, hu, mapKey] at h1
  obtain ⟨⟨rfl, h2⟩, _⟩ := h1
  exact ⟨_, rfl, h2⟩
 have one : ∀ e ∈ es.toList, ∀ e' ∈ es.toList, e.key = e'.key → e = e' := by
  have hs := ((MapKept.stamped_iff es clock).1 F.stamped).2.2
  intro e he e' he' hee
  obtain ⟨i, hi, rfl⟩ := co he
  obtain ⟨j, hj, rfl⟩ := co he'
  rw [List.pairwise_iff_getElem] at hs
  rcases Nat.lt_trichotomy i j with h | h | h
  ·exact absurd hee (hs i j hi hj h)
  ·subst h; rfl
  ·exact absurd hee.symm (hs j i hj hi h)
 have at_ : ∀ n, (Lit.int .i64 n).wf = true → ((∃ e ∈ es.toList, e.key = .int .i64 n ∧ Go.Proofs.YtipefepnkpoiaaaGreat.E.Good B w n e.val) ∨ (yS n = none ∧ ∀ e ∈ es.toList, e.key ≠ .int .i64 n)) := by
  intro n hn
  have hkey : keyOf Tryz.prog 3 (.int .i64 n) = some (.int .i64 n) := Maps.keyOf_int_mk hu hn
  have hz0 : (nN Tryz.prog 196).isSome = true := by kernel_rfl
  obtain ⟨its, hits⟩ := Option.isSome_iff_exists.1 hz0
  obtain ⟨it, z, hit, hz1, _⟩ := rf (I := ⟨fun _ => none, ⟨fun _ => False, fun _ => []⟩⟩) (w := w) hits
  have hz : (zeroValue 196).run Tryz.prog w = .ok z w := by simp [zeroValue, typeInfo, Sem.run_bind, hit, hz1]
  rcases Maps.fit_look false (Maps.int_keyed hu) Tryz.underlying197 hz hb F hkey with ⟨_, h2, h3⟩ | ⟨e0, y, h1, h2, _, h4, h5, _⟩
  ·rcases hk n hn with ⟨v, g1, g2⟩ | ⟨g1, g2⟩
   ·have := (h3 (.lit (.bool true))).symm.trans (g1 _)
    cases this
   ·exact .inr ⟨g1, h2⟩
  ·rcases hk n hn with ⟨v, g1, g2⟩ | ⟨g1, g2⟩
   ·refine .inl ⟨e0, h1, h2, ?_⟩
    have h6 := (h5 (.lit (.bool true))).symm.trans (g1 _)
    simp only [Go.Proofs.YtipefepnkpoiaaaGreat.E.RV, ab] at h4
    rw [← h4] at h6
    simp only [DataW.held.injEq] at h6
    rw [h6]
    exact g2
   ·have h6 := (h5 (.lit (.bool true))).symm.trans (g2 _)
    simp only [Go.Proofs.YtipefepnkpoiaaaGreat.E.RV, ab] at h4
    rw [← h4] at h6
    cases h6
 have hex : ∀ n : Int, ∃ v : Value, ∀ e ∈ es.toList, e.key = .int .i64 n → v = e.val := by
  intro n
  by_cases h : ∃ e ∈ es.toList, e.key = .int .i64 n
  ·obtain ⟨e, he, hen⟩ := h
   exact ⟨e.val, fun e' he' hen' => by rw [one e he e' he' (hen.trans hen'.symm)]⟩
  ·exact ⟨default, fun e he hen => absurd ⟨e, he, hen⟩ h⟩
 obtain ⟨val, hval⟩ := Classical.axiomOfChoice hex
 refine ⟨es, clock, val, hb, ⟨fun e he => ?_, fun e he n hn => ⟨hval n e he hn, ?_⟩, fun n hn => ?_⟩, fun n d hd => ?_⟩
 ·obtain ⟨n, hn, _⟩ := key e he
  exact ⟨n, hn⟩
 ·obtain ⟨n', hn', hw⟩ := key e he
  rw [hn] at hn'
  cases hn'
  rcases at_ n hw with ⟨e', _, _, t, g, f, hg, _⟩ | ⟨_, h2⟩
  ·rw [rL, show yS n = _ from hg]; rfl
  ·exact absurd hn (h2 e he)
 ·have hne : yS n ≠ none := by
   rw [rL] at hn
   intro h0
   rw [h0] at hn
   cases hn
  rcases at_ n (Ig hne) with ⟨e, h1, h2, _⟩ | ⟨h1, _⟩
  ·exact ⟨e, h1, h2⟩
  ·exact absurd h1 hne
 ·have hne : yS n ≠ none := by
   rw [rL] at hd
   intro h0
   rw [h0] at hd
   cases hd
  rcases at_ n (Ig hne) with ⟨e, h1, h2, h3⟩ | ⟨h1, _⟩
  ·rw [hval n e h1 h2]; exact h3
  ·exact absurd h1 hne
def GB : FS := ⟨⟨[], []⟩, ⟨[.tab vO vP], []⟩, Unit, fun _ => ((), ()), fun _ => (), fun _ => some ()⟩
theorem NE {I : In} {w : World} {B : Nat} {p : ByteArray × ND} {v f : Value} (hv : v = .agg #[.string p.1, f]) (hg : Go.Proofs.YtipefepnkpoiaaaGreat.E.gfn B w f p.2) (hI : ∀ q, B ≤ q → q < w.heap.size → I.R q) : VR I w (lC p) v := by
 obtain ⟨t, g⟩ := p
 subst hv
 refine .agg _ _ (.one _ _ _ _ (.sc _ rfl) rfl ?_)
 have fin : ∀ {d : DV}, VR I w d f → f.oneCell' = true → CR I w [d] [f] := fun hd ho => .one _ _ _ _ hd ho .nil
 cases g with
 | al s =>
  obtain ⟨q, hqB, rfl, hq⟩ := hg
  refine fin (.fn _ _ _ _ _ .nil (.cons _ _ _ _ (.pi _ ⟨q, 0, none⟩ [.string s] rfl (hI q hqB (Array.getElem?_eq_some_iff.1 hq).1) (fun d hd => ?_) (.one _ _ _ _ (.sc _ rfl) rfl .nil) (fun j u hu => ?_)) .nil)) rfl
  ·simp only [ao] at hd
   subst hd
   rfl
  ·cases j with
   | zero =>
    simp only [bu, ab] at hu
    subst hu
    exact (Go.Proofs.YtipefepnkpoiaaaGreat.E.blk_cell hq 0).trans rfl
   | succ j => simp at hu
 | dup => subst hg; exact fin (.fn _ _ _ _ _ .nil .nil) rfl
 | swp => subst hg; exact fin (.fn _ _ _ _ _ .nil .nil) rfl
 | two => subst hg; exact fin (.fn _ _ _ _ _ .nil .nil) rfl
theorem GC : iu Tryz.prog 154 GB := by
 intro α I w H A args ρ k r x m hH hA hx hρ h
 obtain ⟨rfl, rfl⟩ : A = [] ∧ m = ⟨[], []⟩ := by
  unfold Tmpl.pr at hx
  split at hx
  ·rename_i y m1 hy
   have hl := jO hy
   obtain rfl : A = [] := bn hl
   refine ⟨rfl, ?_⟩
   simp only [GB, dZ, ab] at hy
   obtain rfl : m1 = ⟨[], []⟩ := (congrArg Prod.snd hy).symm
   exact (au (congrArg (Option.map Prod.snd) hx)).symm
  ·cases hx
 cases hA
 refine Calls.mono (Go.Proofs.YtipefepnkpoiaaaGreat.E.effects_calls w) ?_
 rintro e w' ⟨b0, n, D, rfl, hnew, hB, hO, hk⟩
 obtain ⟨es, clock, val, hb, hE, hv⟩ := MH hO hk
 have hbw : b0 < w'.heap.size := (Array.getElem?_eq_some_iff.1 hb).1
 have hw : ∀ b, b < w.heap.size → w'.heap[b]? = w.heap[b]? := hB.block
 refine ⟨⟨I.ι, ⟨fun b => I.R b ∨ (w.heap.size ≤ b ∧ b < w'.heap.size), I.R.fam⟩⟩, _, _, _, h, ⟨fun n b h => h, fun b h => .inl h, fun b h _ => hw b h, fun n e b h1 h2 => .inl ⟨n, e, h1, h2⟩, fun b h => ?_, hB.size, hB.os, hB.tape, hB.output, fun _ _ _ h => h, fun _ h => ⟨rfl, h⟩⟩, (hH.grow (I' := ⟨I.ι, ⟨fun b => I.R b ∨ (w.heap.size ≤ b ∧ b < w'.heap.size), I.R.fam⟩⟩) rfl rfl (fun b => Iff.rfl) hw hB.size).1, ?_, fun l hl n sz v _ h => h⟩
 ·rcases h with h | h
  ·exact .inl h
  ·exact .inr (.inr h.1)
 ·refine .tab vO vP val b0 es clock ?_ hb hE fun n d hd => ?_
  ·exact .inr ⟨hnew, hbw⟩
  ·obtain ⟨t, g, f, h1, h2, h3⟩ := hv n d hd
   rw [rL, show yS n = _ from h1] at hd
   simp only [bF, ab] at hd
   subst hd
   exact NE (f := f) h2 h3 fun q h4 h5 => .inr ⟨h4, h5⟩
end Go.Proofs.Dk
namespace Go.Proofs.Dk
open Go Go.IntKind
set_option maxRecDepth 100000
variable (n : Nat)
section
variable {a b c d a0 a1 a2 a3 a4 a5 a6 a7 a8 a9 b0 b1 b2 b3 b4 : Type}
abbrev u_ (x : a) : a × Unit := (x, ())
abbrev v_ (x : a × b) : a × Unit := (x.1, ())
abbrev k_ (x : a × Unit) : a := x.1
abbrev j_ (x : a × Unit) (y : d) : a × d := (x.1, y)
abbrev q_ (f : a → b → c) (x : a × b) : c := f x.1 x.2
abbrev U_ (f : b → c) (x : a × b) : a × c := (x.1, f x.2)
abbrev J_ (f : b → d → c) (x : a × b) (y : d) : a × c := (x.1, f x.2 y)
abbrev C_ (q : d → b → c) (f : a → d) (x : a × b) : c := q (f x.1) x.2
abbrev dH (f : b → c) (x : a × a0 × b) : a × a0 × c := U_ (U_ f) x
abbrev gd (f : b → d → c) (x : a × a0 × b) (y : d) : a × a0 × c := J_ (J_ f) x y
abbrev d8 (q : d → b → c) (f : a → a0 → d) (x : a × a0 × b) : c := C_ (C_ q) f x
abbrev ed (f : b → c) (x : a × a0 × a1 × a2 × b) : a × a0 × a1 × a2 × c := dH (dH f) x
abbrev kR (f : b → d → c) (x : a × a0 × a1 × a2 × b) (y : d) : a × a0 × a1 × a2 × c := gd (gd f) x y
abbrev ew (q : d → b → c) (f : a → a0 → a1 → a2 → d) (x : a × a0 × a1 × a2 × b) : c := d8 (d8 q) f x
abbrev dD (f : b → c) (x : a × a0 × a1 × a2 × a3 × a4 × a5 × a6 × b) : a × a0 × a1 × a2 × a3 × a4 × a5 × a6 × c := ed (ed f) x
abbrev wF (f : b → d → c) (x : a × a0 × a1 × a2 × a3 × a4 × a5 × a6 × b) (y : d) : a × a0 × a1 × a2 × a3 × a4 × a5 × a6 × c := kR (kR f) x y
abbrev fg (q : d → b → c) (f : a → a0 → a1 → a2 → a3 → a4 → a5 → a6 → d) (x : a × a0 × a1 × a2 × a3 × a4 × a5 × a6 × b) : c := ew (ew q) f x
abbrev Sv (f : b → c) (x : a × a0 × a1 × a2 × a3 × a4 × a5 × a6 × a7 × a8 × a9 × b0 × b1 × b2 × b3 × b4 × b) : a × a0 × a1 × a2 × a3 × a4 × a5 × a6 × a7 × a8 × a9 × b0 × b1 × b2 × b3 × b4 × c := dD (dD f) x
abbrev Sw (f : b → d → c) (x : a × a0 × a1 × a2 × a3 × a4 × a5 × a6 × a7 × a8 × a9 × b0 × b1 × b2 × b3 × b4 × b) (y : d) : a × a0 × a1 × a2 × a3 × a4 × a5 × a6 × a7 × a8 × a9 × b0 × b1 × b2 × b3 × b4 × c := wF (wF f) x y
abbrev xk (q : d → b → c) (f : a → a0 → a1 → a2 → a3 → a4 → a5 → a6 → a7 → a8 → a9 → b0 → b1 → b2 → b3 → b4 → d) (x : a × a0 × a1 × a2 × a3 × a4 × a5 × a6 × a7 × a8 × a9 × b0 × b1 × b2 × b3 × b4 × b) : c := fg (fg q) f x
end
abbrev cY : Sh := (.int .i64)
abbrev wG : Sh := (.pair cY cY)
abbrev iw : Sh := (.pair cY wG)
abbrev eJ : Sh := (.sl iw)
abbrev dw : Sh := (.sl cY)
abbrev pO : Sh := (.arr 8 cY)
abbrev sJ : Sh := (.arr 16 cY)
abbrev dT : List EK := [.val eJ, .val dw, .val pO, .val .bool, .val cY, .row 3 cY, .val pO, .val sJ, .val sJ, .val cY, .row 3 cY, .val cY, .val cY, .val cY]
abbrev Dd : Sh := (.pair cY (.pair cY (.pair cY (.pair cY (.pair dw (.pair dw eJ))))))
abbrev ey : Sh := (.arr 8 pO)
abbrev ek : Sh := (.sl dw)
abbrev ee : Sh := (.sl Dd)
abbrev tV : Sh := (.pair cY (.pair cY (.pair cY (.pair cY (.pair dw (.pair ek ee))))))
abbrev gY : Sh := (.sl wG)
abbrev nJ : List IK := [.val eJ, .val dw, .val pO, .val .bool, .val cY, .row 3 cY, .val pO, .val sJ, .val sJ, .val cY, .row 3 cY, .val cY, .val cY, .val cY]
abbrev iy : List IK := [.val cY, .val cY, .val cY, .val cY, .val dw, .val ek, .val ee]
abbrev AP : List IK := [.val cY, .val cY, .val cY, .val cY, .val dw, .val dw, .val eJ, .val cY, .val cY, .val cY, .val cY, .val dw, .val ek, .val ee]
abbrev lY : List IK := [.val cY, .val cY, .val cY]
abbrev wH : List IK := [.row 9 .str, .row 4 .bool, .row 4 .bool]
abbrev oJ : List IK := [.val cY, .val cY]
abbrev sK : List IK := [.val cY, .val sJ]
abbrev Fq : List IK := [.val eJ, .val dw, .clo 48 []]
abbrev Fr : List IK := [.val (.arr 16 .bool)]
abbrev gZ : Type := (Int × Int)
abbrev jB : Type := (Int × gZ)
abbrev dn : Type := (List jB)
abbrev di : Type := (dn × (List Int) × (List Int) × Bool × Int × (List Int) × (List Int) × (List Int) × (List Int) × Int × (List Int) × Int × Int × Int × Unit)
abbrev xl : Type := (Int × (Int × (Int × (Int × ((List Int) × ((List Int) × dn))))))
abbrev da : Type := (List xl)
abbrev De : Type := (Int × Int × Int × Int × (List Int) × (List (List Int)) × da × Unit)
abbrev wI : Type := (Int × Int × Int × Int × (List Int) × (List Int) × dn × Int × Int × Int × Int × (List Int) × (List (List Int)) × da × Unit)
abbrev eB : Type := ((List di) × Unit)
abbrev wJ : Type := (eB × De × (Int × (List Int) × Unit) × (Int × (List Int) × Unit) × Unit)
abbrev dU : Type := (List gZ)
abbrev ig : Type := (((dn × (List Int)) × Int × Int × Unit) × Unit)
abbrev sL : Type := ((List ByteArray) × (List Bool) × (List Bool) × Unit)
abbrev fw : Type := (Bool × Unit)
abbrev nD : Type := (Unit × Unit)
abbrev gi : Type := ((fw × Unit) ⊕ nD)
abbrev rM : Type := (List (Int × jB))
abbrev zV : Type := (dU × dn × (List Int) × (List Int) × Bool × Int × (List Int) × (List Int) × (List Int) × (List Int) × Int × (List Int) × Int × Int × Int)
abbrev oK : Type := (Int × (Int × (Int × (Int × ((List Int) × ((List (List Int)) × da))))))
abbrev oL : Type := (De × ((List Bool) × Unit) × Unit)
abbrev oM : Type := (Int × Int × Int × Int × Int × (List Int) × (List (List Int)) × da)
abbrev rN : Type := (Int × Int × Int × Unit)
abbrev rO : Type := (Int × Int × Int × Int × Int × Int × (List Int) × (List (List Int)) × da)
abbrev GD : Type := (Int × dn × (List Int) × (List Int) × Bool × Int × (List Int) × (List Int) × (List Int) × (List Int) × Int × (List Int) × Int × Int × Int)
abbrev pP : Type := (rN × Unit)
abbrev zW : Type := (((List Int) × (List Int) × rM × Int × dn × Int × Int × Unit) × pP)
abbrev gx : Type := (Int × Unit)
abbrev Km : Type := (Bool × dn × Int × Int × Int × Int × Int × Int × (List Int) × (List Int) × dn × Int × Int × Int × Int × (List Int) × (List (List Int)) × da × Int × Int × Int)
abbrev jZ : Type := (De × Unit)
abbrev tW : Type := ((fw × jZ) ⊕ (Unit × jZ))
abbrev tX : Type := ((gx × (wI × Unit)) ⊕ (Unit × (wI × Unit)))
abbrev Kn : Type := (dU × (List Int) × Int × dn × (List Int) × (List Int) × Bool × Int × (List Int) × (List Int) × (List Int) × (List Int) × Int × (List Int) × Int × Int × Int)
abbrev j7 : Type := ((List Int) × Unit)
abbrev zX : Type := ((dn × (List Int) × Unit) × gx × j7 × Unit)
abbrev Ko : Type := (((List Int) × (List Int) × Int × Unit) × Unit)
abbrev GE : Type := (Ko ⊕ (((List Int) × (List Int) × rM × Unit) × Unit))
abbrev Kp : Type := ((List Int) × Int × Int × Int × Int × Int × Int × (List Int) × (List Int) × dn × Int × Int × Int × Int × (List Int) × (List (List Int)) × da)
abbrev tY : Type := (Int × dn × (List Int) × Int × (List Int))
abbrev Kq : Type := (dn × Int × Int × Int × Int × Int × Int × (List Int) × (List Int) × dn × Int × Int × Int × Int × (List Int) × (List (List Int)) × da)
abbrev Kr : Type := (Int × Int × (List di) × Int × Int × Int × Int × (List Int) × (List (List Int)) × da × Int × (List Int) × Int × (List Int))
abbrev Ks : Type := (da × Int × Int × (List Int) × Int × Int × Int × Int × Int × Int × (List Int) × (List (List Int)) × da × (List Bool))
abbrev Kt : Type := (Int × (List di) × Int × Int × Int × Int × (List Int) × (List (List Int)) × da × Int × (List Int) × Int × (List Int))
abbrev zY : Type := (Int × Int × dn × (List Int) × Int × (List Int))
abbrev tZ : Type := ((Int × Int × Unit) × jZ)
abbrev GF : Type := ((List Int) × (List Int) × rM × Int × dn × Int × Int × Int × Int × Int)
abbrev GG : Type := ((((List ByteArray) × Int × Unit) × (sL × Unit)) ⊕ (Unit × (sL × Unit)))
abbrev pQ : Type := ((ByteArray × Unit) × Unit)
abbrev GH : Type := (((List Int) × Int × Int × dn × Int × Int × Unit) × pP)
abbrev kC : Type := ((List Int) × Int)
abbrev zZ : Type := ((dn × (List Int) × Int × Unit) × Unit)
abbrev Ku : Type := (da × Int × Int × Int × Int × Int × Int × (List Int) × (List (List Int)) × da × (List Bool))
abbrev xm : Type := (((List Int) × Int × Unit) × Unit)
abbrev Kv : Type := ((List (List Int)) × Int × Int × Int × Int × Int × Int × (List Int) × (List (List Int)) × da)
abbrev Df : Type := ((Int × ByteArray × Unit) × (sL × rN × Unit))
abbrev GI : Type := ((List Int) × (List Int) × rM × dn × Int × Int × Unit)
abbrev Kw : Type := (Int × ByteArray × (List ByteArray) × (List Bool) × (List Bool) × Int × Int × Int)
abbrev Aa : Type := ((da × Int × Int × Unit) × oL)
abbrev Kx : Type := ((List Int) × dn × Int × Int × (List ByteArray) × (List Bool) × (List Bool))
abbrev NF : Type := ((List Int) × dn × (List Int) × (List Int) × Bool × Int × (List Int) × (List Int) × (List Int) × (List Int) × Int × (List Int) × Int × Int × Int)
abbrev NG : Type := (Bool × dn × (List Int) × (List Int) × Bool × Int × (List Int) × (List Int) × (List Int) × (List Int) × Int × (List Int) × Int × Int × Int)
abbrev Ky : Type := (dn × (List Int) × (List Int) × (List Int) × Bool × dn × Int × Int)
abbrev GJ : Type := ((List Int) × Int × dn × Int × Int × Unit)
abbrev Kz : Type := (Int × ByteArray × (List ByteArray) × (List Bool) × (List Bool))
abbrev GL : Type := ((fw × Unit) ⊕ ((dn × Unit) × Unit))
abbrev Dg : Type := (dU × dU × dU × dU × Unit)
abbrev Dh : Type := ((List Int) × (List Int) × Int)
abbrev KA : Type := (Int × Int × Int × dn × (List Int) × Int × (List Int))
abbrev KB : Type := ((List Int) × (List Int) × rM × dn × Int × Int)
abbrev NH : Type := (dn × (List Int) × (List Int) × (List Int) × Bool × Bool × dn × Int × Int × Int × Int × Int)
abbrev nE : Type := (eB × Unit)
abbrev nF : Type := (di × Unit)
abbrev GM : Type := ((fw × oL) ⊕ (Unit × oL))
abbrev pR : Type := (gx × Unit)
abbrev GN : Type := ((fw × wJ) ⊕ (gx × wJ))
abbrev GO : Type := ((fw × wJ) ⊕ (Unit × wJ))
abbrev KC : Type := (dn × (List Int) × Int × dn × Int × Int)
abbrev KD : Type := (dn × (List Int) × (List Int) × Int × Int)
theorem PG : mP Tryz.prog 46 (1, [[25], [24], [23], [22], [21], [20], [19], [18], [17], [16], [15], [14], [13], [12], [11], [10], [9], [8], [7], [6], [5], [4], [3], [2], [1]], [91, 90, 89, 88, 87, 86, 85, 84, 83, 82, 81, 80, 79, 78, 77, 76, 75, 74, 73, 72, 71, 70, 69, 68, 67]) := fun hH hA hl hp => Nw (Gv Tryz.prog) 14 (fun p => by kernel_rfl) hH hA hl hp
theorem NI : mP Tryz.prog 147 (0, [[12], [11], [10], [9], [8], [7], [6], [3], [2], [1]], [166, 165, 164, 163, 162, 161, 160, 159, 158, 157]) := fun hH hA hl hp => Nx (Gv Tryz.prog) 14 (by kernel_rfl) hH hA hl hp
def c0 (n : Nat) : Cx := (((Qm Tryz.prog).addSpec 154 GB).addTab 46 (1, [[25], [24], [23], [22], [21], [20], [19], [18], [17], [16], [15], [14], [13], [12], [11], [10], [9], [8], [7], [6], [5], [4], [3], [2], [1]], [91, 90, 89, 88, 87, 86, 85, 84, 83, 82, 81, 80, 79, 78, 77, 76, 75, 74, 73, 72, 71, 70, 69, 68, 67])).addTab 147 (0, [[12], [11], [10], [9], [8], [7], [6], [3], [2], [1]], [166, 165, 164, 163, 162, 161, 160, 159, 158, 157])
theorem g0 : Good (c0 n) := (((Gv _).addSpec GC).addTab (fun hH hA hl hp => PG hH hA hl hp)).addTab (fun hH hA hl hp => NI hH hA hl hp)
def t7 (n : Nat) (F : rO → Option (oM)) (v9 v10 v11 v12 v13 v14 : Int) (v15 : (List Int)) (v16 : (List (List Int))) (v17 : da) : Option (oM) := if (decide (v10 < (v16.length : Int))) then (if (decide (0 ≤ v10) && decide (v10 < (v16.length : Int))) then (F ((wrap .i64 (v9 + (if 100 < (((v16.getD v10.toNat []).length : Nat) : Int) then 100 else (((v16.getD v10.toNat []).length : Nat) : Int)))), (wrap .i64 (v10 + 1)), v11, v12, v13, v14, v15, v16, v17)) else none) else (some (v9, v11, v12, v13, v14, v15, v16, v17))
def rP : rO → Option (oM) := it (fun F => (ew (d8 (C_ q_))) (t7 n F)) n
def Di : Loop := ⟨⟨dm 67 0 [(1, .obj 0), (3, .val cY), (4, .val cY)], [iy]⟩, [(.exit 0, ⟨dm 67 0 [(1, .obj 0), (3, .val cY)], [iy]⟩)], rO, fun x => ((U_ v_) x, (ed (dH u_)) x.2.2, ()), fun (x : tZ) => (J_ j_) x.1 ((ed (dH k_)) x.2.1), oM, fun y => ((y.1, ()), (ed (dH u_)) y.2, ()), fun (o : (gx × jZ)) => (o.1.1, ((ed (dH k_)) o.2.1)), rP n⟩
def t8 (n : Nat) (F : rO → Option (oM)) (v10 v11 v12 v13 v14 v15 : Int) (v16 : (List Int)) (v17 : (List (List Int))) (v18 : da) : Option (oM) := if (decide (v11 < (v18.length : Int))) then (if (decide (0 ≤ v11) && decide (v11 < (v18.length : Int))) then (F ((wrap .i64 ((wrap .i64 ((wrap .i64 (v10 + (if 100 < (((v18.getD v11.toNat (0, (0, (0, (0, ([], ([], []))))))).2.2.2.2.1.length : Nat) : Int) then 100 else (((v18.getD v11.toNat (0, (0, (0, (0, ([], ([], []))))))).2.2.2.2.1.length : Nat) : Int)))) + (if 100 < (((v18.getD v11.toNat (0, (0, (0, (0, ([], ([], []))))))).2.2.2.2.2.1.length : Nat) : Int) then 100 else (((v18.getD v11.toNat (0, (0, (0, (0, ([], ([], []))))))).2.2.2.2.2.1.length : Nat) : Int)))) + (wrap .i64 ((if 10000 < (((v18.getD v11.toNat (0, (0, (0, (0, ([], ([], []))))))).2.2.2.2.2.2.length : Nat) : Int) then 10000 else (((v18.getD v11.toNat (0, (0, (0, (0, ([], ([], []))))))).2.2.2.2.2.2.length : Nat) : Int)).tdiv 20)))), (wrap .i64 (v11 + 1)), v12, v13, v14, v15, v16, v17, v18)) else none) else (some (v10, v12, v13, v14, v15, v16, v17, v18))
def oN : rO → Option (oM) := it (fun F => (ew (d8 (C_ q_))) (t8 n F)) n
def Dj : Loop := ⟨⟨dm 67 0 [(1, .obj 0), (3, .val cY), (5, .val cY)], [iy]⟩, [(.exit 2, ⟨dm 67 0 [(3, .val cY)], [iy]⟩)], rO, fun x => ((U_ v_) x, (ed (dH u_)) x.2.2, ()), fun (x : tZ) => (J_ j_) x.1 ((ed (dH k_)) x.2.1), oM, fun y => ((y.1, ()), (ed (dH u_)) y.2, ()), fun (o : (gx × jZ)) => (o.1.1, ((ed (dH k_)) o.2.1)), oN n⟩
def nV (a0 : oK) : Option Int := if (decide ((wrap .i64 ((wrap .i64 ((a0.2.2.2.2.1.length : Int) + (a0.2.2.2.2.2.1.length : Int))) + (a0.2.2.2.2.2.2.length : Int))) > 80)) then (some 0) else ((rP n ((wrap .i64 ((wrap .i64 ((a0.2.2.2.2.1.length : Int) + (a0.2.2.2.2.2.1.length : Int))) + (a0.2.2.2.2.2.2.length : Int))), 0, a0.1, a0.2.1, a0.2.2.1, a0.2.2.2.1, a0.2.2.2.2.1, a0.2.2.2.2.2.1, a0.2.2.2.2.2.2)).bind fun y1 => ((oN n (y1.1, 0, y1.2.1, y1.2.2.1, y1.2.2.2.1, y1.2.2.2.2.1, y1.2.2.2.2.2.1, y1.2.2.2.2.2.2.1, y1.2.2.2.2.2.2.2)).bind fun y2 => (if (decide (y2.1 > 200)) then (some 0) else (some 1))))
def Ih : FS := ⟨⟨[.val tV], []⟩, ⟨[.val cY], []⟩, Int, fun y => ((y, ()), ()), fun o => o.1.1, fun x => nV n x.1.1⟩
theorem KE : ∀ F x, dL (c0 n) 14 31 0 5 (Di n) F x = (ew (d8 (C_ q_))) (t7 n F) x := fun F x => by kernel_rfl
def xn : Cx := Cx.addLoop (c0 n) 31 5 (Di n)
theorem KF : Good (xn n) := Good.loop (g0 n) 14 0 (by kernel_rfl) (KE n) n (fun _ => rfl) (fun _ => rfl) (fun _ => rfl) rfl
theorem KG : ∀ F x, dL (xn n) 14 31 0 9 (Dj n) F x = (ew (d8 (C_ q_))) (t8 n F) x := fun F x => by kernel_rfl
def xo : Cx := Cx.addLoop (xn n) 31 9 (Dj n)
theorem KH : Good (xo n) := Good.loop (KF n) 14 0 (by kernel_rfl) (KG n) n (fun _ => rfl) (fun _ => rfl) (fun _ => rfl) rfl
theorem PH : dy (xo n) 14 31 0 (Ih n) := fun x => by kernel_rfl
def c1 : Cx := (Cx.bare (xo n)).addSpec 31 (Ih n)
theorem g1 : Good (c1 n) := Good.fn (KH n) 14 0 (PH n) (fun _ => rfl) rfl
def yT (n : Nat)  : Option (List (ByteArray × jB)) := some [(ByteArray.empty, (0, (0, 0))), ((ByteArray.mk #[80, 85, 83, 72]), (1, ((-9223372036854775808), 9223372036854775807))), ((ByteArray.mk #[68, 82, 79, 80]), (0, (0, 0))), ((ByteArray.mk #[68, 85, 80]), (0, (0, 0))), ((ByteArray.mk #[83, 87, 65, 80]), (0, (0, 0))), ((ByteArray.mk #[84, 87, 79]), (1, (1, 12))), ((ByteArray.mk #[78, 69, 71]), (0, (0, 0))), ((ByteArray.mk #[78, 79, 84]), (0, (0, 0))), ((ByteArray.mk #[66, 79, 84, 72]), (0, (0, 0))), ((ByteArray.mk #[69, 73, 84, 72, 69, 82]), (0, (0, 0))), ((ByteArray.mk #[67, 65, 83, 84]), (0, (0, 0))), ((ByteArray.mk #[76, 79, 65, 68, 76]), (1, (0, 7))), ((ByteArray.mk #[83, 84, 79, 82, 69, 76]), (1, (0, 7))), ((ByteArray.mk #[76, 79, 65, 68, 82]), (1, (0, 7))), ((ByteArray.mk #[83, 84, 79, 82, 69, 82]), (1, (0, 7))), ((ByteArray.mk #[73, 78]), (1, (0, 15))), ((ByteArray.mk #[79, 85, 84]), (1, (0, 15))), ((ByteArray.mk #[71, 69, 84]), (2, (0, 7))), ((ByteArray.mk #[80, 85, 84]), (2, (0, 7))), ((ByteArray.mk #[74, 85, 77, 80]), (1, (0, 199))), ((ByteArray.mk #[66, 82, 65, 78, 67, 72]), (1, (0, 199))), ((ByteArray.mk #[76, 79, 79, 80]), (1, (1, 1000))), ((ByteArray.mk #[78, 69, 88, 84]), (0, (0, 0))), ((ByteArray.mk #[76, 79, 67, 75]), (1, (0, 7))), ((ByteArray.mk #[85, 78, 76, 79, 67, 75]), (1, (0, 7))), ((ByteArray.mk #[69, 78, 68]), (0, (0, 0)))]
def wK : FS := ⟨⟨[], []⟩, ⟨[.val (.arr 26 (.pair .str iw))], []⟩, (List (ByteArray × jB)), fun y => ((y, ()), ()), fun o => o.1.1, fun x => yT n ⟩
theorem GP : dy (c1 n) 14 174 0 (wK n) := fun x => by kernel_rfl
def c2 : Cx := (Cx.bare (c1 n)).addSpec 174 (wK n)
theorem g2 : Good (c2 n) := Good.fn (g1 n) 14 0 (GP n) (fun _ => rfl) rfl
def mn (a0 : Int) : Option (ByteArray × jB) := if (decide (a0 < 1)) then (some (ByteArray.empty, ((-1), (0, 0)))) else (if (decide (a0 > 25)) then (some (ByteArray.empty, ((-1), (0, 0)))) else ((yT n ).bind fun y1 => (if (decide (0 ≤ a0) && decide (a0 < 26)) then (some ((y1.getD a0.toNat (ByteArray.empty, (0, (0, 0)))).1, ((y1.getD a0.toNat (ByteArray.empty, (0, (0, 0)))).2.1, ((y1.getD a0.toNat (ByteArray.empty, (0, (0, 0)))).2.2.1, (y1.getD a0.toNat (ByteArray.empty, (0, (0, 0)))).2.2.2)))) else none)))
def Dl : FS := ⟨⟨[.val cY], []⟩, ⟨[.val (.pair .str iw)], []⟩, (ByteArray × jB), fun y => ((y, ()), ()), fun o => o.1.1, fun x => mn n x.1.1⟩
theorem MI : dy (c2 n) 14 155 0 (Dl n) := fun x => by kernel_rfl
def c3 : Cx := (Cx.bare (c2 n)).addSpec 155 (Dl n)
theorem g3 : Good (c3 n) := Good.fn (g2 n) 14 0 (MI n) (fun _ => rfl) rfl
def dc (a0 : jB) : Option Bool := (mn n a0.1).bind fun y1 => (if (y1.2.1 == 0) then (if (a0.2.1 == 0) then (some (a0.2.2 == 0)) else (some false)) else (if (y1.2.1 == 1) then (if (decide (a0.2.1 ≥ y1.2.2.1)) then (if (decide (a0.2.1 ≤ y1.2.2.2)) then (some (a0.2.2 == 0)) else (some false)) else (some false)) else (if (y1.2.1 == 2) then (if (decide (a0.2.1 ≥ y1.2.2.1)) then (if (decide (a0.2.1 ≤ y1.2.2.2)) then (if (decide (a0.2.2 ≥ y1.2.2.1)) then (some (decide (a0.2.2 ≤ y1.2.2.2))) else (some false)) else (some false)) else (some false)) else (some false))))
def wL : FS := ⟨⟨[.val iw], []⟩, ⟨[.val .bool], []⟩, Bool, fun y => ((y, ()), ()), fun o => o.1.1, fun x => dc n x.1.1⟩
theorem GQ : dy (c3 n) 14 146 0 (wL n) := fun x => by kernel_rfl
def c4 : Cx := (Cx.bare (c3 n)).addSpec 146 (wL n)
theorem g4 : Good (c4 n) := Good.fn (g3 n) 14 0 (GQ n) (fun _ => rfl) rfl
def gG (F : (dn × dn × Int × Int) → Option (GL)) (v2 v3 : dn) (v4 v5 : Int) : Option (GL) := if (decide (v5 < v4)) then (if (decide (0 ≤ v5) && decide (v5 < (v3.length : Int))) then ((dc n ((v3.getD v5.toNat (0, (0, 0))).1, ((v3.getD v5.toNat (0, (0, 0))).2.1, (v3.getD v5.toNat (0, (0, 0))).2.2))).bind fun y6 => (if (!y6) then (some (.inl ((false, ()), ()))) else (F (v2, v3, v4, (wrap .i64 (v5 + 1)))))) else none) else (some (.inr ((v2, ()), ())))
def lD : (dn × dn × Int × Int) → Option (GL) := it (fun F => (d8 q_) (gG n F)) n
def pn : Loop := ⟨⟨dm 23 0 [(0, .val eJ), (5, .val eJ), (6, .val cY), (7, .val cY)], []⟩, [(.ret, ⟨dm 23 0 [(2, .val .bool)], []⟩), (.exit 0, ⟨dm 23 0 [(0, .val eJ)], []⟩)], (dn × dn × Int × Int), fun x => ((dH (U_ u_)) x, ()), fun (x : ((dn × dn × Int × Int × Unit) × Unit)) => (dH (U_ k_)) x.1, GL, fun y => y, fun y => y, lD n⟩
def lE (a0 : dn) : Option Bool := (lD n (a0, a0, (a0.length : Int), 0)).bind fun y1 => ((Sum.elim (fun (z2 : (fw × Unit)) => (some z2.1.1)) (fun (z3 : ((dn × Unit) × Unit)) => (if (decide ((z3.1.1.length : Int) > 0)) then (some (decide ((z3.1.1.length : Int) ≤ 200))) else (some false)))) y1)
def sM : FS := ⟨⟨[.val eJ], []⟩, ⟨[.val .bool], []⟩, Bool, fun y => ((y, ()), ()), fun o => o.1.1, fun x => lE n x.1.1⟩
theorem yU : ∀ F x, dL (c4 n) 14 119 0 2 (pn n) F x = (d8 q_) (gG n F) x := fun F x => by kernel_rfl
def lF : Cx := Cx.addLoop (c4 n) 119 2 (pn n)
theorem yV : Good (lF n) := Good.loop (g4 n) 14 0 (by kernel_rfl) (yU n) n (fun _ => rfl) (fun _ => rfl) (fun _ => rfl) rfl
theorem Dm : dy (lF n) 14 119 0 (sM n) := fun x => by kernel_rfl
def c5 : Cx := (Cx.bare (lF n)).addSpec 119 (sM n)
theorem g5 : Good (c5 n) := Good.fn (yV n) 14 0 (Dm n) (fun _ => rfl) rfl
def iz (n : Nat) (a0 : jB) : Option (jB × Bool) := if (a0.1 == 21) then (some ((22, (0, 0)), true)) else (if (a0.1 == 23) then (some ((24, (a0.2.1, 0)), true)) else (some ((0, (0, 0)), false)))
def po : FS := ⟨⟨[.val iw], []⟩, ⟨[.val iw, .val .bool], []⟩, (jB × Bool), fun y => ((U_ u_) y, ()), fun o => (o.1.1, o.1.2.1), fun x => iz n x.1.1⟩
theorem Ab : dy (c5 n) 14 120 0 (po n) := fun x => by kernel_rfl
def c6 : Cx := (Cx.bare (c5 n)).addSpec 120 (po n)
theorem g6 : Good (c6 n) := Good.fn (g5 n) 14 0 (Ab n) (fun _ => rfl) rfl
def vQ (n : Nat) (v12 v13 : (List Int)) (v14 : rM) (v15 : Int) (v16 : dn) (v17 v18 v19 v20 v21 : Int) : Option (GF) := if (decide ((v14.length : Int) > 0)) then (if (decide (0 ≤ (wrap .i64 ((v14.length : Int) - 1))) && decide ((wrap .i64 ((v14.length : Int) - 1)) < (v14.length : Int))) then (if (decide (0 ≤ v15) && decide (v15 < (v13.length : Int))) then (some (v12, (v13.set v15.toNat (v14.getD ((wrap .i64 ((v14.length : Int) - 1))).toNat (0, (0, (0, 0)))).1), v14, v15, v16, v17, v18, v19, v20, v21)) else none) else none) else (some (v12, v13, v14, v15, v16, v17, v18, v19, v20, v21))
def t9 : Loop := ⟨⟨dm 106 0 [(5, .row 3 cY), (6, .row 3 cY), (7, .row 176 (.pair cY iw)), (8, .val cY), (9, .obj 0), (21, .val eJ), (22, .val cY), (23, .val cY)], [lY]⟩, [(.norm, ⟨dm 106 0 [(5, .row 3 cY), (6, .row 3 cY), (7, .row 176 (.pair cY iw)), (8, .val cY), (9, .obj 0), (21, .val eJ), (22, .val cY), (23, .val cY)], [lY]⟩)], GF, fun x => ((ed (dH v_)) x, (dH u_) x.2.2.2.2.2.2.2, ()), fun (x : zW) => (kR (gd j_)) x.1 ((dH k_) x.2.1), GF, fun y => ((ed (dH v_)) y, (dH u_) y.2.2.2.2.2.2.2, ()), fun (o : zW) => (kR (gd j_)) o.1 ((dH k_) o.2.1), (fg q_) (vQ n)⟩
def n9 (n : Nat) (v14 v15 : (List Int)) (v16 : rM) (v17 : Int) (v18 : dn) (v19 v20 v21 v22 v23 : Int) : Option (((GI × pP) ⊕ zW)) := if (v21 != 22) then (if (v21 != 24) then (some (.inl ((v14, v15, v16, v18, v19, v20, ()), ((v21, v22, v23, ()), ())))) else (some (.inr ((v14, v15, v16, v17, v18, v19, v20, ()), ((v21, v22, v23, ()), ()))))) else (some (.inr ((v14, v15, v16, v17, v18, v19, v20, ()), ((v21, v22, v23, ()), ()))))
def ua : Loop := ⟨⟨dm 106 0 [(5, .row 3 cY), (6, .row 3 cY), (7, .row 176 (.pair cY iw)), (8, .val cY), (9, .obj 0), (21, .val eJ), (22, .val cY), (23, .val cY)], [lY]⟩, [(.exit 1, ⟨dm 106 0 [(5, .row 3 cY), (6, .row 3 cY), (7, .row 176 (.pair cY iw)), (21, .val eJ), (22, .val cY), (23, .val cY)], [lY]⟩), (.norm, ⟨dm 106 0 [(5, .row 3 cY), (6, .row 3 cY), (7, .row 176 (.pair cY iw)), (8, .val cY), (9, .obj 0), (21, .val eJ), (22, .val cY), (23, .val cY)], [lY]⟩)], GF, fun x => ((ed (dH v_)) x, (dH u_) x.2.2.2.2.2.2.2, ()), fun (x : zW) => (kR (gd j_)) x.1 ((dH k_) x.2.1), ((GI × pP) ⊕ zW), fun y => y, fun y => y, (fg q_) (n9 n)⟩
def kS (F : KB → Option (GE)) (v6 v7 : (List Int)) (v8 : rM) (v9 : dn) (v10 v11 : Int) : Option (GE) := if (decide (v11 < v10)) then (if (decide (0 ≤ v11) && decide (v11 < (v9.length : Int))) then (if (decide (0 ≤ v11) && decide (v11 < (v6.length : Int))) then (if (decide (0 ≤ v11) && decide (v11 < (v7.length : Int))) then ((vQ n (v6.set v11.toNat (-1)) (v7.set v11.toNat (-1)) v8 v11 v9 v10 v11 ((v9.getD v11.toNat (0, (0, 0))).1) ((v9.getD v11.toNat (0, (0, 0))).2.1) ((v9.getD v11.toNat (0, (0, 0))).2.2)).bind fun y12 => ((iz n (y12.2.2.2.2.2.2.2.1, (y12.2.2.2.2.2.2.2.2.1, y12.2.2.2.2.2.2.2.2.2))).bind fun y13 => (if y13.2 then (if (decide ((y12.2.2.1.length + 1) * 32 ≤ 140737488355328) && decide (1 ≤ 32)) then (F (y12.1, y12.2.1, (y12.2.2.1 ++ [(y12.2.2.2.1, (y13.1.1, (y13.1.2.1, y13.1.2.2)))]), y12.2.2.2.2.1, y12.2.2.2.2.2.1, (wrap .i64 (y12.2.2.2.2.2.2.1 + 1)))) else none) else ((n9 n y12.1 y12.2.1 y12.2.2.1 y12.2.2.2.1 y12.2.2.2.2.1 y12.2.2.2.2.2.1 y12.2.2.2.2.2.2.1 y12.2.2.2.2.2.2.2.1 y12.2.2.2.2.2.2.2.2.1 y12.2.2.2.2.2.2.2.2.2).bind fun y14 => ((Sum.elim (fun (z15 : (GI × pP)) => (F (z15.1.1, z15.1.2.1, z15.1.2.2.1, z15.1.2.2.2.1, z15.1.2.2.2.2.1, (wrap .i64 (z15.1.2.2.2.2.2.1 + 1))))) (fun (z16 : zW) => (if ((z16.1.2.2.1.length : Int) == 0) then (some (.inl (([], [], 7, ()), ()))) else (if (decide (0 ≤ (wrap .i64 ((z16.1.2.2.1.length : Int) - 1))) && decide ((wrap .i64 ((z16.1.2.2.1.length : Int) - 1)) < (z16.1.2.2.1.length : Int))) then (if (!(((z16.1.2.2.1.getD ((wrap .i64 ((z16.1.2.2.1.length : Int) - 1))).toNat (0, (0, (0, 0)))).2.1 == z16.2.1.1) && (((z16.1.2.2.1.getD ((wrap .i64 ((z16.1.2.2.1.length : Int) - 1))).toNat (0, (0, (0, 0)))).2.2.1 == z16.2.1.2.1) && ((z16.1.2.2.1.getD ((wrap .i64 ((z16.1.2.2.1.length : Int) - 1))).toNat (0, (0, (0, 0)))).2.2.2 == z16.2.1.2.2.1)))) then (some (.inl (([], [], 7, ()), ()))) else (if (decide (0 ≤ z16.1.2.2.2.1) && decide (z16.1.2.2.2.1 < (z16.1.2.1.length : Int))) then (if (decide (0 ≤ z16.1.2.2.2.1) && decide (z16.1.2.2.2.1 < (z16.1.2.1.length : Int))) then (if (decide (0 ≤ z16.1.2.2.2.1) && decide (z16.1.2.2.2.1 < (z16.1.1.length : Int))) then (if (decide (0 ≤ (z16.1.2.1.getD z16.1.2.2.2.1.toNat 0)) && decide ((z16.1.2.1.getD z16.1.2.2.2.1.toNat 0) < (((z16.1.1.set z16.1.2.2.2.1.toNat (z16.1.2.1.getD z16.1.2.2.2.1.toNat 0)).length : Nat) : Int))) then (if (decide (0 ≤ (wrap .i64 ((z16.1.2.2.1.length : Int) - 1))) && decide ((wrap .i64 ((z16.1.2.2.1.length : Int) - 1)) ≤ (z16.1.2.2.1.length : Int))) then (F (((z16.1.1.set z16.1.2.2.2.1.toNat (z16.1.2.1.getD z16.1.2.2.2.1.toNat 0)).set ((z16.1.2.1.getD z16.1.2.2.2.1.toNat 0)).toNat z16.1.2.2.2.1), z16.1.2.1, (z16.1.2.2.1.take (((wrap .i64 ((z16.1.2.2.1.length : Int) - 1))).toNat - 0)), z16.1.2.2.2.2.1, z16.1.2.2.2.2.2.1, (wrap .i64 (z16.1.2.2.2.2.2.2.1 + 1)))) else none) else none) else none) else none) else none)) else none)))) y14))))) else none) else none) else none) else (some (.inr ((v6, v7, v8, ()), ())))
def ub : KB → Option (GE) := it (fun F => (ew q_) (kS n F)) n
def AQ : Loop := ⟨⟨dm 106 0 [(5, .row 3 cY), (6, .row 3 cY), (7, .row 176 (.pair cY iw)), (21, .val eJ), (22, .val cY), (23, .val cY)], []⟩, [(.ret, ⟨dm 106 0 [(2, .row 3 cY), (3, .row 3 cY), (4, .val cY)], []⟩), (.exit 0, ⟨dm 106 0 [(5, .row 3 cY), (6, .row 3 cY), (7, .row 176 (.pair cY iw))], []⟩)], KB, fun x => ((ed (U_ u_)) x, ()), fun (x : (GI × Unit)) => (ed (U_ k_)) x.1, GE, fun y => y, fun y => y, ub n⟩
def oO (a0 : dn) : Option Dh := (lE n a0).bind fun y1 => (if (!y1) then (some ([], [], 1)) else (if (decide (0 ≤ (a0.length : Int)) && ((a0.length : Int) == (a0.length : Int)) && decide ((a0.length : Int) * (8 : Int) ≤ 140737488355328) && decide (1 ≤ 8)) then (if (decide (0 ≤ (a0.length : Int)) && ((a0.length : Int) == (a0.length : Int)) && decide ((a0.length : Int) * (8 : Int) ≤ 140737488355328) && decide (1 ≤ 8)) then ((ub n ((List.replicate ((a0.length : Int)).toNat (0 : Int)), (List.replicate ((a0.length : Int)).toNat (0 : Int)), [], a0, (a0.length : Int), 0)).bind fun y2 => ((Sum.elim (fun (z3 : Ko) => (some (z3.1.1, z3.1.2.1, z3.1.2.2.1))) (fun (z4 : (((List Int) × (List Int) × rM × Unit) × Unit)) => (if (decide ((z4.1.2.2.1.length : Int) > 0)) then (some ([], [], 7)) else (some (z4.1.1, z4.1.2.1, 0))))) y2)) else none) else none))
def Ft : FS := ⟨⟨[.val eJ], []⟩, ⟨[.val dw, .val dw, .val cY], []⟩, Dh, fun y => ((dH u_) y, ()), fun o => (o.1.1, o.1.2.1, o.1.2.2.1), fun x => oO n x.1.1⟩
theorem Ii : ∀ x, jy (c6 n) 14 66 0 1000011 (t9 n) x = (t9 n).fn x := fun x => by kernel_rfl
def uc : Cx := Cx.addLoop (c6 n) 66 1000011 (t9 n)
theorem Ij : Good (uc n) := gN (g6 n) 14 0 (by kernel_rfl) (Ii n) (fun _ => rfl) (fun _ => rfl) rfl
theorem Ik : ∀ x, jy (uc n) 14 66 0 1000015 (ua n) x = (ua n).fn x := fun x => by kernel_rfl
def ud : Cx := Cx.addLoop (uc n) 66 1000015 (ua n)
theorem Il : Good (ud n) := gN (Ij n) 14 0 (by kernel_rfl) (Ik n) (fun _ => rfl) (fun _ => rfl) rfl
theorem Im : ∀ F x, dL (ud n) 14 66 0 6 (AQ n) F x = (ew q_) (kS n F) x := fun F x => by kernel_rfl
def ue : Cx := Cx.addLoop (ud n) 66 6 (AQ n)
theorem Ip : Good (ue n) := Good.loop (Il n) 14 0 (by kernel_rfl) (Im n) n (fun _ => rfl) (fun _ => rfl) (fun _ => rfl) rfl
theorem NJ : dy (ue n) 14 66 0 (Ft n) := fun x => by kernel_rfl
def c7 : Cx := (Cx.bare (ue n)).addSpec 66 (Ft n)
theorem g7 : Good (c7 n) := Good.fn (Ip n) 14 0 (NJ n) (fun _ => rfl) rfl
def oa (n : Nat) (F : KC → Option ((pR ⊕ zZ))) (v5 : dn) (v6 : (List Int)) (v7 : Int) (v8 : dn) (v9 v10 : Int) : Option ((pR ⊕ zZ)) := if (decide (v10 < v9)) then (if (decide (0 ≤ v10) && decide (v10 < (v8.length : Int))) then (if (((v8.getD v10.toNat (0, (0, 0))).1 == 25) != (v10 == v7)) then (some (.inl ((7, ()), ()))) else (F (v5, v6, v7, v8, v9, (wrap .i64 (v10 + 1))))) else none) else (some (.inr ((v5, v6, v7, ()), ())))
def uf : KC → Option ((pR ⊕ zZ)) := it (fun F => (ew q_) (oa n F)) n
def AR : Loop := ⟨⟨dm 74 0 [(0, .val eJ), (4, .val dw), (6, .val cY), (24, .val eJ), (25, .val cY), (26, .val cY)], []⟩, [(.ret, ⟨dm 74 0 [(2, .val cY)], []⟩), (.exit 0, ⟨dm 74 0 [(0, .val eJ), (4, .val dw), (6, .val cY)], []⟩)], KC, fun x => ((ed (U_ u_)) x, ()), fun (x : ((dn × (List Int) × Int × dn × Int × Int × Unit) × Unit)) => (ed (U_ k_)) x.1, (pR ⊕ zZ), fun y => y, fun y => y, uf n⟩
def mo (n : Nat) (v10 : (List Int)) (v11 v12 : Int) (v13 : dn) (v14 v15 v16 v17 v18 : Int) : Option (((GJ × pP) ⊕ GH)) := if (v16 != 19) then (if (v16 != 20) then (some (.inl ((v10, v11, v13, v14, v15, ()), ((v16, v17, v18, ()), ())))) else (some (.inr ((v10, v11, v12, v13, v14, v15, ()), ((v16, v17, v18, ()), ()))))) else (some (.inr ((v10, v11, v12, v13, v14, v15, ()), ((v16, v17, v18, ()), ()))))
def ug : Loop := ⟨⟨dm 74 0 [(4, .val dw), (6, .val cY), (9, .val cY), (10, .obj 0), (39, .val eJ), (40, .val cY), (41, .val cY)], [lY]⟩, [(.exit 3, ⟨dm 74 0 [(4, .val dw), (6, .val cY), (39, .val eJ), (40, .val cY), (41, .val cY)], [lY]⟩), (.norm, ⟨dm 74 0 [(4, .val dw), (6, .val cY), (9, .val cY), (10, .obj 0), (39, .val eJ), (40, .val cY), (41, .val cY)], [lY]⟩)], ((List Int) × Int × Int × dn × Int × Int × Int × Int × Int), fun x => ((ed (U_ v_)) x, (dH u_) x.2.2.2.2.2.2, ()), fun (x : GH) => (kR (J_ j_)) x.1 ((dH k_) x.2.1), ((GJ × pP) ⊕ GH), fun y => y, fun y => y, (ew (d8 (C_ q_))) (mo n)⟩
def oc (F : ((List Int) × Int × dn × Int × Int) → Option ((pR ⊕ nD))) (v5 : (List Int)) (v6 : Int) (v7 : dn) (v8 v9 : Int) : Option ((pR ⊕ nD)) := if (decide (v9 < v8)) then (if (decide (0 ≤ v9) && decide (v9 < (v7.length : Int))) then ((mo n v5 v6 v9 v7 v8 v9 ((v7.getD v9.toNat (0, (0, 0))).1) ((v7.getD v9.toNat (0, (0, 0))).2.1) ((v7.getD v9.toNat (0, (0, 0))).2.2)).bind fun y10 => ((Sum.elim (fun (z11 : (GJ × pP)) => (F (z11.1.1, z11.1.2.1, z11.1.2.2.1, z11.1.2.2.2.1, (wrap .i64 (z11.1.2.2.2.2.1 + 1))))) (fun (z12 : GH) => (if (decide ((wrap .i64 ((wrap .i64 (z12.1.2.2.1 + 1)) + z12.2.1.2.1)) > z12.1.2.1)) then (some (.inl ((8, ()), ()))) else (if (decide (0 ≤ (wrap .i64 ((wrap .i64 (z12.1.2.2.1 + 1)) + z12.2.1.2.1))) && decide ((wrap .i64 ((wrap .i64 (z12.1.2.2.1 + 1)) + z12.2.1.2.1)) < (z12.1.1.length : Int))) then (if (decide (0 ≤ z12.1.2.2.1) && decide (z12.1.2.2.1 < (z12.1.1.length : Int))) then (if ((z12.1.1.getD ((wrap .i64 ((wrap .i64 (z12.1.2.2.1 + 1)) + z12.2.1.2.1))).toNat 0) != (z12.1.1.getD z12.1.2.2.1.toNat 0)) then (some (.inl ((8, ()), ()))) else (F (z12.1.1, z12.1.2.1, z12.1.2.2.2.1, z12.1.2.2.2.2.1, (wrap .i64 (z12.1.2.2.2.2.2.1 + 1))))) else none) else none)))) y10)) else none) else (some (.inr ((), ())))
def uh : ((List Int) × Int × dn × Int × Int) → Option ((pR ⊕ nD)) := it (fun F => (d8 (C_ q_)) (oc n F)) n
def AS : Loop := ⟨⟨dm 74 0 [(4, .val dw), (6, .val cY), (39, .val eJ), (40, .val cY), (41, .val cY)], []⟩, [(.ret, ⟨dm 74 0 [(2, .val cY)], []⟩), (.exit 2, ⟨dm 74 0 [], []⟩)], ((List Int) × Int × dn × Int × Int), fun x => ((ed u_) x, ()), fun (x : (GJ × Unit)) => (ed k_) x.1, (pR ⊕ nD), fun y => y, fun y => y, uh n⟩
def ui (a0 : dn) : Option Int := (oO n a0).bind fun y1 => (if (y1.2.2 != 0) then (some y1.2.2) else ((uf n (a0, y1.2.1, (wrap .i64 ((a0.length : Int) - 1)), a0, (a0.length : Int), 0)).bind fun y2 => ((Sum.elim (fun (z3 : pR) => (some z3.1.1)) (fun (z4 : zZ) => ((uh n (z4.1.2.1, z4.1.2.2.1, z4.1.1, (z4.1.1.length : Int), 0)).bind fun y13 => ((Sum.elim (fun (z14 : pR) => (some z14.1.1)) (fun (z15 : nD) => (some 0))) y13)))) y2)))
def Fu : FS := ⟨⟨[.val eJ], []⟩, ⟨[.val cY], []⟩, Int, fun y => ((y, ()), ()), fun o => o.1.1, fun x => ui n x.1.1⟩
theorem Iq : ∀ F x, dL (c7 n) 14 60 0 6 (AR n) F x = (ew q_) (oa n F) x := fun F x => by kernel_rfl
def uj : Cx := Cx.addLoop (c7 n) 60 6 (AR n)
theorem Ir : Good (uj n) := Good.loop (g7 n) 14 0 (by kernel_rfl) (Iq n) n (fun _ => rfl) (fun _ => rfl) (fun _ => rfl) rfl
theorem Is : ∀ x, jy (uj n) 14 60 0 1000015 (ug n) x = (ug n).fn x := fun x => by kernel_rfl
def uk : Cx := Cx.addLoop (uj n) 60 1000015 (ug n)
theorem It : Good (uk n) := gN (Ir n) 14 0 (by kernel_rfl) (Is n) (fun _ => rfl) (fun _ => rfl) rfl
theorem Iu : ∀ F x, dL (uk n) 14 60 0 12 (AS n) F x = (d8 (C_ q_)) (oc n F) x := fun F x => by kernel_rfl
def ul : Cx := Cx.addLoop (uk n) 60 12 (AS n)
theorem Iv : Good (ul n) := Good.loop (It n) 14 0 (by kernel_rfl) (Iu n) n (fun _ => rfl) (fun _ => rfl) (fun _ => rfl) rfl
theorem NK : dy (ul n) 14 60 0 (Fu n) := fun x => by kernel_rfl
def c8 : Cx := (Cx.bare (ul n)).addSpec 60 (Fu n)
theorem g8 : Good (c8 n) := Good.fn (Iv n) 14 0 (NK n) (fun _ => rfl) rfl
def fW (n : Nat) (F : KD → Option ((List Int))) (v5 : dn) (v6 v7 : (List Int)) (v8 v9 : Int) : Option ((List Int)) := if (decide (v9 < v8)) then (if (decide (0 ≤ v9) && decide (v9 < (v6.length : Int))) then (if ((v6.getD v9.toNat 0) == (-1)) then (F (v5, v6, v7, v8, (wrap .i64 (v9 + 1)))) else (if (decide (0 ≤ (v6.getD v9.toNat 0)) && decide ((v6.getD v9.toNat 0) < (v7.length : Int))) then (if (decide (0 ≤ v9) && decide (v9 < (v7.length : Int))) then (if (decide (0 ≤ (v6.getD v9.toNat 0)) && decide ((v6.getD v9.toNat 0) < (v5.length : Int))) then (if ((v5.getD ((v6.getD v9.toNat 0)).toNat (0, (0, 0))).1 == 23) then (if (decide (0 ≤ v9) && decide (v9 < (((v7.set v9.toNat (v7.getD ((v6.getD v9.toNat 0)).toNat 0)).length : Nat) : Int))) then (if (decide (0 ≤ (v6.getD v9.toNat 0)) && decide ((v6.getD v9.toNat 0) < (v5.length : Int))) then (if decide ((v5.getD ((v6.getD v9.toNat 0)).toNat (0, (0, 0))).2.1 < 0) then none else (if (decide (0 ≤ v9) && decide (v9 < (((v7.set v9.toNat (v7.getD ((v6.getD v9.toNat 0)).toNat 0)).length : Nat) : Int))) then (F (v5, v6, ((v7.set v9.toNat (v7.getD ((v6.getD v9.toNat 0)).toNat 0)).set v9.toNat (bits .or .i64 ((v7.set v9.toNat (v7.getD ((v6.getD v9.toNat 0)).toNat 0)).getD v9.toNat 0) (wrap .i64 (1 * 2 ^ (min ((v5.getD ((v6.getD v9.toNat 0)).toNat (0, (0, 0))).2.1).toNat 64))))), v8, (wrap .i64 (v9 + 1)))) else none)) else none) else none) else (F (v5, v6, (v7.set v9.toNat (v7.getD ((v6.getD v9.toNat 0)).toNat 0)), v8, (wrap .i64 (v9 + 1))))) else none) else none) else none)) else none) else (some v7)
def mq : KD → Option ((List Int)) := it (fun F => (d8 (C_ q_)) (fW n F)) n
def qe : Loop := ⟨⟨dm 60 0 [(0, .val eJ), (5, .val dw), (7, .row 3 cY), (23, .val cY), (24, .val cY)], []⟩, [(.exit 0, ⟨dm 60 0 [(7, .row 3 cY)], []⟩)], KD, fun x => ((ed u_) x, ()), fun (x : ((dn × (List Int) × (List Int) × Int × Int × Unit) × Unit)) => (ed k_) x.1, (List Int), fun y => ((y, ()), ()), fun (o : (j7 × Unit)) => o.1.1, mq n⟩
def mR (a0 : dn) : Option kC := (oO n a0).bind fun y1 => (if (y1.2.2 != 0) then (some ([], y1.2.2)) else (if (decide (0 ≤ (a0.length : Int)) && ((a0.length : Int) == (a0.length : Int)) && decide ((a0.length : Int) * (8 : Int) ≤ 140737488355328) && decide (1 ≤ 8)) then ((mq n (a0, y1.2.1, (List.replicate ((a0.length : Int)).toNat (0 : Int)), (a0.length : Int), 0)).bind fun y2 => (some (y2, 0))) else none))
def um : FS := ⟨⟨[.val eJ], []⟩, ⟨[.val dw, .val cY], []⟩, kC, fun y => ((U_ u_) y, ()), fun o => (o.1.1, o.1.2.1), fun x => mR n x.1.1⟩
theorem Ac : ∀ F x, dL (c8 n) 14 61 0 6 (qe n) F x = (d8 (C_ q_)) (fW n F) x := fun F x => by kernel_rfl
def mr : Cx := Cx.addLoop (c8 n) 61 6 (qe n)
theorem Ad : Good (mr n) := Good.loop (g8 n) 14 0 (by kernel_rfl) (Ac n) n (fun _ => rfl) (fun _ => rfl) (fun _ => rfl) rfl
theorem EQ : dy (mr n) 14 61 0 (um n) := fun x => by kernel_rfl
def c9 : Cx := (Cx.bare (mr n)).addSpec 61 (um n)
theorem g9 : Good (c9 n) := Good.fn (Ad n) 14 0 (EQ n) (fun _ => rfl) rfl
def mS (a0 : dn) : Option kC := (oO n a0).bind fun y1 => (some (y1.2.1, y1.2.2))
def un : FS := ⟨⟨[.val eJ], []⟩, ⟨[.val dw, .val cY], []⟩, kC, fun y => ((U_ u_) y, ()), fun o => (o.1.1, o.1.2.1), fun x => mS n x.1.1⟩
theorem ER : dy (c9 n) 14 62 0 (un n) := fun x => by kernel_rfl
def NL : Cx := (Cx.bare (c9 n)).addSpec 62 (un n)
theorem Q1 : Good (NL n) := Good.fn (g9 n) 14 0 (ER n) (fun _ => rfl) rfl
def gt (n : Nat) (F : (dn × (List Int) × Int) → Option (gi)) (v1 : dn) (v2 : (List Int)) (v3 : Int) : Option (gi) := if (v3 != (-1)) then (if (decide (0 ≤ v3) && decide (v3 < (v1.length : Int))) then (if ((v1.getD v3.toNat (0, (0, 0))).1 == 21) then (some (.inl ((true, ()), ()))) else (if (decide (0 ≤ v3) && decide (v3 < (v2.length : Int))) then (F (v1, v2, (v2.getD v3.toNat 0))) else none)) else none) else (some (.inr ((), ())))
def kD : (dn × (List Int) × Int) → Option (gi) := it (fun F => (C_ q_) (gt n F)) n
def oP : Loop := ⟨⟨dm 24 0 [(0, .val eJ), (1, .val dw), (7, .val cY)], []⟩, [(.ret, ⟨dm 24 0 [(6, .val .bool)], []⟩), (.exit 0, ⟨dm 24 0 [], []⟩)], (dn × (List Int) × Int), fun x => ((dH u_) x, ()), fun (x : zZ) => (x.1.1, x.1.2.1, x.1.2.2.1), gi, fun y => y, fun y => y, kD n⟩
def kw (a0 : dn) (a1 : (List Int)) (a2 : Int) : Option Bool := if (decide (0 ≤ a2) && decide (a2 < (a1.length : Int))) then ((kD n (a0, a1, (a1.getD a2.toNat 0))).bind fun y4 => ((Sum.elim (fun (z5 : (fw × Unit)) => (some z5.1.1)) (fun (z6 : nD) => (some false))) y4)) else none
def qf : FS := ⟨⟨[.val eJ, .val dw, .val cY], []⟩, ⟨[.val .bool], []⟩, Bool, fun y => ((y, ()), ()), fun o => o.1.1, fun x => kw n x.1.1 x.1.2.1 x.1.2.2.1⟩
theorem xp : ∀ F x, dL (NL n) 14 63 0 2 (oP n) F x = (C_ q_) (gt n F) x := fun F x => by kernel_rfl
def kE : Cx := Cx.addLoop (NL n) 63 2 (oP n)
theorem xq : Good (kE n) := Good.loop (Q1 n) 14 0 (by kernel_rfl) (xp n) n (fun _ => rfl) (fun _ => rfl) (fun _ => rfl) rfl
theorem BM : dy (kE n) 14 63 0 (qf n) := fun x => by kernel_rfl
def NM : Cx := (Cx.bare (kE n)).addSpec 63 (qf n)
theorem Q2 : Good (NM n) := Good.fn (xq n) 14 0 (BM n) (fun _ => rfl) rfl
def vR (v17 : dn) (v18 v19 v20 : (List Int)) (v21 : Bool) (v22 : Int) (v23 : Bool) (v24 : dn) (v25 v26 v27 v28 v29 : Int) : Option (NH) := if (v27 == 23) then (if (!v21) then (if (decide (0 ≤ v22) && decide (v22 < (v18.length : Int))) then (if decide (v28 < 0) then none else (if (((v18.getD v22.toNat 0).fdiv (2 ^ (min v28.toNat 64))) == 0) then ((kw n v17 v19 v22).bind fun y30 => (if (decide ((v20.length + 1) * 8 ≤ 140737488355328) && decide (1 ≤ 8)) then (some (v17, v18, v19, (v20 ++ [v28]), v21, (!y30), v24, v25, v26, v27, v28, v29)) else none)) else (if (decide ((v20.length + 1) * 8 ≤ 140737488355328) && decide (1 ≤ 8)) then (some (v17, v18, v19, (v20 ++ [v28]), v21, false, v24, v25, v26, v27, v28, v29)) else none))) else none) else (if (decide ((v20.length + 1) * 8 ≤ 140737488355328) && decide (1 ≤ 8)) then (some (v17, v18, v19, (v20 ++ [v28]), v21, false, v24, v25, v26, v27, v28, v29)) else none)) else (if (v27 == 24) then (some (v17, v18, v19, v20, true, v23, v24, v25, v26, v27, v28, v29)) else (if (v27 == 17) then (if (decide (0 ≤ v22) && decide (v22 < (v18.length : Int))) then (if decide (v28 < 0) then none else (some (v17, v18, v19, v20, v21, ((bits .and .i64 ((v18.getD v22.toNat 0).fdiv (2 ^ (min v28.toNat 64))) 1) == 1), v24, v25, v26, v27, v28, v29))) else none) else (if (v27 == 18) then (if (decide (0 ≤ v22) && decide (v22 < (v18.length : Int))) then (if decide (v28 < 0) then none else (some (v17, v18, v19, v20, v21, ((bits .and .i64 ((v18.getD v22.toNat 0).fdiv (2 ^ (min v28.toNat 64))) 1) == 1), v24, v25, v26, v27, v28, v29))) else none) else (some (v17, v18, v19, v20, v21, v23, v24, v25, v26, v27, v28, v29)))))
def uo : Loop := ⟨⟨dm 82 0 [(0, .val eJ), (5, .val dw), (7, .val dw), (9, .row 3 cY), (10, .val .bool), (11, .val cY), (12, .obj 0), (13, .val .bool), (29, .val eJ), (30, .val cY), (31, .val cY)], [lY]⟩, [(.norm, ⟨dm 82 0 [(0, .val eJ), (5, .val dw), (7, .val dw), (9, .row 3 cY), (10, .val .bool), (13, .val .bool), (29, .val eJ), (30, .val cY), (31, .val cY)], [lY]⟩)], (dn × (List Int) × (List Int) × (List Int) × Bool × Int × Bool × dn × Int × Int × Int × Int × Int), fun x => ((dD (U_ v_)) x, (dH u_) x.2.2.2.2.2.2.2.2.2.2, ()), fun (x : ((dn × (List Int) × (List Int) × (List Int) × Bool × Int × Bool × dn × Int × Int × Unit) × pP)) => (wF (J_ j_)) x.1 ((dH k_) x.2.1), NH, fun y => ((dD v_) y, (dH u_) y.2.2.2.2.2.2.2.2.2, ()), fun (o : ((dn × (List Int) × (List Int) × (List Int) × Bool × Bool × dn × Int × Int × Unit) × pP)) => (wF j_) o.1 ((dH k_) o.2.1), (fg (d8 (C_ q_))) (vR n)⟩
def od (F : Ky → Option ((xm ⊕ (j7 × Unit)))) (v9 : dn) (v10 v11 v12 : (List Int)) (v13 : Bool) (v14 : dn) (v15 v16 : Int) : Option ((xm ⊕ (j7 × Unit))) := if (decide (v16 < v15)) then (if (decide (0 ≤ v16) && decide (v16 < (v14.length : Int))) then ((vR n v9 v10 v11 v12 v13 v16 true v14 v15 v16 ((v14.getD v16.toNat (0, (0, 0))).1) ((v14.getD v16.toNat (0, (0, 0))).2.1) ((v14.getD v16.toNat (0, (0, 0))).2.2)).bind fun y17 => (if (!y17.2.2.2.2.2.1) then (some (.inl (([], 11, ()), ()))) else (F (y17.1, y17.2.1, y17.2.2.1, y17.2.2.2.1, y17.2.2.2.2.1, y17.2.2.2.2.2.2.1, y17.2.2.2.2.2.2.2.1, (wrap .i64 (y17.2.2.2.2.2.2.2.2.1 + 1)))))) else none) else (some (.inr ((v12, ()), ())))
def uq : Ky → Option ((xm ⊕ (j7 × Unit))) := it (fun F => (ew (d8 q_)) (od n F)) n
def AT : Loop := ⟨⟨dm 82 0 [(0, .val eJ), (5, .val dw), (7, .val dw), (9, .row 3 cY), (10, .val .bool), (29, .val eJ), (30, .val cY), (31, .val cY)], []⟩, [(.ret, ⟨dm 82 0 [(2, .row 3 cY), (3, .val cY)], []⟩), (.exit 0, ⟨dm 82 0 [(9, .row 3 cY)], []⟩)], Ky, fun x => ((ed (dH (U_ u_))) x, ()), fun (x : ((dn × (List Int) × (List Int) × (List Int) × Bool × dn × Int × Int × Unit) × Unit)) => (ed (dH (U_ k_))) x.1, (xm ⊕ (j7 × Unit)), fun y => y, fun y => y, uq n⟩
def nh (a0 : dn) : Option kC := (ui n a0).bind fun y1 => (if (y1 != 0) then (some ([], y1)) else ((mR n a0).bind fun y2 => ((mS n a0).bind fun y3 => ((uq n (a0, y2.1, y3.1, [], false, a0, (a0.length : Int), 0)).bind fun y4 => ((Sum.elim (fun (z5 : xm) => (some (z5.1.1, z5.1.2.1))) (fun (z6 : (j7 × Unit)) => (some (z6.1.1, 0)))) y4)))))
def Fv : FS := ⟨⟨[.val eJ], []⟩, ⟨[.val dw, .val cY], []⟩, kC, fun y => ((U_ u_) y, ()), fun o => (o.1.1, o.1.2.1), fun x => nh n x.1.1⟩
theorem Iw : ∀ x, jy (NM n) 14 42 0 1000021 (uo n) x = (uo n).fn x := fun x => by kernel_rfl
def ur : Cx := Cx.addLoop (NM n) 42 1000021 (uo n)
theorem Iy : Good (ur n) := gN (Q2 n) 14 0 (by kernel_rfl) (Iw n) (fun _ => rfl) (fun _ => rfl) rfl
theorem Iz : ∀ F x, dL (ur n) 14 42 0 9 (AT n) F x = (ew (d8 q_)) (od n F) x := fun F x => by kernel_rfl
def ut : Cx := Cx.addLoop (ur n) 42 9 (AT n)
theorem IA : Good (ut n) := Good.loop (Iy n) 14 0 (by kernel_rfl) (Iz n) n (fun _ => rfl) (fun _ => rfl) (fun _ => rfl) rfl
theorem NN : dy (ut n) 14 42 0 (Fv n) := fun x => by kernel_rfl
def NO : Cx := (Cx.bare (ut n)).addSpec 42 (Fv n)
theorem Q3 : Good (NO n) := Good.fn (IA n) 14 0 (NN n) (fun _ => rfl) rfl
def iA (a0 : dn) : Option kC := (oO n a0).bind fun y1 => (some (y1.1, y1.2.2))
def sN : FS := ⟨⟨[.val eJ], []⟩, ⟨[.val dw, .val cY], []⟩, kC, fun y => ((U_ u_) y, ()), fun o => (o.1.1, o.1.2.1), fun x => iA n x.1.1⟩
theorem Dn : dy (NO n) 14 44 0 (sN n) := fun x => by kernel_rfl
def NP : Cx := (Cx.bare (NO n)).addSpec 44 (sN n)
theorem Q4 : Good (NP n) := Good.fn (Q3 n) 14 0 (Dn n) (fun _ => rfl) rfl
def iN (a0 : jB) : Option ByteArray := (dc n (a0.1, (a0.2.1, a0.2.2))).bind fun y1 => (if (!y1) then (some (ByteArray.mk #[])) else (if ((a0.1 == 1) || ((a0.1 == 11) || ((a0.1 == 13) || ((a0.1 == 15) || ((a0.1 == 17) || false))))) then (some (ByteArray.mk #[])) else (if ((a0.1 == 12) || ((a0.1 == 14) || ((a0.1 == 16) || ((a0.1 == 18) || false)))) then (some (ByteArray.mk #[105])) else (if ((a0.1 == 2) || false) then (some (ByteArray.mk #[32])) else (if ((a0.1 == 3) || false) then (some (ByteArray.mk #[32])) else (if ((a0.1 == 4) || false) then (some (ByteArray.mk #[32, 32])) else (if ((a0.1 == 5) || false) then (some (ByteArray.mk #[105, 105])) else (if ((a0.1 == 6) || false) then (some (ByteArray.mk #[105])) else (if ((a0.1 == 7) || false) then (some (ByteArray.mk #[98])) else (if ((a0.1 == 8) || ((a0.1 == 9) || false)) then (some (ByteArray.mk #[98, 98])) else (if ((a0.1 == 10) || false) then (some (ByteArray.mk #[98])) else (if ((a0.1 == 20) || false) then (some (ByteArray.mk #[98])) else (some ByteArray.empty)))))))))))))
def qh : FS := ⟨⟨[.val iw], []⟩, ⟨[.val .str], []⟩, ByteArray, fun y => ((y, ()), ()), fun o => o.1.1, fun x => iN n x.1.1⟩
theorem BN : dy (NP n) 14 143 0 (qh n) := fun x => by kernel_rfl
def NQ : Cx := (Cx.bare (NP n)).addSpec 143 (qh n)
theorem Q5 : Good (NQ n) := Good.fn (Q4 n) 14 0 (BN n) (fun _ => rfl) rfl
def oe (n : Nat) (F : (ByteArray × ByteArray × Int × Int) → Option (gi)) (v1 v2 : ByteArray) (v3 v4 : Int) : Option (gi) := if (decide (v4 < v3)) then (if (decide (0 ≤ v4) && decide (v4 < (v2.size : Int))) then (if (decide (0 ≤ 0) && decide (0 < (((ByteArray.mk #[32]).size : Nat) : Int))) then (if ((bt v2 v4) != (bt (ByteArray.mk #[32]) 0)) then (if (decide (0 ≤ v4) && decide (v4 < (v2.size : Int))) then (if (decide (0 ≤ v4) && decide (v4 < (v1.size : Int))) then (if ((bt v2 v4) != (bt v1 v4)) then (some (.inl ((false, ()), ()))) else (F (v1, v2, v3, (wrap .i64 (v4 + 1))))) else none) else none) else (F (v1, v2, v3, (wrap .i64 (v4 + 1))))) else none) else none) else (some (.inr ((), ())))
def uu : (ByteArray × ByteArray × Int × Int) → Option (gi) := it (fun F => (d8 q_) (oe n F)) n
def AU : Loop := ⟨⟨dm 31 0 [(0, .val .str), (1, .val .str), (12, .val cY), (13, .val cY)], []⟩, [(.ret, ⟨dm 31 0 [(4, .val .bool)], []⟩), (.exit 0, ⟨dm 31 0 [], []⟩)], (ByteArray × ByteArray × Int × Int), fun x => ((dH (U_ u_)) x, ()), fun (x : ((ByteArray × ByteArray × Int × Int × Unit) × Unit)) => (dH (U_ k_)) x.1, gi, fun y => y, fun y => y, uu n⟩
def d4 (a0 : ByteArray) (a1 : ByteArray) : Option Bool := if ((a0.size : Int) != (a1.size : Int)) then (some false) else ((uu n (a0, a1, (a1.size : Int), 0)).bind fun y5 => ((Sum.elim (fun (z6 : (fw × Unit)) => (some z6.1.1)) (fun (z7 : nD) => (some true))) y5))
def Fw : FS := ⟨⟨[.val .str, .val .str], []⟩, ⟨[.val .bool], []⟩, Bool, fun y => ((y, ()), ()), fun o => o.1.1, fun x => d4 n x.1.1 x.1.2.1⟩
theorem IB : ∀ F x, dL (NQ n) 14 144 0 4 (AU n) F x = (d8 q_) (oe n F) x := fun F x => by kernel_rfl
def uv : Cx := Cx.addLoop (NQ n) 144 4 (AU n)
theorem IC : Good (uv n) := Good.loop (Q5 n) 14 0 (by kernel_rfl) (IB n) n (fun _ => rfl) (fun _ => rfl) (fun _ => rfl) rfl
theorem NR : dy (uv n) 14 144 0 (Fw n) := fun x => by kernel_rfl
def NS : Cx := (Cx.bare (uv n)).addSpec 144 (Fw n)
theorem Q6 : Good (NS n) := Good.fn (IC n) 14 0 (NR n) (fun _ => rfl) rfl
def ge (n : Nat) (a0 : jB) (a1 : ByteArray) : Option ByteArray := if decide (a1.size + a1.size ≤ 140737488351232) then (some (a1 ++ a1)) else none
def ni : FS := ⟨⟨[.val iw, .val .str], []⟩, ⟨[.val .str], []⟩, ByteArray, fun y => ((y, ()), ()), fun o => o.1.1, fun x => ge n x.1.1 x.1.2.1⟩
theorem wi : dy (NS n) 14 171 0 (ni n) := fun x => by kernel_rfl
def NT : Cx := (Cx.bare (NS n)).addSpec 171 (ni n)
theorem Q7 : Good (NT n) := Good.fn (Q6 n) 14 0 (wi n) (fun _ => rfl) rfl
def gf (n : Nat) (a0 : jB) (a1 : ByteArray) : Option ByteArray := if (decide (0 ≤ 1) && decide (1 ≤ (a1.size : Int))) then (if (decide (0 ≤ 1) && decide (1 ≤ (a1.size : Int))) then (if decide ((a1.extract 1 a1.size).size + (a1.extract 0 1).size ≤ 140737488351232) then (some ((a1.extract 1 a1.size) ++ (a1.extract 0 1))) else none) else none) else none
def nj : FS := ⟨⟨[.val iw, .val .str], []⟩, ⟨[.val .str], []⟩, ByteArray, fun y => ((y, ()), ()), fun o => o.1.1, fun x => gf n x.1.1 x.1.2.1⟩
theorem wj : dy (NT n) 14 172 0 (nj n) := fun x => by kernel_rfl
def NU : Cx := (Cx.bare (NT n)).addSpec 172 (nj n)
theorem Q8 : Good (NU n) := Good.fn (Q7 n) 14 0 (wj n) (fun _ => rfl) rfl
def kh (n : Nat) (a0 : jB) (a1 : ByteArray) : Option ByteArray := if (a0.2.1 == 11) then (some (ByteArray.mk #[98])) else (if (a0.2.1 == 12) then (some (ByteArray.mk #[98])) else (some (ByteArray.mk #[105])))
def uw : FS := ⟨⟨[.val iw, .val .str], []⟩, ⟨[.val .str], []⟩, ByteArray, fun y => ((y, ()), ()), fun o => o.1.1, fun x => kh n x.1.1 x.1.2.1⟩
theorem ES : dy (NU n) 14 173 0 (uw n) := fun x => by kernel_rfl
def NV : Cx := (Cx.bare (NU n)).addSpec 173 (uw n)
theorem Q9 : Good (NV n) := Good.fn (Q8 n) 14 0 (ES n) (fun _ => rfl) rfl
def kx (a0 : jB) (a1 : ByteArray) : Option ByteArray := if ((a0.1 == 1) || ((a0.1 == 11) || ((a0.1 == 13) || ((a0.1 == 15) || ((a0.1 == 17) || false))))) then ((dc n (a0.1, (a0.2.1, a0.2.2))).bind fun y1 => (if (!y1) then (some (ByteArray.mk #[])) else ((d4 n a1 (ByteArray.mk #[])).bind fun y2 => (if (!y2) then (some (ByteArray.mk #[])) else (some (ByteArray.mk #[105])))))) else (if ((a0.1 == 12) || ((a0.1 == 14) || ((a0.1 == 16) || ((a0.1 == 18) || false)))) then ((dc n (a0.1, (a0.2.1, a0.2.2))).bind fun y3 => (if (!y3) then (some (ByteArray.mk #[])) else ((d4 n a1 (ByteArray.mk #[105])).bind fun y4 => (if (!y4) then (some (ByteArray.mk #[])) else (some (ByteArray.mk #[])))))) else (if ((a0.1 == 2) || false) then ((dc n (a0.1, (a0.2.1, a0.2.2))).bind fun y5 => (if (!y5) then (some (ByteArray.mk #[])) else ((d4 n a1 (ByteArray.mk #[32])).bind fun y6 => (if (!y6) then (some (ByteArray.mk #[])) else (some (ByteArray.mk #[])))))) else (if ((a0.1 == 3) || false) then ((dc n (a0.1, (a0.2.1, a0.2.2))).bind fun y7 => (if (!y7) then (some (ByteArray.mk #[])) else ((d4 n a1 (ByteArray.mk #[32])).bind fun y8 => (if (!y8) then (some (ByteArray.mk #[])) else ((ge n (a0.1, (a0.2.1, a0.2.2)) a1).bind fun y9 => (some y9)))))) else (if ((a0.1 == 4) || false) then ((dc n (a0.1, (a0.2.1, a0.2.2))).bind fun y10 => (if (!y10) then (some (ByteArray.mk #[])) else ((d4 n a1 (ByteArray.mk #[32, 32])).bind fun y11 => (if (!y11) then (some (ByteArray.mk #[])) else ((gf n (a0.1, (a0.2.1, a0.2.2)) a1).bind fun y12 => (some y12)))))) else (if ((a0.1 == 5) || false) then ((dc n (a0.1, (a0.2.1, a0.2.2))).bind fun y13 => (if (!y13) then (some (ByteArray.mk #[])) else ((d4 n a1 (ByteArray.mk #[105, 105])).bind fun y14 => (if (!y14) then (some (ByteArray.mk #[])) else ((kh n (a0.1, (a0.2.1, a0.2.2)) a1).bind fun y15 => (some y15)))))) else (if ((a0.1 == 6) || false) then ((dc n (a0.1, (a0.2.1, a0.2.2))).bind fun y16 => (if (!y16) then (some (ByteArray.mk #[])) else ((d4 n a1 (ByteArray.mk #[105])).bind fun y17 => (if (!y17) then (some (ByteArray.mk #[])) else (some (ByteArray.mk #[105])))))) else (if ((a0.1 == 7) || false) then ((dc n (a0.1, (a0.2.1, a0.2.2))).bind fun y18 => (if (!y18) then (some (ByteArray.mk #[])) else ((d4 n a1 (ByteArray.mk #[98])).bind fun y19 => (if (!y19) then (some (ByteArray.mk #[])) else (some (ByteArray.mk #[98])))))) else (if ((a0.1 == 8) || ((a0.1 == 9) || false)) then ((dc n (a0.1, (a0.2.1, a0.2.2))).bind fun y20 => (if (!y20) then (some (ByteArray.mk #[])) else ((d4 n a1 (ByteArray.mk #[98, 98])).bind fun y21 => (if (!y21) then (some (ByteArray.mk #[])) else (some (ByteArray.mk #[98])))))) else (if ((a0.1 == 10) || false) then ((dc n (a0.1, (a0.2.1, a0.2.2))).bind fun y22 => (if (!y22) then (some (ByteArray.mk #[])) else ((d4 n a1 (ByteArray.mk #[98])).bind fun y23 => (if (!y23) then (some (ByteArray.mk #[])) else (some (ByteArray.mk #[105])))))) else (if ((a0.1 == 20) || false) then ((dc n (a0.1, (a0.2.1, a0.2.2))).bind fun y24 => (if (!y24) then (some (ByteArray.mk #[])) else ((d4 n a1 (ByteArray.mk #[98])).bind fun y25 => (if (!y25) then (some (ByteArray.mk #[])) else (some (ByteArray.mk #[])))))) else (some (ByteArray.mk #[]))))))))))))
def qi : FS := ⟨⟨[.val iw, .val .str], []⟩, ⟨[.val .str], []⟩, ByteArray, fun y => ((y, ()), ()), fun o => o.1.1, fun x => kx n x.1.1 x.1.2.1⟩
theorem BO : dy (NV n) 14 145 0 (qi n) := fun x => by kernel_rfl
def NW : Cx := (Cx.bare (NV n)).addSpec 145 (qi n)
theorem Ra : Good (NW n) := Good.fn (Q9 n) 14 0 (BO n) (fun _ => rfl) rfl
def iP (a0 : jB) (a1 : ByteArray) : Option (ByteArray × Int) := (iN n (a0.1, (a0.2.1, a0.2.2))).bind fun y1 => (if (decide ((wrap .i64 ((a1.size : Int) - (y1.size : Int))) < 0)) then (some ((ByteArray.mk #[]), 9)) else (if (decide (0 ≤ (wrap .i64 ((a1.size : Int) - (y1.size : Int)))) && decide ((wrap .i64 ((a1.size : Int) - (y1.size : Int))) ≤ (a1.size : Int))) then ((iN n (a0.1, (a0.2.1, a0.2.2))).bind fun y2 => ((d4 n (a1.extract ((wrap .i64 ((a1.size : Int) - (y1.size : Int)))).toNat a1.size) y2).bind fun y3 => (if (!y3) then (some ((ByteArray.mk #[]), 10)) else (if (decide (0 ≤ (wrap .i64 ((a1.size : Int) - (y1.size : Int)))) && decide ((wrap .i64 ((a1.size : Int) - (y1.size : Int))) ≤ (a1.size : Int))) then (if (decide (0 ≤ (wrap .i64 ((a1.size : Int) - (y1.size : Int)))) && decide ((wrap .i64 ((a1.size : Int) - (y1.size : Int))) ≤ (a1.size : Int))) then ((kx n (a0.1, (a0.2.1, a0.2.2)) (a1.extract ((wrap .i64 ((a1.size : Int) - (y1.size : Int)))).toNat a1.size)).bind fun y4 => (if decide ((a1.extract 0 ((wrap .i64 ((a1.size : Int) - (y1.size : Int)))).toNat).size + y4.size ≤ 140737488351232) then (if (decide (((((a1.extract 0 ((wrap .i64 ((a1.size : Int) - (y1.size : Int)))).toNat) ++ y4).size : Nat) : Int) > 16)) then (some ((ByteArray.mk #[]), 9)) else (some (((a1.extract 0 ((wrap .i64 ((a1.size : Int) - (y1.size : Int)))).toNat) ++ y4), 0))) else none)) else none) else none)))) else none))
def qj : FS := ⟨⟨[.val iw, .val .str], []⟩, ⟨[.val .str, .val cY], []⟩, (ByteArray × Int), fun y => ((U_ u_) y, ()), fun o => (o.1.1, o.1.2.1), fun x => iP n x.1.1 x.1.2.1⟩
theorem BP : dy (NW n) 14 118 0 (qj n) := fun x => by kernel_rfl
def NX : Cx := (Cx.bare (NW n)).addSpec 118 (qj n)
theorem Rb : Good (NX n) := Good.fn (Ra n) 14 0 (BP n) (fun _ => rfl) rfl
def ki (n : Nat) (v3 : Int) (v4 : ByteArray) (v5 : (List ByteArray)) (v6 v7 : (List Bool)) : Option (Kz) := if (decide (0 ≤ v3) && decide (v3 < (v6.length : Int))) then (if (v6.getD v3.toNat false) then (if (decide (0 ≤ v3) && decide (v3 < (v5.length : Int))) then (if (!((v5.getD v3.toNat ByteArray.empty).toList == v4.toList)) then (if (decide (0 ≤ v3) && decide (v3 < (v7.length : Int))) then (some (v3, v4, v5, v6, (v7.set v3.toNat true))) else none) else (some (v3, v4, v5, v6, v7))) else none) else (some (v3, v4, v5, v6, v7))) else none
def xr : Loop := ⟨⟨dm 43 0 [(0, .obj 0), (1, .val cY), (2, .val .str)], [wH]⟩, [(.norm, ⟨dm 43 0 [(0, .obj 0), (1, .val cY), (2, .val .str)], [wH]⟩)], Kz, fun x => ((U_ v_) x, (dH u_) x.2.2, ()), fun (x : ((Int × ByteArray × Unit) × (sL × Unit))) => (J_ j_) x.1 ((dH k_) x.2.1), Kz, fun y => ((U_ v_) y, (dH u_) y.2.2, ()), fun (o : ((Int × ByteArray × Unit) × (sL × Unit))) => (J_ j_) o.1 ((dH k_) o.2.1), (d8 (C_ q_)) (ki n)⟩
def Do (n : Nat) (v16 : Int) (v17 : (List Int)) (v18 : ByteArray) (v19 : (List ByteArray)) (v20 v21 : (List Bool)) (v22 v23 v24 : Int) : Option (((gx × (sL × rN × Unit)) ⊕ Df)) := if (decide (0 ≤ v16) && decide (v16 < (v20.length : Int))) then (if (!(v20.getD v16.toNat false)) then (some (.inl ((8, ()), ((v19, v20, v21, ()), (v22, v23, v24, ()), ())))) else (if (decide (0 ≤ v16) && decide (v16 < (v21.length : Int))) then (if (v21.getD v16.toNat false) then (some (.inl ((10, ()), ((v19, v20, v21, ()), (v22, v23, v24, ()), ())))) else (if (v22 == 22) then (if (decide (0 ≤ v16) && decide (v16 < (v17.length : Int))) then (if (decide (0 ≤ (v17.getD v16.toNat 0)) && decide ((v17.getD v16.toNat 0) < (v19.length : Int))) then (if (!((v19.getD ((v17.getD v16.toNat 0)).toNat ByteArray.empty).toList == v18.toList)) then (some (.inl ((10, ()), ((v19, v20, v21, ()), (v22, v23, v24, ()), ())))) else (some (.inr ((v16, v18, ()), ((v19, v20, v21, ()), (v22, v23, v24, ()), ()))))) else none) else none) else (some (.inr ((v16, v18, ()), ((v19, v20, v21, ()), (v22, v23, v24, ()), ())))))) else none)) else none
def xt : Loop := ⟨⟨dm 91 0 [(0, .obj 0), (1, .val cY), (3, .val dw), (6, .obj 1), (9, .val .str)], [wH, lY]⟩, [(.ret, ⟨dm 91 0 [(8, .val cY)], [wH, lY]⟩), (.norm, ⟨dm 91 0 [(0, .obj 0), (1, .val cY), (6, .obj 1), (9, .val .str)], [wH, lY]⟩)], (Int × (List Int) × ByteArray × (List ByteArray) × (List Bool) × (List Bool) × Int × Int × Int), fun x => ((dH v_) x, (dH v_) x.2.2.2, (dH u_) x.2.2.2.2.2.2, ()), fun (x : ((Int × (List Int) × ByteArray × Unit) × (sL × rN × Unit))) => (gd j_) x.1 ((gd j_) x.2.1 ((dH k_) x.2.2.1)), ((gx × (sL × rN × Unit)) ⊕ Df), fun y => y, fun y => y, (ew (d8 (C_ q_))) (Do n)⟩
def yW (v20 : Int) (v21 : ByteArray) (v22 : (List ByteArray)) (v23 v24 : (List Bool)) (v25 v26 v27 : Int) : Option (Kw) := if (v25 != 19) then (if (v25 != 25) then ((ki n (wrap .i64 (v20 + 1)) v21 v22 v23 v24).bind fun y28 => (if (decide (0 ≤ y28.1) && decide (y28.1 < (y28.2.2.2.1.length : Int))) then (if (decide (0 ≤ y28.1) && decide (y28.1 < (y28.2.2.1.length : Int))) then (some (v20, v21, (y28.2.2.1.set y28.1.toNat y28.2.1), (y28.2.2.2.1.set y28.1.toNat true), y28.2.2.2.2, v25, v26, v27)) else none) else none)) else (some (v20, v21, v22, v23, v24, v25, v26, v27))) else (some (v20, v21, v22, v23, v24, v25, v26, v27))
def xu : Loop := ⟨⟨dm 91 0 [(0, .obj 0), (1, .val cY), (6, .obj 1), (10, .val .str)], [wH, lY]⟩, [(.norm, ⟨dm 91 0 [(0, .obj 0), (1, .val cY), (6, .obj 1), (10, .val .str)], [wH, lY]⟩)], Kw, fun x => ((U_ v_) x, (dH v_) x.2.2, (dH u_) x.2.2.2.2.2, ()), fun (x : Df) => (J_ j_) x.1 ((gd j_) x.2.1 ((dH k_) x.2.2.1)), Kw, fun y => ((U_ v_) y, (dH v_) y.2.2, (dH u_) y.2.2.2.2.2, ()), fun (o : Df) => (J_ j_) o.1 ((gd j_) o.2.1 ((dH k_) o.2.2.1)), (ew (d8 q_)) (yW n)⟩
def nk (F : Kx → Option (GG)) (v9 : (List Int)) (v10 : dn) (v11 v12 : Int) (v13 : (List ByteArray)) (v14 v15 : (List Bool)) : Option (GG) := if (decide (v12 < v11)) then (if (decide (0 ≤ v12) && decide (v12 < (v10.length : Int))) then (if (decide (0 ≤ v12) && decide (v12 < (v13.length : Int))) then ((Do n v12 v9 (v13.getD v12.toNat ByteArray.empty) v13 v14 v15 ((v10.getD v12.toNat (0, (0, 0))).1) ((v10.getD v12.toNat (0, (0, 0))).2.1) ((v10.getD v12.toNat (0, (0, 0))).2.2)).bind fun y16 => ((Sum.elim (fun (z17 : (gx × (sL × rN × Unit))) => (if (z17.1.1 != 0) then (some (.inl (([], z17.1.1, ()), ((z17.2.1.1, z17.2.1.2.1, z17.2.1.2.2.1, ()), ())))) else (F (v9, v10, v11, (wrap .i64 (v12 + 1)), z17.2.1.1, z17.2.1.2.1, z17.2.1.2.2.1)))) (fun (z18 : Df) => ((iP n (z18.2.2.1.1, (z18.2.2.1.2.1, z18.2.2.1.2.2.1)) z18.1.2.1).bind fun y19 => (if (y19.2 != 0) then (if (y19.2 != 0) then (some (.inl (([], y19.2, ()), ((z18.2.1.1, z18.2.1.2.1, z18.2.1.2.2.1, ()), ())))) else (F (v9, v10, v11, (wrap .i64 (v12 + 1)), z18.2.1.1, z18.2.1.2.1, z18.2.1.2.2.1))) else ((yW n z18.1.1 y19.1 z18.2.1.1 z18.2.1.2.1 z18.2.1.2.2.1 z18.2.2.1.1 z18.2.2.1.2.1 z18.2.2.1.2.2.1).bind fun y20 => (if (y20.2.2.2.2.2.1 == 19) then ((ki n (wrap .i64 ((wrap .i64 (y20.1 + 1)) + y20.2.2.2.2.2.2.1)) y20.2.1 y20.2.2.1 y20.2.2.2.1 y20.2.2.2.2.1).bind fun y21 => (if (decide (0 ≤ y21.1) && decide (y21.1 < (y21.2.2.2.1.length : Int))) then (if (decide (0 ≤ y21.1) && decide (y21.1 < (y21.2.2.1.length : Int))) then (F (v9, v10, v11, (wrap .i64 (v12 + 1)), (y21.2.2.1.set y21.1.toNat y21.2.1), (y21.2.2.2.1.set y21.1.toNat true), y21.2.2.2.2)) else none) else none)) else (if (y20.2.2.2.2.2.1 == 20) then ((ki n (wrap .i64 ((wrap .i64 (y20.1 + 1)) + y20.2.2.2.2.2.2.1)) y20.2.1 y20.2.2.1 y20.2.2.2.1 y20.2.2.2.2.1).bind fun y22 => (if (decide (0 ≤ y22.1) && decide (y22.1 < (y22.2.2.2.1.length : Int))) then (if (decide (0 ≤ y22.1) && decide (y22.1 < (y22.2.2.1.length : Int))) then (F (v9, v10, v11, (wrap .i64 (v12 + 1)), (y22.2.2.1.set y22.1.toNat y22.2.1), (y22.2.2.2.1.set y22.1.toNat true), y22.2.2.2.2)) else none) else none)) else (F (v9, v10, v11, (wrap .i64 (v12 + 1)), y20.2.2.1, y20.2.2.2.1, y20.2.2.2.2.1))))))))) y16)) else none) else none) else (some (.inr ((), ((v13, v14, v15, ()), ()))))
def mu : Kx → Option (GG) := it (fun F => (ew (C_ q_)) (nk n F)) n
def Dp : Loop := ⟨⟨dm 54 0 [(5, .val dw), (7, .obj 0), (34, .val eJ), (35, .val cY), (36, .val cY)], [wH]⟩, [(.ret, ⟨dm 54 0 [(2, .row 9 .str), (3, .val cY)], [wH]⟩), (.exit 0, ⟨dm 54 0 [(7, .obj 0)], [wH]⟩)], Kx, fun x => ((dH (U_ v_)) x, (dH u_) x.2.2.2.2, ()), fun (x : (((List Int) × dn × Int × Int × Unit) × (sL × Unit))) => (gd (J_ j_)) x.1 ((dH k_) x.2.1), GG, fun y => y, fun y => y, mu n⟩
def rQ (a0 : dn) : Option ((List ByteArray) × Int) := (ui n a0).bind fun y1 => (if (y1 != 0) then (some ([], y1)) else ((iA n a0).bind fun y2 => (if (decide (0 ≤ (a0.length : Int)) && ((a0.length : Int) == (a0.length : Int)) && decide ((a0.length : Int) * (16 : Int) ≤ 140737488355328) && decide (1 ≤ 16)) then (if (decide (0 ≤ (a0.length : Int)) && ((a0.length : Int) == (a0.length : Int)) && decide ((a0.length : Int) * (1 : Int) ≤ 140737488355328) && decide (1 ≤ 1)) then (if (decide (0 ≤ (a0.length : Int)) && ((a0.length : Int) == (a0.length : Int)) && decide ((a0.length : Int) * (1 : Int) ≤ 140737488355328) && decide (1 ≤ 1)) then ((ki n 0 (ByteArray.mk #[]) (List.replicate ((a0.length : Int)).toNat ByteArray.empty) (List.replicate ((a0.length : Int)).toNat false) (List.replicate ((a0.length : Int)).toNat false)).bind fun y3 => (if (decide (0 ≤ y3.1) && decide (y3.1 < (y3.2.2.2.1.length : Int))) then (if (decide (0 ≤ y3.1) && decide (y3.1 < (y3.2.2.1.length : Int))) then ((mu n (y2.1, a0, (a0.length : Int), 0, (y3.2.2.1.set y3.1.toNat y3.2.1), (y3.2.2.2.1.set y3.1.toNat true), y3.2.2.2.2)).bind fun y4 => ((Sum.elim (fun (z5 : (((List ByteArray) × Int × Unit) × (sL × Unit))) => (some (z5.1.1, z5.1.2.1))) (fun (z6 : (Unit × (sL × Unit))) => (some (z6.2.1.1, 0)))) y4)) else none) else none)) else none) else none) else none)))
def ID : FS := ⟨⟨[.val eJ], []⟩, ⟨[.val (.sl .str), .val cY], []⟩, ((List ByteArray) × Int), fun y => ((U_ u_) y, ()), fun o => (o.1.1, o.1.2.1), fun x => rQ n x.1.1⟩
theorem KI : ∀ x, jy (NX n) 14 64 0 1000002 (xr n) x = (xr n).fn x := fun x => by kernel_rfl
def xv : Cx := Cx.addLoop (NX n) 64 1000002 (xr n)
theorem KJ : Good (xv n) := gN (Rb n) 14 0 (by kernel_rfl) (KI n) (fun _ => rfl) (fun _ => rfl) rfl
theorem KK : ∀ x, jy (xv n) 14 65 0 1000007 (xt n) x = (xt n).fn x := fun x => by kernel_rfl
def xw : Cx := Cx.addLoop (xv n) 65 1000007 (xt n)
theorem KL : Good (xw n) := gN (KJ n) 14 0 (by kernel_rfl) (KK n) (fun _ => rfl) (fun _ => rfl) rfl
theorem KM : ∀ x, jy (xw n) 14 65 0 1000012 (xu n) x = (xu n).fn x := fun x => by kernel_rfl
def xx : Cx := Cx.addLoop (xw n) 65 1000012 (xu n)
theorem KN : Good (xx n) := gN (KL n) 14 0 (by kernel_rfl) (KM n) (fun _ => rfl) (fun _ => rfl) rfl
theorem KO : ∀ F x, dL (xx n) 14 43 0 8 (Dp n) F x = (ew (C_ q_)) (nk n F) x := fun F x => by kernel_rfl
def xy : Cx := Cx.addLoop (xx n) 43 8 (Dp n)
theorem KP : Good (xy n) := Good.loop (KN n) 14 0 (by kernel_rfl) (KO n) n (fun _ => rfl) (fun _ => rfl) (fun _ => rfl) rfl
theorem PI : dy (xy n) 14 43 0 (ID n) := fun x => by kernel_rfl
def NY : Cx := (Cx.bare (xy n)).addSpec 43 (ID n)
theorem Rc : Good (NY n) := Good.fn (KP n) 14 0 (PI n) (fun _ => rfl) rfl
def fE (n : Nat) (a0 : Int) (a1 : Int) : Option Int := some (if 1048577 < (wrap .i64 (a0 + a1)) then 1048577 else (wrap .i64 (a0 + a1)))
def wM : FS := ⟨⟨oJ, []⟩, ⟨[.val cY], []⟩, Int, fun y => ((y, ()), ()), fun o => o.1.1, fun x => fE n x.1.1 x.1.2.1⟩
theorem GR : dy (NY n) 14 93 0 (wM n) := fun x => by kernel_rfl
def NZ : Cx := (Cx.bare (NY n)).addSpec 93 (wM n)
theorem Rd : Good (NZ n) := Good.fn (Rc n) 14 0 (GR n) (fun _ => rfl) rfl
def fC (n : Nat) (a0 : Int) (a1 : Int) : Option Int := some (if a1 > a0 then a1 else a0)
def uy : FS := ⟨⟨oJ, []⟩, ⟨[.val cY], []⟩, Int, fun y => ((y, ()), ()), fun o => o.1.1, fun x => fC n x.1.1 x.1.2.1⟩
theorem ET : dy (NZ n) 14 48 0 (uy n) := fun x => by kernel_rfl
def N0 : Cx := (Cx.bare (NZ n)).addSpec 48 (uy n)
theorem Re : Good (N0 n) := Good.fn (Rd n) 14 0 (ET n) (fun _ => rfl) rfl
end Go.Proofs.Dk
