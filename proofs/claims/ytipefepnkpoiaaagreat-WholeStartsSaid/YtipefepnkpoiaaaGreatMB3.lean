/- A part of the proofs: Families: a member is taken out, and put back. -/
import Derived.Test.YtipefepnkpoiaaaGreatMB2
import Derived.Below
import Derived.Orders
import Derived.Deep.Draws
import Derived.Test.YtipefepnkpoiaaaGreatProg
import Derived.Tactics2
import Derived.RowKit
import Derived.KernelRfl
import Derived.Maps.OwnSet
import Derived.BigFrame
import Derived.WideLaws
import Derived.WalkKit
import Derived.RowKit3
import Derived.OwnWalk
import Derived.OrdersHeld
import Derived.Maps.AppendAt
import Derived.Lib.ConvBytes
import Derived.Lib.AppendStr
import Derived.Laws.Slices
import Derived.Laws.Rows
import Derived.Laws.OwnMore
import Derived.Laws.MakeOwn
import Derived.Laws.IdiomCopy
import Derived.Laws.BytesArg
import Derived.Laws.BitsLemmas
import Derived.Deep.RegionHeld3
import Derived.Deep.QuietTactic
import Derived.Deep.OwnRows
import Derived.Deep.LoopGhost
import Derived.Deep.DeepCutAuto
import Derived.Deep.CutBlock
import Derived.Deep.AppendLies
import Derived.BigQuiet
import Derived.ArgAppend
import Derived.Scope
set_option linter.unusedVariables false
set_option linter.unusedSimpArgs false
noncomputable section
namespace Go.Proofs.Dk
open Go Go.RowKit
theorem oj {n : Nat} : ∀ (a b : List DV), fS n (a ++ b) = fS n a ++ fS n b
 | [], b => rfl
 | d :: r, b => by simp only [List.cons_append, fS]; rw [oj r b]
theorem wF {n : Nat} : ∀ (s : Sh) (x : s.T), fS n (s.enc x) = s.enc x
 | .int _, _ => rfl
 | .bool, _ => rfl
 | .str, _ => rfl
 | .pair a b, x => by simp only [Sh.enc]; rw [oj, wF a, wF b]
 | .sl _, _ => rfl
 | .arr _ _, _ => rfl
 | .fp _, _ => rfl
theorem rg {n : Nat} : ∀ (k : List EK) (c : Nat) (x : eM (k.map dB)), fS n (hU nam0 c (k.map dB) x) = hU nam0 c (k.map dB) x
 | [], c, x => rfl
 | .any :: r, c, x => congrArg (DV.undef :: ·) (rg r (c + 1) x)
 | .val s :: r, c, x => by
  show fS n (s.enc x.1 ++ hU nam0 (c + 1) (r.map dB) x.2) = s.enc x.1 ++ hU nam0 (c + 1) (r.map dB) x.2
  rw [oj, wF, rg r]
 | .row E s :: r, c, x => congrArg (DV.rw (nam0.r c) :: ·) (rg r (c + 1) x.2)
def BA (j : Nat) (k : List EK) (x : fY k) (H : Heap) : Heap := el nam0 1000 (k.map dB) (sJ k x) (H.set j (some (.obj (hU nam0 1000 (k.map dB) (sJ k x)))))
section
variable {I : In} {w : World} {H : Heap}
theorem MT {j : Nat} {t : TypeId} {k : List EK} {xs : List (fY k)} {i : Nat} {x : fY k} {B : Nat → Nat → Prop} (hH : HR I w H) (hj : H j = some (.fam t k xs)) (hB : I.ι j = some (.fam t B)) (hx : xs[i]? = some x) (hjl : j < 100000) (hfr : ∀ n ∈ dh nam0 1000 (k.map dB), H n = none) :
  ∃ b J, (I.R.fam t)[i]? = some b ∧ HR J w (BA j k x H) ∧ J.R = I.R ∧ J.ι j = some (.obj b) ∧ Same I J w w ∧ (∀ n C, J.ι n ≠ some (.fam t C)) ∧
   (∀ n e, n ≠ j → I.ι n = some e → J.ι n = some e) ∧ ∀ n e, J.ι n = some e → ((∀ s C, e ≠ .fam s C) ∧ ∀ c, e.has c → B i c) ∨ (n ≠ j ∧ I.ι n = some e) := by
 obtain ⟨B', g1, g2, g3, g4, g5⟩ := hH.fam j t k xs hj
 rw [hB] at g1
 simp only [ab, Ent.fam.injEq, true_and] at g1
 subst g1
 have hi : i < xs.length := (List.getElem?_eq_some_iff.1 hx).1
 have hb : (I.R.fam t)[i]? = some ((I.R.fam t)[i]'(by omega)) := ax _
 generalize (I.R.fam t)[i]'(by omega) = b at hb
 obtain ⟨ι, m1, ⟨c0, t0, m2, m3⟩, m4, m5, m6, m7, m8⟩ := g3 i x b hx hb
 have hjn : j ∉ dh nam0 1000 (k.map dB) := fun h => by have := gW h; omega
 have h0n : 0 ∉ dh nam0 1000 (k.map dB) := fun h => by have := gW h; omega
 have hrn : ∀ n ∈ dh nam0 1000 (k.map dB), I.ι n = none := fun n h => hH.dom n (hfr n h)
 have hin : ∀ n e, I.ι n = some e → n ∉ dh nam0 1000 (k.map dB) := fun n e h hm => by rw [hrn n hm] at h; cases h
 have hia : ∀ a e, ι a = some e → a = 0 ∨ a ∈ dh nam0 1000 (k.map dB) := fun a e h => by
  by_cases h0 : a = 0
  ·exact .inl h0
  ·refine .inr (Decidable.byContradiction fun hm => ?_)
   rw [m5 a h0 (eD hm)] at h
   cases h
 let J : In := ⟨fun n => if n = j then ι 0 else if n ∈ dh nam0 1000 (k.map dB) then ι n else I.ι n, I.R⟩
 have jj : J.ι j = some (.obj b) := by show (if j = j then ι 0 else _) = _; rw [if_pos rfl, m1]
 have jr : ∀ n, n ∈ dh nam0 1000 (k.map dB) → J.ι n = ι n := fun n h => by
  show (if n = j then ι 0 else if n ∈ dh nam0 1000 (k.map dB) then ι n else I.ι n) = _
  rw [if_neg (by rintro rfl; exact hjn h), if_pos h]
 have ji : ∀ n, n ≠ j → n ∉ dh nam0 1000 (k.map dB) → J.ι n = I.ι n := fun n h1 h2 => by
  show (if n = j then ι 0 else if n ∈ dh nam0 1000 (k.map dB) then ι n else I.ι n) = _
  rw [if_neg h1, if_neg h2]
 have org : ∀ n e, J.ι n = some e → (∃ a, ι a = some e ∧ ((n = j ∧ a = 0) ∨ (n ∈ dh nam0 1000 (k.map dB) ∧ a = n))) ∨ (n ≠ j ∧ n ∉ dh nam0 1000 (k.map dB) ∧ I.ι n = some e) := by
  intro n e h
  by_cases h1 : n = j
  ·subst h1
   rw [jj, ← m1] at h
   exact .inl ⟨0, h, .inl ⟨rfl, rfl⟩⟩
  ·by_cases h2 : n ∈ dh nam0 1000 (k.map dB)
   ·rw [jr n h2] at h
    exact .inl ⟨n, h, .inr ⟨h2, rfl⟩⟩
   ·rw [ji n h1 h2] at h
    exact .inr ⟨h1, h2, h⟩
 have keep : ∀ n e, n ≠ j → I.ι n = some e → J.ι n = some e := fun n e h1 h => by rw [ji n h1 (hin n e h)]; exact h
 have hs : Same I J w w := ⟨Keeps.refl I.R w, fun n b' h => keep n _ (by rintro rfl; rw [hB] at h; cases h) h, fun n sz v h => keep n _ (by rintro rfl; rw [hB] at h; cases h) h⟩
 have hm : ButO 0 ⟨ι, I.R⟩ J w w := ⟨Keeps.refl I.R w, fun a b' ha h => by
   have h' : ι a = some (.obj b') := h
   have h2 := (hia a _ h').resolve_left ha
   rw [jr a h2]
   exact h', fun a sz v h => by
   have h' : ι a = some (.row sz v) := h
   rcases hia a _ h' with rfl | h2
   ·rw [m1] at h'; cases h'
   ·rw [jr a h2]
    exact h'⟩
 have hfam : ∀ n s C, J.ι n = some (.fam s C) → n ≠ j ∧ I.ι n = some (.fam s C) := fun n s C h => by
  rcases org n _ h with ⟨a, h1, _⟩ | ⟨h1, _, h2⟩
  ·exact absurd h1 (m8 a s C)
  ·exact ⟨h1, h2⟩
 refine ⟨b, J, hb, HR.of (fun n bk hn => ?_) (fun n hn => ?_) (fun n e c h hc => ?_) (fun n n' e e' c h h' hc hc' => ?_) hH.rlt (fun n n' s C C' h h' => hH.one n n' s C C' (hfam n s C h).2 (hfam n' s C' h').2), rfl, jj, hs, fun n C h => ?_, keep, fun n e h => ?_⟩
 ·unfold BA at hn
  by_cases h2 : n ∈ dh nam0 1000 (k.map dB)
  ·rw [fK (H' := fun _ => none) (.inl h2)] at hn
   obtain ⟨E, s, ys, e⟩ := iP (ρ := nam0) (x := sJ k x) (H := fun _ => none) h2
   rw [e] at hn
   simp only [ab] at hn
   subst hn
   obtain ⟨v, cs, k1, k2, k3⟩ := m4 n E s ys e
   exact ⟨v, cs, by rw [jr n h2]; exact k1, k2, k3⟩
  ·rw [eD h2] at hn
   by_cases h1 : n = j
   ·subst h1
    rw [Heap.set_same] at hn
    simp only [ab] at hn
    subst hn
    refine ⟨b, c0, t0, jj, m2, ?_⟩
    have := CR.subO hm m3
    rw [rg] at this
    exact this
   ·rw [dR h1] at hn
    exact (hH.br hn).keep hs (fun s C h => ⟨keep n _ h1 h, rfl⟩) (fun _ _ _ _ => rfl)
 ·unfold BA at hn
  have h2 := gR hn
  rw [eD h2] at hn
  by_cases h1 : n = j
  ·subst h1
   rw [Heap.set_same] at hn
   cases hn
  ·rw [dR h1] at hn
   rw [ji n h1 h2]
   exact hH.dom n hn
 ·rcases org n e h with ⟨a, h1, _⟩ | ⟨_, _, h1⟩
  ·exact hH.lt j _ c hB ⟨i, m7 a e c h1 hc⟩
  ·exact hH.lt n e c h1 hc
 ·rcases org n e h with ⟨a, h1, h2⟩ | ⟨p1, p2, h1⟩
  ·rcases org n' e' h' with ⟨a', h1', h2'⟩ | ⟨p1', p2', h1'⟩
   ·have := m6 a a' e e' c h1 h1' hc hc'
    subst this
    rcases h2 with ⟨rfl, h3⟩ | ⟨h4, h3⟩
    ·rcases h2' with ⟨rfl, _⟩ | ⟨h4', h3'⟩
     ·rfl
     ·subst h3; exact absurd (h3' ▸ h4') h0n
    ·rcases h2' with ⟨_, h3'⟩ | ⟨_, h3'⟩
     ·rw [h3'] at h3; exact absurd (h3 ▸ h4) h0n
     ·rw [← h3, ← h3']
   ·exact absurd (hH.inj j n' _ e' c hB h1' ⟨i, m7 a e c h1 hc⟩ hc').symm p1'
  ·rcases org n' e' h' with ⟨a', h1', h2'⟩ | ⟨p1', p2', h1'⟩
   ·exact absurd (hH.inj n j e _ c h1 hB hc ⟨i, m7 a' e' c h1' hc'⟩) p1
   ·exact hH.inj n n' e e' c h1 h1' hc hc'
 ·obtain ⟨h1, h2⟩ := hfam n t C h
  exact h1 (hH.one n j t C B h2 hB)
 ·rcases org n e h with ⟨a, h1, _⟩ | ⟨h1, _, h2⟩
  ·exact .inl ⟨fun s C h => m8 a s C (h ▸ h1), fun c hc => m7 a e c h1 hc⟩
  ·exact .inr ⟨h1, h2⟩
theorem O1 {j : Nat} {t : TypeId} {B : Nat → Nat → Prop} (hH : HR I w H) (hB : I.ι j = some (.fam t B)) :
  ∃ J, HR J w (H.set j none) ∧ J.R = I.R ∧ J.ι j = none ∧ Same I J w w ∧ (∀ n C, J.ι n ≠ some (.fam t C)) ∧ (∀ n e, n ≠ j → I.ι n = some e → J.ι n = some e) ∧ ∀ n e, J.ι n = some e → n ≠ j ∧ I.ι n = some e := by
 let J : In := ⟨fun n => if n = j then none else I.ι n, I.R⟩
 have jj : J.ι j = none := by show (if j = j then none else _) = _; rw [if_pos rfl]
 have ji : ∀ n, n ≠ j → J.ι n = I.ι n := fun n h => by show (if n = j then none else I.ι n) = _; rw [if_neg h]
 have org : ∀ n e, J.ι n = some e → n ≠ j ∧ I.ι n = some e := fun n e h => by
  by_cases h1 : n = j
  ·subst h1; rw [jj] at h; cases h
  ·rw [ji n h1] at h; exact ⟨h1, h⟩
 have keep : ∀ n e, n ≠ j → I.ι n = some e → J.ι n = some e := fun n e h1 h => by rw [ji n h1]; exact h
 have hs : Same I J w w := ⟨Keeps.refl I.R w, fun n b' h => keep n _ (by rintro rfl; rw [hB] at h; cases h) h, fun n sz v h => keep n _ (by rintro rfl; rw [hB] at h; cases h) h⟩
 refine ⟨J, HR.of (fun n bk hn => ?_) (fun n hn => ?_) (fun n e c h hc => hH.lt n e c (org n e h).2 hc) (fun n n' e e' c h h' hc hc' => hH.inj n n' e e' c (org n e h).2 (org n' e' h').2 hc hc') hH.rlt (fun n n' s C C' h h' => hH.one n n' s C C' (org n _ h).2 (org n' _ h').2), rfl, jj, hs, fun n C h => ?_, keep, org⟩
 ·by_cases h1 : n = j
  ·subst h1; rw [Heap.set_same] at hn; cases hn
  ·rw [dR h1] at hn
   exact (hH.br hn).keep hs (fun s C h => ⟨keep n _ h1 h, rfl⟩) (fun _ _ _ _ => rfl)
 ·by_cases h1 : n = j
  ·subst h1; exact jj
  ·rw [dR h1] at hn
   rw [ji n h1]
   exact hH.dom n hn
 ·obtain ⟨h1, h2⟩ := org n _ h
  exact h1 (hH.one n j t C B h2 hB)
theorem EG {I0 I1 I2 I3 : In} {w w' : World} {H0 H3 : Heap} {j : Nat} {t : TypeId} {k : List EK} {xs ys : List (fY k)} {B : Nat → Nat → Prop} {i : Option Nat} {B1 : Nat → Prop}
  (hH0 : HR I0 w H0) (hj : H0 j = some (.fam t k xs)) (hB : I0.ι j = some (.fam t B)) (hR : I1.R = I0.R) (hrl : ∀ b, I0.R b → b < w.heap.size)
  (hno : ∀ n C, I1.ι n ≠ some (.fam t C)) (hk : ∀ n e, n ≠ j → I0.ι n = some e → I1.ι n = some e) (ho : ∀ n e, I1.ι n = some e → (∃ a, i = some a ∧ (∀ s C, e ≠ .fam s C) ∧ ∀ c, e.has c → B a c) ∨ (n ≠ j ∧ I0.ι n = some e))
  (he : Ext I1 w I2 w') (h3 : HR I3 w' H3) (hR3 : I3.R = I2.R) (hsub : ∀ m e, I3.ι m = some e → I2.ι m = some e) (hobj : ∀ m b, m ≠ j → I2.ι m = some (.obj b) → I3.ι m = some (.obj b)) (hj3 : H3 j = none)
  (hlen : ys.length = xs.length) (hoth : ∀ a, i ≠ some a → ys[a]? = xs[a]?) (hthis : ∀ a x b, i = some a → ys[a]? = some x → (I0.R.fam t)[a]? = some b → MemR I2.R w' k x b B1)
  (hB1 : ∀ c, B1 c → (∃ m e, I2.ι m = some e ∧ e.has c ∧ c < w'.heap.size ∧ ¬ I2.R c) ∧ ∀ m e, I3.ι m = some e → ¬ e.has c) :
  ∃ I4, HR I4 w' (H3.set j (some (.fam t k ys))) ∧ I4.R = I3.R ∧ (∀ m, m ≠ j → I4.ι m = I3.ι m) ∧ Ext I0 w I4 w' ∧ Same I3 I4 w' w' := by
 obtain ⟨B', g1, g2, g3, g4, g5⟩ := hH0.fam j t k xs hj
 rw [hB] at g1
 simp only [ab, Ent.fam.injEq, true_and] at g1
 subst g1
 obtain ⟨f1, f2⟩ := he.famE t hno
 have hF : I3.R.fam t = I0.R.fam t := by rw [hR3, f1, hR]
 have hj3' : I3.ι j = none := h3.dom j hj3
 have k1 : ∀ a c, i ≠ some a → B a c → ∀ n e, I1.ι n = some e → ¬ e.has c := fun a c ha hc n e hn hec => by
  rcases ho n e hn with ⟨a', h1, _, h2⟩ | ⟨h1, h2⟩
  ·exact ha (g4 a a' c hc (h2 c hec) ▸ h1)
  ·exact h1 (hH0.inj n j e _ c h2 hB hec ⟨a, hc⟩)
 have k2 : ∀ a c, B a c → c < w.heap.size ∧ ¬ I0.R c := fun a c hc => hH0.lt j _ c hB ⟨a, hc⟩
 have k3 : ∀ a c, i ≠ some a → B a c → w'.heap[c]? = w.heap[c]? := fun a c ha hc => he.same c (k2 a c hc).1 (k1 a c ha hc)
 have k4 : ∀ a c, i ≠ some a → B a c → ∀ n e, I2.ι n = some e → ¬ e.has c := fun a c ha hc n e hn hec => by
  rcases he.own n e c hn hec with ⟨n', e', h1, h2⟩ | h1
  ·exact k1 a c ha hc n' e' h1 h2
  ·have := (k2 a c hc).1; omega
 have k5 : ∀ a c, i ≠ some a → B a c → ¬ I3.R c := fun a c ha hc h => by
  rw [hR3] at h
  rcases he.newR c h with h1 | ⟨n', e', h1, h2⟩ | h1
  ·rw [hR] at h1; exact (k2 a c hc).2 h1
  ·exact k1 a c ha hc n' e' h1 h2
  ·have := (k2 a c hc).1; omega
 let B4 : Nat → Nat → Prop := fun a c => (i ≠ some a ∧ B a c) ∨ (i = some a ∧ a < xs.length ∧ B1 c)
 let I4 : In := ⟨fun m => if m = j then some (.fam t B4) else I3.ι m, I3.R⟩
 have i4j : I4.ι j = some (.fam t B4) := by show (if j = j then some (Ent.fam t B4) else _) = _; rw [if_pos rfl]
 have i4 : ∀ m, m ≠ j → I4.ι m = I3.ι m := fun m h => by show (if m = j then some (Ent.fam t B4) else I3.ι m) = _; rw [if_neg h]
 have keep : ∀ m e, I3.ι m = some e → I4.ι m = some e := fun m e h => by
  rw [i4 m (by rintro rfl; rw [hj3'] at h; cases h)]
  exact h
 have hs : Same I3 I4 w' w' := ⟨Keeps.refl I3.R w', fun m b h => keep m _ h, fun m sz v h => keep m _ h⟩
 have org : ∀ m e, I4.ι m = some e → (m = j ∧ e = .fam t B4) ∨ (m ≠ j ∧ I3.ι m = some e) := fun m e h => by
  by_cases h1 : m = j
  ·subst h1
   rw [i4j] at h
   exact .inl ⟨rfl, (au h).symm⟩
  ·rw [i4 m h1] at h
   exact .inr ⟨h1, h⟩
 have hno3 : ∀ m C, I3.ι m ≠ some (.fam t C) := fun m C h => f2 m C (hsub m _ h)
 have sep : ∀ a c m e, B4 a c → I3.ι m = some e → ¬ e.has c := fun a c m e hc hm => by
  rcases hc with ⟨h1, h2⟩ | ⟨_, _, h2⟩
  ·exact k4 a c h1 h2 m e (hsub m e hm)
  ·exact (hB1 c h2).2 m e hm
 refine ⟨I4, HR.of (fun m bk hm => ?_) (fun m hm => ?_) (fun m e c h hc => ?_) (fun m m' e e' c h h' hc hc' => ?_) h3.rlt (fun m m' s C C' h h' => ?_), rfl, i4, ⟨fun m b h => ?_, fun b h => ?_, fun b hb hn => ?_, fun m e b h hb => ?_, fun b h => ?_, he.size, he.os, he.tape, he.output, fun s a b h => ?_, fun s hs' => ?_⟩, hs⟩
 ·by_cases h1 : m = j
  ·subst h1
   rw [Heap.set_same] at hm
   simp only [ab] at hm
   subst hm
   refine ⟨B4, i4j, by show (I3.R.fam t).length = _; rw [hF, g2, hlen], fun a x b hx hb => ?_, fun a a' c hc hc' => ?_, fun a c hc => ?_⟩
   ·have hb' : (I0.R.fam t)[a]? = some b := by rw [← hF]; exact hb
    by_cases ha : i = some a
    ·obtain ⟨ι, q1, q2, q3, q4, q5, q6, q7⟩ := hthis a x b ha hx hb'
     have ha' : a < xs.length := by rw [← hlen]; exact (List.getElem?_eq_some_iff.1 hx).1
     show MemR I3.R w' k x b (B4 a)
     rw [hR3]
     exact ⟨ι, q1, q2, q3, q4, q5, fun n e c h1 h2 => .inr ⟨ha, ha', q6 n e c h1 h2⟩, q7⟩
    ·rw [hoth a ha] at hx
     have hkk : Keeps I0.R I3.R w w' := by
      rw [hR3, ← hR]
      refine ⟨he.ro, fun c hc => ?_, he.fam⟩
      rw [hR] at hc
      refine he.same c (hrl c hc) fun n e hn hec => ?_
      rcases ho n e hn with ⟨a', _, _, h2⟩ | ⟨_, h2⟩
      ·exact (k2 a' c (h2 c hec)).2 hc
      ·exact (hH0.lt n e c h2 hec).2 hc
     obtain ⟨ι, q1, q2, q3, q4, q5, q6, q7⟩ := (g3 a x b hx hb').keep hkk (fun c hc => k3 a c ha hc)
     exact ⟨ι, q1, q2, q3, q4, q5, fun n e c h1 h2 => .inl ⟨ha, q6 n e c h1 h2⟩, q7⟩
   ·rcases hc with ⟨h1, h2⟩ | ⟨h1, _, h2⟩
    ·rcases hc' with ⟨h1', h2'⟩ | ⟨h1', _, h2'⟩
     ·exact g4 a a' c h2 h2'
     ·obtain ⟨⟨n, e, p1, p2, _⟩, _⟩ := hB1 c h2'
      exact absurd p2 (k4 a c h1 h2 n e p1)
    ·rcases hc' with ⟨h1', h2'⟩ | ⟨h1', _, h2'⟩
     ·obtain ⟨⟨n, e, p1, p2, _⟩, _⟩ := hB1 c h2
      exact absurd p2 (k4 a' c h1' h2' n e p1)
     ·rw [h1] at h1'
      exact au h1'
   ·rw [hlen]
    rcases hc with ⟨_, h2⟩ | ⟨_, h2, _⟩
    ·exact g5 a c h2
    ·exact h2
  ·rw [dR h1] at hm
   exact (h3.br hm).keep hs (fun s C h => ⟨keep m _ h, rfl⟩) (fun _ _ _ _ => rfl)
 ·by_cases h1 : m = j
  ·subst h1; rw [Heap.set_same] at hm; cases hm
  ·rw [dR h1] at hm
   rw [i4 m h1]
   exact h3.dom m hm
 ·rcases org m e h with ⟨rfl, rfl⟩ | ⟨h1, h2⟩
  ·obtain ⟨a, hc⟩ := hc
   rcases hc with ⟨h1, h2⟩ | ⟨h1, _, h2⟩
   ·exact ⟨bb (k2 a c h2).1 he.size, k5 a c h1 h2⟩
   ·obtain ⟨⟨n, e, _, _, p3, p4⟩, _⟩ := hB1 c h2
    exact ⟨p3, by show ¬ I3.R c; rw [hR3]; exact p4⟩
  ·exact h3.lt m e c h2 hc
 ·rcases org m e h with ⟨rfl, rfl⟩ | ⟨h1, h2⟩
  ·rcases org m' e' h' with ⟨rfl, rfl⟩ | ⟨h1', h2'⟩
   ·rfl
   ·obtain ⟨a, hc⟩ := hc
    exact absurd hc' (sep a c m' e' hc h2')
  ·rcases org m' e' h' with ⟨rfl, rfl⟩ | ⟨h1', h2'⟩
   ·obtain ⟨a, hc'⟩ := hc'
    exact absurd hc (sep a c m e hc' h2)
   ·exact h3.inj m m' e e' c h2 h2' hc hc'
 ·rcases org m _ h with ⟨rfl, e⟩ | ⟨h1, h2⟩
  ·simp only [Ent.fam.injEq] at e
   obtain ⟨rfl, _⟩ := e
   rcases org m' _ h' with ⟨rfl, e⟩ | ⟨h1', h2'⟩
   ·rfl
   ·exact absurd h2' (hno3 m' C')
  ·rcases org m' _ h' with ⟨rfl, e⟩ | ⟨h1', h2'⟩
   ·simp only [Ent.fam.injEq] at e
    obtain ⟨rfl, _⟩ := e
    exact absurd h2 (hno3 m C)
   ·exact h3.one m m' s C C' h2 h2'
 ·have hmj : m ≠ j := by rintro rfl; rw [hB] at h; cases h
  exact keep m _ (hobj m b hmj (he.obj m b (hk m _ hmj h)))
 ·show I3.R b
  rw [hR3]
  exact he.ro b (by rw [hR]; exact h)
 ·refine he.same b hb fun n e hn' hec => ?_
  rcases ho n e hn' with ⟨a, _, _, h2⟩ | ⟨_, h2⟩
  ·exact hn j _ hB ⟨a, h2 b hec⟩
  ·exact hn n e h2 hec
 ·have own : ∀ n e, I2.ι n = some e → e.has b → (∃ m e', I0.ι m = some e' ∧ e'.has b) ∨ w.heap.size ≤ b := fun n e h1 h2 => by
   rcases he.own n e b h1 h2 with ⟨n', e', h3, h4⟩ | h3
   ·rcases ho n' e' h3 with ⟨a, _, _, h5⟩ | ⟨_, h5⟩
    ·exact .inl ⟨j, _, hB, a, h5 b h4⟩
    ·exact .inl ⟨n', e', h5, h4⟩
   ·exact .inr h3
  rcases org m e h with ⟨rfl, rfl⟩ | ⟨h1, h2⟩
  ·obtain ⟨a, hc⟩ := hb
   rcases hc with ⟨_, h2⟩ | ⟨_, _, h2⟩
   ·exact .inl ⟨_, _, hB, a, h2⟩
   ·obtain ⟨⟨n, e, p1, p2, _⟩, _⟩ := hB1 b h2
    exact own n e p1 p2
  ·exact own m e (hsub m e h2) hb
 ·have h' : I2.R b := by rw [← hR3]; exact h
  rcases he.newR b h' with h1 | ⟨n', e', h1, h2⟩ | h1
  ·exact .inl (by rw [hR] at h1; exact h1)
  ·rcases ho n' e' h1 with ⟨a, _, _, h5⟩ | ⟨_, h5⟩
   ·exact .inr (.inl ⟨j, _, hB, a, h5 b h2⟩)
   ·exact .inr (.inl ⟨n', e', h5, h2⟩)
  ·exact .inr (.inr h1)
 ·show (I3.R.fam s)[a]? = some b
  rw [hR3]
  exact he.fam s a b (by rw [hR]; exact h)
 ·have hst : s ≠ t := by rintro rfl; exact hs' j B hB
  have h1 : ∀ n C, I1.ι n ≠ some (.fam s C) := fun n C h => by
   rcases ho n _ h with ⟨a, _, h2, _⟩ | ⟨_, h2⟩
   ·exact h2 s C rfl
   ·exact hs' n C h2
  obtain ⟨p1, p2⟩ := he.famE s h1
  refine ⟨by show I3.R.fam s = _; rw [hR3, p1, hR], fun m C h => ?_⟩
  rcases org m _ h with ⟨_, e⟩ | ⟨_, h2⟩
  ·simp only [Ent.fam.injEq] at e
   exact hst e.1
  ·exact p2 m C (hsub m _ h2)
end
theorem O2 {I0 I4 : In} {w w' : World} {H4 : Heap} {j q : Nat} {t : TypeId} {k : List EK} {xs : List (fY k)} {x : fY k} {u : List Nat} {l : List DV} {us : List Value} {v : Value} {B0 : Nat → Nat → Prop}
  (he : Ext I0 w I4 w') (h4 : HR I4 w' H4) (hj : H4 j = some (.fam t k xs)) (ha : tm k q H4 = some (x, u)) (hq : I0.ι q = none) (hl : LR I4 w' l us) (hv : VR I4 w' (.ptr q 0 []) v) (hj0 : I0.ι j = some (.fam t B0)) :
  ∃ I6, HR I6 w' ((vl q u H4).set j (some (.fam t k (xs ++ [x])))) ∧ LR I6 w' (.fp t (xs.length + 1) :: By q u l) (v :: us) ∧ Ext I0 w I6 w' := by
 obtain ⟨b, B5, I5, e1, hm, h5, hl5, hR5, sub, same, hB5, rows⟩ := Ad h4 ha hl
 obtain ⟨B, g1, g2, g3, g4, g5⟩ := h4.fam j t k xs hj
 have hjq : j ≠ q := by rintro rfl; rw [e1] at g1; cases g1
 have hju : j ∉ u := fun h => by
  obtain ⟨sz, v, h1⟩ := rows j h
  rw [g1] at h1
  cases h1
 have i5j : I5.ι j = some (.fam t B) := (same j hjq hju).trans g1
 let B6 : Nat → Nat → Prop := fun a c => B a c ∨ (a = xs.length ∧ B5 c)
 let I6 : In := ⟨fun m => if m = j then some (.fam t B6) else I5.ι m, ⟨I4.R.r, fun s => if s = t then I4.R.fam t ++ [b] else I4.R.fam s⟩⟩
 have i6j : I6.ι j = some (.fam t B6) := by show (if j = j then some (Ent.fam t B6) else _) = _; rw [if_pos rfl]
 have i6 : ∀ m, m ≠ j → I6.ι m = I5.ι m := fun m h => by show (if m = j then some (Ent.fam t B6) else I5.ι m) = _; rw [if_neg h]
 have f6 : I6.R.fam t = I4.R.fam t ++ [b] := by show (if t = t then _ else _) = _; rw [if_pos rfl]
 have f6' : ∀ s, s ≠ t → I6.R.fam s = I4.R.fam s := fun s h => by show (if s = t then _ else _) = _; rw [if_neg h]
 have hk : Keeps I4.R I6.R w' w' := by
  refine ⟨fun _ h => h, fun _ _ => rfl, fun s i c h => ?_⟩
  by_cases hs : s = t
  ·subst hs
   rw [f6, aN (List.getElem?_eq_some_iff.1 h).1]
   exact h
  ·rw [f6' s hs]; exact h
 have key : ∀ n e, n ≠ j → I5.ι n = some e → I6.ι n = some e := fun n e h1 h => by rw [i6 n h1]; exact h
 have hs : Same I5 I6 w' w' := ⟨by rw [hR5]; exact hk, fun n c h => key n _ (by rintro rfl; rw [i5j] at h; cases h) h, fun n sz v h => key n _ (by rintro rfl; rw [i5j] at h; cases h) h⟩
 have org : ∀ m e, I6.ι m = some e → (m = j ∧ e = .fam t B6) ∨ (m ≠ j ∧ I5.ι m = some e) := fun m e h => by
  by_cases h1 : m = j
  ·subst h1
   rw [i6j] at h
   exact .inl ⟨rfl, (au h).symm⟩
  ·rw [i6 m h1] at h
   exact .inr ⟨h1, h⟩
 have sep : ∀ a c m e, B6 a c → m ≠ j → I5.ι m = some e → ¬ e.has c := fun a c m e hc hmj hm hec => by
  obtain ⟨m1, m2, m3⟩ := sub m e hm
  rcases hc with hc | ⟨_, hc⟩
  ·exact hmj (h4.inj m j e _ c m1 g1 hec ⟨a, hc⟩)
  ·obtain ⟨n, e', n1, n2, n3⟩ := hB5 c hc
   have := h4.inj m n e e' c m1 n2 hec n3
   subst this
   rcases n1 with n1 | n1
   ·exact m2 n1
   ·exact m3 n1
 have lt6 : ∀ a c, B6 a c → (∃ n e, I4.ι n = some e ∧ e.has c) := fun a c hc => by
  rcases hc with hc | ⟨_, hc⟩
  ·exact ⟨j, _, g1, a, hc⟩
  ·obtain ⟨n, e', n1, n2, n3⟩ := hB5 c hc
   exact ⟨n, e', n2, n3⟩
 refine ⟨I6, HR.of (fun m bk hm' => ?_) (fun m hm' => ?_) (fun m e c h hc => ?_) (fun m m' e e' c h h' hc hc' => ?_) h4.rlt (fun m m' s C C' h h' => ?_), .cons _ _ _ _ (.fp t _ v ?_) (LR.keep hs hl5),
  ⟨fun n c h => ?_, he.ro, fun c hc hn => he.same c hc hn, fun n e c h hc => ?_, he.newR, he.size, he.os, he.tape, he.output, fun s i c h => hk.fam s i c (he.fam s i c h), fun s hs' => ?_⟩⟩
 ·by_cases h1 : m = j
  ·subst h1
   rw [Heap.set_same] at hm'
   simp only [ab] at hm'
   subst hm'
   refine ⟨B6, i6j, by rw [f6, aF, g2]; simp, fun a y c hy hc => ?_, fun a a' c hc hc' => ?_, fun a c hc => ?_⟩
   ·rw [f6] at hc
    rcases am a xs.length with h1 | h1
    ·rw [aN h1] at hy
     rw [aN (by omega)] at hc
     obtain ⟨ι, q1, q2, q3, q4, q5, q6, q7⟩ := (g3 a y c hy hc).keep hk (fun _ _ => rfl)
     exact ⟨ι, q1, q2, q3, q4, q5, fun n e d h1 h2 => .inl (q6 n e d h1 h2), q7⟩
    ·have hla := (List.getElem?_eq_some_iff.1 hy).1
     have : a = xs.length := by simp at hla; omega
     subst this
     rw [aW (ak _), bq] at hy
     rw [aW (by omega), g2, bq] at hc
     simp only [bu, ab] at hy hc
     subst hy hc
     obtain ⟨ι, q1, q2, q3, q4, q5, q6, q7⟩ := hm.keep hk (fun _ _ => rfl)
     exact ⟨ι, q1, q2, q3, q4, q5, fun n e d h1 h2 => .inr ⟨rfl, q6 n e d h1 h2⟩, q7⟩
   ·have no : ∀ a, B a c → ¬ B5 c := fun a h1 h2 => by
     obtain ⟨n, e', n1, n2, n3⟩ := hB5 c h2
     have := h4.inj m n _ e' c g1 n2 ⟨a, h1⟩ n3
     subst this
     rcases n1 with n1 | n1
     ·exact hjq n1
     ·exact hju n1
    rcases hc with hc | ⟨h1, hc⟩
    ·rcases hc' with hc' | ⟨h1', hc'⟩
     ·exact g4 a a' c hc hc'
     ·exact absurd hc' (no a hc)
    ·rcases hc' with hc' | ⟨h1', hc'⟩
     ·exact absurd hc (no a' hc')
     ·rw [h1, h1']
   ·rw [aF]
    rcases hc with hc | ⟨h1, _⟩
    ·have := g5 a c hc
     simp only [aH, cg]
     omega
    ·subst h1; simp
  ·rw [dR h1] at hm'
   refine (h5.br hm').keep hs (fun s C h => ⟨key m _ h1 h, ?_⟩) (fun _ _ _ _ => rfl)
   rw [hR5]
   exact f6' s (by rintro rfl; exact h1 (h5.one m j s C B h i5j))
 ·by_cases h1 : m = j
  ·subst h1; rw [Heap.set_same] at hm'; cases hm'
  ·rw [dR h1] at hm'
   rw [i6 m h1]
   exact h5.dom m hm'
 ·rcases org m e h with ⟨rfl, rfl⟩ | ⟨h1, h2⟩
  ·obtain ⟨a, hc⟩ := hc
   obtain ⟨n, e', n1, n2⟩ := lt6 a c hc
   exact h4.lt n e' c n1 n2
  ·exact h4.lt m e c (sub m e h2).1 hc
 ·rcases org m e h with ⟨rfl, rfl⟩ | ⟨h1, h2⟩
  ·rcases org m' e' h' with ⟨rfl, rfl⟩ | ⟨h1', h2'⟩
   ·rfl
   ·obtain ⟨a, hc⟩ := hc
    exact absurd hc' (sep a c m' e' hc h1' h2')
  ·rcases org m' e' h' with ⟨rfl, rfl⟩ | ⟨h1', h2'⟩
   ·obtain ⟨a, hc'⟩ := hc'
    exact absurd hc (sep a c m e hc' h1 h2)
   ·exact h5.inj m m' e e' c h2 h2' hc hc'
 ·have hp : ∀ m s C, I6.ι m = some (.fam s C) → ∃ C', I5.ι m = some (.fam s C') := fun m s C h => by
   rcases org m _ h with ⟨rfl, e⟩ | ⟨h1, h2⟩
   ·simp only [Ent.fam.injEq] at e
    obtain ⟨rfl, _⟩ := e
    exact ⟨B, i5j⟩
   ·exact ⟨C, h2⟩
  obtain ⟨D, h1⟩ := hp m s C h
  obtain ⟨D', h2⟩ := hp m' s C' h'
  exact h5.one m m' s D D' h1 h2
 ·cases hv with | ptr _ _ _ b' q1 q2 =>
  rw [e1] at q1
  simp only [ab, Ent.obj.injEq] at q1
  subst q1
  refine .inr ⟨xs.length, b, rfl, ?_, rfl⟩
  rw [f6, aW (by omega), g2, bq]
  rfl
 ·have h1 := he.obj n c h
  have hnj : n ≠ j := by rintro rfl; rw [g1] at h1; cases h1
  have hnq : n ≠ q := by rintro rfl; rw [hq] at h; cases h
  have hnu : n ∉ u := fun hu => by
   obtain ⟨sz, v, h2⟩ := rows n hu
   rw [h1] at h2
   cases h2
  rw [i6 n hnj, same n hnq hnu]
  exact h1
 ·rcases org n e h with ⟨rfl, rfl⟩ | ⟨h1, h2⟩
  ·obtain ⟨a, hc⟩ := hc
   obtain ⟨m, e', n1, n2⟩ := lt6 a c hc
   exact he.own m e' c n1 n2
  ·exact he.own n e c (sub n e h2).1 hc
 ·have hst : s ≠ t := by rintro rfl; exact hs' j B0 hj0
  obtain ⟨p1, p2⟩ := he.famE s hs'
  refine ⟨(f6' s hst).trans p1, fun m C h => ?_⟩
  rcases org m _ h with ⟨_, e⟩ | ⟨_, h2⟩
  ·simp only [Ent.fam.injEq] at e
   exact hst e.1
  ·exact p2 m C (sub m _ h2).1
def jm {α β : Type} (xs : List α) : Nat → (α → Option β) → Option β
 | 0, _ => none
 | n + 1, k => match xs[n]? with | some x => k x | none => none
def MU {α : Type} (rcv : Bool) (j : Nat) (t : TypeId) (k : List EK) (T : List DV) (H : Heap) (κ : List (fY k) → Option Nat → List DV → Heap → Option α) : Option α :=
 match u4 t k (H j) with
 | some xs => match rcv with
  | true => match T with
   | .fp t' n :: r => if t' = t then jm xs n fun x => κ xs (some (n - 1)) (.ptr j 0 [] :: r) (BA j k x H) else none
   | _ => none
  | false => κ xs none T (H.set j none)
 | none => none
def Sh.cnt : Sh → Nat
 | .pair a b => a.cnt + b.cnt
 | _ => 1
def Cv : List EK → List DV → List Nat
 | .val (.sl _) :: ks, d :: T => xJ d ++ Cv ks T
 | .val s :: ks, T => Cv ks (T.drop s.cnt)
 | .any :: ks, _ :: T => Cv ks T
 | .row _ _ :: ks, _ :: T => Cv ks T
 | _, _ => []
def MV (k : List EK) (n : Nat) (H : Heap) : List Nat := match H n with
 | some (.obj cs) => Cv k cs
 | _ => []
def Cw (S : FS) (l : List DV) (H : Heap) : Option S.R := match S.tout.pr (kc S.tin.os.length) l H with
 | some (z, _) => some (S.inn z)
 | none => none
def Cy (S : FS) (j : Nat) (t : TypeId) (k : List EK) (pub : Bool) (xs : List (fY k)) (l : List DV) (H : Heap) : Option S.R := match H j with
 | some _ => none
 | none => match pub with
  | true => match l with
   | .ptr q 0 [] :: r => (match j9 (MV k q H) (.ptr q 0 [] :: r) [] (H.set j (some (.fam t k xs))) with
    | (.ptr q 0 [] :: r, _, H) => if (S.tin.names nam0).contains q = true then none else (match tm k q H with
     | some (x, u) => (match u4 t k (H j) with
      | some xs => Cw S (.fp t (xs.length + 1) :: By q u r) ((vl q u H).set j (some (.fam t k (xs ++ [x]))))
      | none => none)
     | none => none)
    | _ => none)
   | l => Cw S l (H.set j (some (.fam t k xs)))
  | false => Cw S l (H.set j (some (.fam t k xs)))
def JC (S : FS) (j : Nat) (t : TypeId) (k : List EK) (pub : Bool) (xs : List (fY k)) (i : Option Nat) (v : DV) (H : Heap) : Option S.R := match Bx S.tout.ks.length v with
 | some l => match (if gb S.tout.ks = true then jS l [] H else (l, [], H)) with
  | (l, _, H) => match i with
   | some i => (match j9 (MV k j H) l [] H with
    | (l, _, H) => (match tm k j H with
     | some (x, u) => Cy S j t k pub (xs.set i x) (By j u l) (vl j u H)
     | none => none))
   | none => Cy S j t k pub xs l H
 | none => none
def my (cx : Cx) (fuel f d : Nat) (S : FS) (rcv : Bool) (j : Nat) (t : TypeId) (k : List EK) (pub : Bool) : Prop := ∀ X, MU rcv j t k (S.tin.T nam0 X) (S.tin.H nam0 X fun _ => none) (fun xs i T H => fd cx fuel d f T H fun v H _ => JC S j t k pub xs i v H) = S.fn X
theorem D8 {α β : Type} {xs : List α} {n : Nat} {k : α → Option β} {r : β} (h : jm xs n k = some r) : ∃ m x, n = m + 1 ∧ xs[m]? = some x ∧ k x = some r := by
 cases n with
 | zero => cases h
 | succ m =>
  simp only [jm] at h
  split at h
  ·rename_i x hx
   exact ⟨m, x, rfl, hx, h⟩
  ·cases h
def JD (S : FS) (I0 : In) (w : World) (w' : World) (us : List Value) (z : S.tout.Ty) : Prop := ∃ I4 H4 l m, Ext I0 w I4 w' ∧ HR I4 w' H4 ∧ LR I4 w' l us ∧ S.tout.pr (kc S.tin.os.length) l H4 = some (z, m)
theorem zi {S : FS} {I0 I4 : In} {w w' : World} {H4 : Heap} {l : List DV} {us : List Value} {r : S.R} (hoi : ∀ o, S.out (S.inn o) = o) (he : Ext I0 w I4 w') (h4 : HR I4 w' H4) (hl : LR I4 w' l us) (h : Cw S l H4 = some r) : JD S I0 w w' us (S.out r) := by
 unfold Cw at h
 split at h
 ·rename_i z m hz
  simp only [ab] at h
  subst h
  rw [hoi]
  exact ⟨I4, H4, l, m, he, h4, hl, hz⟩
 ·cases h
theorem tn {I : In} {w : World} {H H' : Heap} {r : List Nat} {l l' T' : List DV} {us : List Value} (hH : HR I w H) (hl : LR I w l us) (h : j9 r l [] H = (l', T', H')) : ∃ I', HR I' w H' ∧ Ext I w I' w ∧ LR I' w l' us := by
 obtain ⟨I', q1, q2, _, q4⟩ := je (a := ⟨#[], []⟩) hH ⟨ak _, fun i => .undef _, rfl⟩ hl h
 exact ⟨I', q1, q2, q4⟩
theorem EH {S : FS} {I0 I4 : In} {w w' : World} {H3 : Heap} {j : Nat} {t : TypeId} {k : List EK} {pub : Bool} {xs : List (fY k)} {l : List DV} {us : List Value} {r : S.R} {B0 : Nat → Nat → Prop} (hoi : ∀ o, S.out (S.inn o) = o) (hout : ∀ n, n ∉ S.tin.names nam0 → I0.ι n = none) (hj0 : I0.ι j = some (.fam t B0)) (hj3 : H3 j = none)
  (he : Ext I0 w I4 w') (h4 : HR I4 w' (H3.set j (some (.fam t k xs)))) (hl : LR I4 w' l us) (h : Cy S j t k pub xs l H3 = some r) : JD S I0 w w' us (S.out r) := by
 unfold Cy at h
 rw [hj3] at h
 simp only at h
 split at h
 ·split at h
  ·rename_i q r0
   split at h
   ·rename_i q' r1 T1 H5 hsol
    obtain ⟨I5, h5, he5, hl5⟩ := tn h4 hl hsol
    split at h
    ·cases h
    ·rename_i hq
     split at h
     ·rename_i x u hx
      split at h
      ·rename_i xs5 hf
       cases hl5 with | cons _ _ v us' hv hr =>
       have hq0 : I0.ι q' = none := hout q' (by
        intro hm
        exact hq (by simpa using hm))
       obtain ⟨I6, p1, p2, p3⟩ := O2 (he.trans he5) h5 (nB hf) hx hq0 hr hv hj0
       exact zi hoi p3 p1 p2 h
      ·cases h
     ·cases h
   ·cases h
  ·exact zi hoi he h4 hl h
 ·exact zi hoi he h4 hl h
theorem L2 {cx : Cx} {fuel f d : Nat} {S : FS} {rcv pub : Bool} {j : Nat} {t : TypeId} {k : List EK} (hg : Good cx) (heq : my cx fuel f d S rcv j t k pub) (hoi : ∀ o, S.out (S.inn o) = o) (hnam : S.tin.free nam0 (fun _ => none) = true) (hj : j < 100000) (hfr : fh (dh nam0 1000 (k.map dB)) (S.tin.names nam0) = true) : hZ cx.P f S := by
 intro α I w H A args ρ κ r X m hH hA hx hρ h
 obtain ⟨Y, hY, hk⟩ := Option.bind_eq_some_iff.1 h
 obtain ⟨⟨I0, hL0⟩, hlen, _⟩ := jk (ρ := nam0) hH rfl hx (vals := fun i => args.getD i undef) (fun i => hA.getD i) (gQ I w S.tin nam0 m) hnam
 have hAl : A.length = S.tin.ks.length := by
  unfold Tmpl.pr at hx
  split at hx
  ·rename_i x1 m1 h1
   exact jD h1
  ·cases hx
 have hT0 : (S.tin.T nam0 X).length = S.tin.ks.length := by unfold Tmpl.T; rw [fj]
 have hA0 : LR I0 w (S.tin.T nam0 X) args := LR.of (by rw [hT0, ← hAl, hA.length]) hL0.val
 have hH0 := hL0.hr
 have hout : ∀ n, n ∉ S.tin.names nam0 → I0.ι n = none := fun n hn => hL0.out n hn
 have hfree : ∀ n ∈ dh nam0 1000 (k.map dB), S.tin.H nam0 X (fun _ => none) n = none := fun n hn => by
  rw [qS (disjB_iff.1 hfr n hn)]
 have hrl : ∀ b, I0.R b → b < w.heap.size := hH0.rlt
 have hq := heq X
 rw [hY] at hq
 unfold MU at hq
 split at hq
 rotate_left
 ·cases hq
 rename_i xs hxs
 have hfj := nB hxs
 obtain ⟨B, hB, _⟩ := hH0.fam j t k xs hfj
 -- the end, told under the names of the frame around
 have fin : ∀ {w' : World} {us : List Value}, us.length = S.tout.ks.length → JD S I0 w w' us (S.out Y) → ∀ z, (∀ {I' : In} {l' : List DV}, LR I' w' l' us → VR I' w' (gP l') z) → ∃ I' v H' u, κ v H' u = some r ∧ Ext I w I' w' ∧ HR I' w' H' ∧ VR I' w' v z ∧ FF u I I' := by
  rintro w' us hul ⟨I4, H4, l, m1, he, h4, hl, hz⟩ z hzz
  split at hk
  ·rename_i hfree
   obtain ⟨I7, g1, g2, g3, g4, g5⟩ := vj hH hL0 he h4 hz (vals := fun i => us.getD i undef) (fun i => hl.getD i) hρ hfree
   refine ⟨I7, _, _, _, hk, g3, g1, hzz (LR.of ?_ g2), fun l hl n sz v hn hi => ?_⟩
   ·unfold Tmpl.T
    rw [fj, hul]
   ·simp only [ab] at hl
    subst hl
    exact g4 n sz v hn hi
  ·cases hk
 split at hq
 ·-- a member is worked on
  split at hq
  ·rename_i t' n r0 hT
   split at hq
   ·rename_i ht
    subst ht
    obtain ⟨i, x, rfl, hxi, hq⟩ := D8 hq
    simp only [cC] at hq
    obtain ⟨b, J, hb, hHJ, hRJ, hJj, hsJ, hnoJ, hkJ, hoJ⟩ := MT hH0 hfj hB hxi hj hfree
    rw [hT] at hA0
    cases hA0 with | cons _ _ u0 us0 hu0 MO =>
    have hu : u0 = .pointer (some ⟨b, 0, none⟩) := by
     cases hu0 with | fp _ _ _ hk0 =>
     rcases hk0 with ⟨e, _⟩ | ⟨i', b', e, hb', e2⟩
     ·cases e
     ·simp only [Nat.add_right_cancel_iff] at e
      subst e
      rw [hb] at hb'
      simp only [ab] at hb'
      subst hb'
      simpa using e2
    subst hu
    have hAJ : LR J w (.ptr j 0 [] :: r0) (.pointer (some ⟨b, 0, none⟩) :: us0) := .cons _ _ _ _ (.ptr j 0 [] b hJj trivial) (LR.keep hsJ MO)
    obtain ⟨_, hc⟩ := iv hg fuel d hHJ hAJ hq
    refine Calls.mono hc ?_
    rintro e w' he
    cases e with
    | returned z =>
     obtain ⟨I2, v, H2, u2, h1, h2, h3, h4, _⟩ := he
     unfold JC at h1
     split at h1
     ·rename_i l hl
      split at h1
      rename_i A1 T1 H1 hs
      obtain ⟨us, u1, u2', u3⟩ := re h4 hl
      obtain ⟨I3, h3', h2', u2⟩ : ∃ I1, HR I1 w' H1 ∧ Ext I2 w' I1 w' ∧ LR I1 w' A1 us := by
       split at hs
       ·exact tn h3 u2' hs
       ·simp only [ah] at hs
        obtain ⟨rfl, rfl, rfl⟩ := hs
        exact ⟨I2, h3, Ext.refl _ _, u2'⟩
      simp only at h1
      generalize hs2 : j9 (MV k j H1) A1 [] H1 = q2 at h1
      obtain ⟨A2, T2, H5⟩ := q2
      simp only at h1
      obtain ⟨I5, h5, he5, u5⟩ := tn h3' u2 hs2
      split at h1
      ·rename_i x' u' hx'
       have heJ := (h2.trans h2').trans he5
       obtain ⟨b', B1, I6, e1, hm, h6, hl6, hR6, sub, same, hB5, rows⟩ := Ad h5 hx' u5
       have hbb : b' = b := by
        have := heJ.obj j b hJj
        rw [e1] at this
        simpa using this
       subst hbb
       have hj6 : vl j u' H5 j = none := by simp [vl, Heap.subO]
       obtain ⟨I7, p1, p2, p3, p4, p5⟩ := EG (ys := xs.set i x') (i := some i) (B1 := B1) hH0 hfj hB hRJ hrl hnoJ hkJ (fun n e hn => (hoJ n e hn).imp (fun h => ⟨i, rfl, h.1, h.2⟩) id) heJ h6 hR6 (fun m e h => (sub m e h).1) (fun m b hmj h => by
         rw [same m hmj fun hu => by
          obtain ⟨sz, v, h1⟩ := rows m hu
          rw [h] at h1
          cases h1]
         exact h) hj6 (by simp) (fun a ha => by
         rw [List.getElem?_set_ne]
         rintro rfl
         exact ha rfl) (fun a y c ha hy hc => by
         simp only [ab] at ha
         subst ha
         have hi := (List.getElem?_eq_some_iff.1 hxi).1
         rw [List.getElem?_set_self hi] at hy
         simp only [ab] at hy
         subst hy
         rw [hb] at hc
         simp only [ab] at hc
         subst hc
         exact hm) (fun c hc => by
         obtain ⟨m, e, n1, n2, n3⟩ := hB5 c hc
         refine ⟨⟨m, e, n2, n3, h5.lt m e c n2 n3⟩, fun m' e' hm' hec => ?_⟩
         obtain ⟨k1, k2, k3⟩ := sub m' e' hm'
         have := h5.inj m m' e e' c n2 k1 n3 hec
         subst this
         rcases n1 with n1 | n1
         ·exact k2 n1
         ·exact k3 n1)
       exact fin u1 (EH hoi hout hB hj6 p4 p1 (LR.keep p5 hl6) h1) z u3
      ·cases h1
     ·cases h1
    | _ => exact he.elim
   ·cases hq
  ·cases hq
 ·obtain ⟨J, hHJ, hRJ, hJj, hsJ, hnoJ, hkJ, hoJ⟩ := O1 hH0 hB
  obtain ⟨_, hc⟩ := iv hg fuel d hHJ (LR.keep hsJ hA0) hq
  refine Calls.mono hc ?_
  rintro e w' he
  cases e with
  | returned z =>
   obtain ⟨I2, v, H2, u2, h1, h2, h3, h4, _⟩ := he
   unfold JC at h1
   split at h1
   ·rename_i l hl
    split at h1
    rename_i A1 T1 H1 hs
    obtain ⟨us, u1, u2', u3⟩ := re h4 hl
    obtain ⟨I3, h3', h2', u2⟩ : ∃ I1, HR I1 w' H1 ∧ Ext I2 w' I1 w' ∧ LR I1 w' A1 us := by
     split at hs
     ·exact tn h3 u2' hs
     ·simp only [ah] at hs
      obtain ⟨rfl, rfl, rfl⟩ := hs
      exact ⟨I2, h3, Ext.refl _ _, u2'⟩
    simp only at h1
    have hj3 : H1 j = none := by
     unfold Cy at h1
     split at h1
     ·cases h1
     ·assumption
    obtain ⟨I7, p1, p2, p3, p4, p5⟩ := EG (ys := xs) (i := none) (B1 := fun _ => False) hH0 hfj hB hRJ hrl hnoJ hkJ (fun n e hn => .inr (hoJ n e hn)) (h2.trans h2') h3' rfl (fun m e h => h) (fun m b hmj h => h) hj3 rfl (fun a ha => rfl) (fun a y c ha => by cases ha) (fun c hc => hc.elim)
    exact fin u1 (EH hoi hout hB hj3 p4 p1 (LR.keep p5 u2) h1) z u3
   ·cases h1
  | _ => exact he.elim
theorem jn {cx : Cx} (h : Good cx) (fuel d : Nat) {f : FuncId} {S : FS} (rcv : Bool) (j : Nat) (t : TypeId) (k : List EK) (pub : Bool) (heq : my cx fuel f d S rcv j t k pub) (hoi : ∀ o, S.out (S.inn o) = o) (hnam : S.tin.free nam0 (fun _ => none) = true) (hj : j < 100000) (hfr : fh (dh nam0 1000 (k.map dB)) (S.tin.names nam0) = true) : Good (cx.bare.addSpec f S) :=
 h.bare.addSpec (L2 h heq hoi hnam hj hfr)
def Sh.flat : Sh → Bool
 | .int _ | .bool | .str => true
 | .pair a b => a.flat && b.flat
 | .arr _ e => e.flat
 | _ => false
theorem Sh.K_flat {R R' : RO} {w : World} : ∀ {s : Sh} {x : s.T} {cs : List Value}, s.flat = true → s.K R w x cs → s.K R' w x cs
 | .int _, _, _, _, h => h
 | .bool, _, _, _, h => h
 | .str, _, _, _, h => h
 | .pair a b, x, _, hf, ⟨c1, c2, e, h1, h2⟩ => by
  simp only [Sh.flat, aj] at hf
  exact ⟨c1, c2, e, K_flat hf.1 h1, K_flat hf.2 h2⟩
 | .sl e, _, _, hf, _ => by cases hf
 | .fp t, _, _, hf, _ => by cases hf
 | .arr n e, xs, _, hf, ⟨h1, h2, h3⟩ => ⟨h1, h2, fun i x hx => K_flat (s := e) hf (h3 i x hx)⟩
def ol : (k : List EK) → eM (k.map dB) → List DV
 | [], _ => []
 | .any :: r, x => ol r x
 | .val s :: r, x => s.enc x.1 ++ ol r x.2
 | .row _ s :: r, x => .vs s x.1 :: ol r x.2
def BC : List EK → Bool
 | [] => true
 | .any :: _ => false
 | _ :: r => BC r
theorem rh : ∀ (k : List EK) (x : eM (k.map dB)), ∀ d ∈ ol k x, d.imm = true
 | [], x, d, h => by simp [ol] at h
 | .any :: r, x, d, h => rh r x d h
 | .val s :: r, x, d, h => by
  simp only [ol, az] at h
  rcases h with h | h
  ·exact Sh.enc_imm s _ d h
  ·exact rh r _ d h
 | .row E s :: r, x, d, h => by
  simp only [ol, aB] at h
  rcases h with rfl | h
  ·rfl
  ·exact rh r _ d h
section
variable {I : In} {w : World} {H : Heap}
theorem JE {n : Nat} {E : TypeId} {s : Sh} {xs : List s.T} {sz : Nat} {v : Value} (hH : HR I w H) (h : H n = some (.row E s xs)) (hi : I.ι n = some (.row sz v)) : (Sh.sl s).K ⟨fun b => b < w.heap.size, I.R.fam⟩ w xs [v] := by
 obtain ⟨v', cs, h1, h2, h3⟩ := hH.row n E s xs h
 rw [hi] at h1
 simp only [ab, Ent.row.injEq] at h1
 obtain ⟨rfl, rfl⟩ := h1
 have hk : Keeps I.R ⟨fun b => b < w.heap.size, I.R.fam⟩ w w := ⟨hH.rlt, fun _ _ => rfl, fun _ _ _ h => h⟩
 rcases h2.2 with ⟨rfl, h0⟩ | ⟨g, cap, cur, rfl, _, hh, hc, _⟩
 ·have : xs = [] := bn h0
  subst this
  exact ⟨none, 0, rfl, ak _, fun h => absurd rfl h⟩
 ·obtain ⟨_, _, cs', k1, k2, k3⟩ := kC hH h hi
  refine ⟨_, cap, rfl, hc, fun hne => ⟨_, rfl, rfl, (hH.lt n _ g hi rfl).1, fun i x hx => ?_⟩⟩
  have hi := (List.getElem?_eq_some_iff.1 hx).1
  have hkk := k1.2.2 i x hx
  have hl : i * s.sz + s.sz ≤ xs.length * s.sz := by rw [← aK]; exact aS _ hi
  refine ⟨_, Sh.K_len hkk, Sh.K_keep hk hkk, fun j u hu => ?_⟩
  rw [Addr.add_mid, bw]
  refine k3 _ u ?_
  rw [aP] at hu
  split at hu
  ·rw [aV] at hu
   exact hu
  ·cases hu
theorem Cz (hH : HR I w H) : ∀ {k : List EK} {c : Nat} {x : eM (k.map dB)} {cs : List Value}, BC k = true → (∀ n E s xs, el nam0 c (k.map dB) x (fun _ => none) n = some (.row E s xs) → H n = some (.row E s xs)) → CR I w (hU nam0 c (k.map dB) x) cs → CR ⟨fun _ => none, ⟨fun b => b < w.heap.size, I.R.fam⟩⟩ w (ol k x) cs
 | [], c, x, cs, hn, hr, h => by cases h; exact .nil
 | .any :: r, c, x, cs, hn, hr, h => by cases hn
 | .val s :: r, c, x, cs, hn, hr, h => by
  have hk : Keeps I.R ⟨fun b => b < w.heap.size, I.R.fam⟩ w w := ⟨hH.rlt, fun _ _ => rfl, fun _ _ _ h => h⟩
  have h' : CR I w (s.enc x.1 ++ hU nam0 (c + 1) (r.map dB) x.2) cs := h
  obtain ⟨c1, c2, rfl, k1, k2⟩ := Sh.dec_ok (Sh.dec_enc s x.1 _) h'
  exact CR.append (Sh.enc_ok (Sh.K_keep hk k1)) (Cz hH (k := r) (c := c + 1) hn hr k2)
 | .row E s :: r, c, x, cs, hn, hr, h => by
  have h' : CR I w (.rw (nam0.r c) :: hU nam0 (c + 1) (r.map dB) x.2) cs := h
  have hnin : nam0.r c ∉ dh nam0 (c + 1) (r.map dB) := fun h => by
   have := gW h
   have : 100000 + (c + 1) ≤ 100000 + c := this
   omega
  cases h' with | one _ _ u us hv hu hrr =>
  cases hv with | rw _ sz _ h1 h2 =>
  have hrow := hr (nam0.r c) E s x.1 (by
   show el nam0 (c + 1) (r.map dB) x.2 (Heap.set (fun _ => none) (nam0.r c) (some (.row E s x.1))) (nam0.r c) = _
   rw [eD hnin, Heap.set_same])
  have hkk := JE hH hrow h1
  refine .one _ _ _ _ (.vs s x.1 _ hkk) hu (Cz hH (k := r) (c := c + 1) hn (fun n E' s' xs' hn' => hr n E' s' xs' ?_) hrr)
  have hm : n ∈ dh nam0 (c + 1) (r.map dB) := Decidable.byContradiction fun hm => by
   rw [eD hm] at hn'
   cases hn'
  show el nam0 (c + 1) (r.map dB) x.2 (Heap.set (fun _ => none) (nam0.r c) (some (.row E s x.1))) n = _
  rw [fK (H' := fun _ => none) (.inl hm)]
  exact hn'
end
def MW (E : TypeId) (s : Sh) (v : DV) (H : Heap) : Option (List s.T) := match iU H E s v with
 | some (xs, _) => some xs
 | none => none
def FW (cx : Cx) (fuel f d : Nat) (k : List EK) (E : TypeId) (s : Sh) (fn : (oi k).Ty → Option (List s.T)) : Prop := ∀ X, iV cx (fd cx fuel (d + 1)) f d [.pi (ol k X.2.1)] (fun _ => none) (MW E s) = fn X
theorem MX {cx : Cx} {fuel f d : Nat} {k : List EK} {E : TypeId} {s : Sh} {fn : (oi k).Ty → Option (List s.T)} (hg : Good cx) (heq : FW cx fuel f d k E s fn) (hany : BC k = true) (hflat : s.flat = true) : s6 cx.P f ⟨oi k, E, s, fn⟩ := by
 intro I w H A args X m Y hH hA hx hY
 obtain ⟨⟨I0, hL0⟩, hlen, _⟩ := jk (ρ := nam0) hH rfl hx (vals := fun i => args.getD i undef) (fun i => hA.getD i) (gQ I w (oi k) nam0 m) (Cu k)
 have hAl : 1 ≤ args.length := by rw [← hA.length]; exact hlen
 have hH0 : ∀ q, (oi k).H nam0 X (fun _ => none) q = el nam0 1000 (k.map dB) X.2.1 (Heap.set (fun _ => none) 0 (some (.obj (hU nam0 1000 (k.map dB) X.2.1)))) q := by
  intro q
  show el nam0 1000 (k.map dB) X.2.1 (Heap.set (fun _ => none) 0 (some (qz nam0 1000 (k.map dB) X.2.1))) q = _
  rw [wD Ct]
 have h00 : (0 : Nat) ∉ dh nam0 1000 (k.map dB) := fun h => by have := gW h; omega
 obtain ⟨b, c, t, k1, k2, k3⟩ := hL0.hr.obj 0 (hU nam0 1000 (k.map dB) X.2.1) (by rw [hH0, eD h00, Heap.set_same])
 have hv0 : args.getD 0 undef = .pointer (some ⟨b, 0, none⟩) := by
  have h0 : VR I0 w (.ptr 0 0 []) (args.getD 0 undef) := hL0.val 0
  generalize args.getD 0 undef = v at h0
  cases h0 with | ptr _ _ _ b' h1 h2 =>
  rw [k1] at h1
  simp only [ab, Ent.obj.injEq] at h1
  subst h1
  rfl
 have hfz := Cz hL0.hr (k := k) (c := 1000) (x := X.2.1) hany (fun n E s xs hn => by
  have hm : n ∈ dh nam0 1000 (k.map dB) := Decidable.byContradiction fun hm => by
   rw [eD hm] at hn
   cases hn
  rw [hH0, fK (H' := fun _ => none) (.inl hm)]
  exact hn) k3
 have hH1 : HR ⟨fun _ => none, ⟨fun b => b < w.heap.size, I0.R.fam⟩⟩ w fun _ => none := ⟨fun n cs h => (by cases h), fun n E s xs h => (by cases h), fun n ks vs h => (by cases h), fun n t k xs h => (by cases h), fun n h => rfl, fun n e b h => (by cases h), fun n m e e' b h => (by cases h), fun b h => h, fun n m t B B' h => (by cases h)⟩
 have hpi : VR ⟨fun _ => none, ⟨fun b => b < w.heap.size, I0.R.fam⟩⟩ w (.pi (ol k X.2.1)) (args.getD 0 undef) := by
  rw [hv0]
  refine .pi _ ⟨b, 0, none⟩ _ rfl (hL0.hr.lt 0 _ b k1 rfl).1 (rh k X.2.1) hfz fun j u hu => ?_
  rw [Addr.add_mid, bw, qD k2]
  exact hu
 refine Calls.mono (od hg (iv hg fuel (d + 1)) hH1 (A := [.pi (ol k X.2.1)]) (by simpa using hAl) (fun i => by
  cases i with
  | zero => exact hpi
  | succ i => exact .undef _) ((heq X).trans hY)) ?_
 rintro e w' he
 cases e with
 | returned z =>
  obtain ⟨I2, v, H2, h1, h2, h3, h4⟩ := he
  unfold MW at h1
  split at h1
  ·rename_i xs u hu
   simp only [ab] at h1
   subst h1
   obtain ⟨cs, g1, g2, g3, g4⟩ := Cm h3 h4 hu
   refine ⟨GrowW.of (fun n => rfl) h2, g3, ⟨cs, g1, fun R => Sh.K_flat (s := .arr _ s) hflat g2⟩, fun b hb => ?_⟩
   rcases g4 with ⟨_, h5⟩ | ⟨n, sz, v0, _, h5, h6⟩
   ·rw [h5] at hb; cases hb
   ·rw [h6] at hb
    rcases h2.own n _ b h5 hb with ⟨m, e', h7, _⟩ | h7
    ·cases h7
    ·exact h7
  ·cases h1
 | _ => exact he.elim
def Cx.addQR (cx : Cx) (f : FuncId) (S : QR) : Cx := ⟨cx.P, cx.loops, cx.specs, cx.tabs, cx.qs, fun g => if Nat.beq g f then S :: cx.qr g else cx.qr g⟩
theorem Hq {cx : Cx} (h : Good cx) (fuel d : Nat) {f : FuncId} (k : List EK) (E : TypeId) (s : Sh) (fn : (oi k).Ty → Option (List s.T)) (heq : FW cx fuel f d k E s fn) (hany : BC k = true) (hflat : s.flat = true) : Good (cx.bare.addQR f ⟨oi k, E, s, fn⟩) := by
 have hb := h.bare
 refine ⟨hb.specs, hb.loops, hb.pures, hb.tabs, hb.qs, fun g S' hm => ?_⟩
 simp only [Cx.addQR] at hm
 split at hm
 ·rename_i hgf
  have := bK hgf
  subst this
  rcases aB.1 hm with rfl | hm
  ·intro I w H A args X m Y hH hA hX hY
   exact MX h heq hany hflat hH hA hX hY
  ·intro I w H A args X m Y hH hA hX hY
   exact h.qr g S' hm hH hA hX hY
 ·intro I w H A args X m Y hH hA hX hY
  exact h.qr g S' hm hH hA hX hY
def CA (fs : List (TypeId × List EK)) : Heap := fun n => match fs[n]? with
 | some e => some (.fam e.1 e.2 [])
 | none => none
def Sh.nofp : Sh → Bool
 | .int _ | .bool | .str => true
 | .pair a b => a.nofp && b.nofp
 | .sl e => e.nofp
 | .arr _ e => e.nofp
 | .fp _ => false
theorem Sh.K_nofp {R R' : RO} {w w' : World} (hs : ∀ b, R b → R' b) (hw : ∀ b, R b → w'.heap[b]? = w.heap[b]?) : ∀ {s : Sh} {x : s.T} {cs : List Value}, s.nofp = true → s.K R w x cs → s.K R' w' x cs
 | .int _, _, _, _, h => h
 | .bool, _, _, _, h => h
 | .str, _, _, _, h => h
 | .pair a b, x, _, hf, ⟨c1, c2, e, h1, h2⟩ => by
  simp only [Sh.nofp, aj] at hf
  exact ⟨c1, c2, e, K_nofp hs hw hf.1 h1, K_nofp hs hw hf.2 h2⟩
 | .sl e, xs, _, hf, ⟨A, cap, h1, h2, h3⟩ => ⟨A, cap, h1, h2, fun hn => by
   obtain ⟨a, e1, e2, e3, e4⟩ := h3 hn
   refine ⟨a, e1, e2, hs _ e3, fun i x hx => ?_⟩
   obtain ⟨c, g1, g2, g3⟩ := e4 i x hx
   exact ⟨c, g1, K_nofp hs hw (s := e) hf g2, fun j u hu => (kB (by rw [gh]; exact hw _ e3)).trans (g3 j u hu)⟩⟩
 | .fp t, _, _, hf, _ => by cases hf
 | .arr n e, xs, _, hf, ⟨h1, h2, h3⟩ => ⟨h1, h2, fun i x hx => K_nofp hs hw (s := e) hf (h3 i x hx)⟩
def ri : List IK → Bool
 | [] => true
 | .val s :: r => s.nofp && ri r
 | _ => false
theorem O3 {I I' : In} {w w' : World} (hs : ∀ b, I.R b → I'.R b) (hw : ∀ b, I.R b → w'.heap[b]? = w.heap[b]?) {s : Sh} {x : s.T} {v : Value} (hf : s.nofp = true) (h : VR I w (s.val x) v) : VR I' w' (s.val x) v := by
 unfold Sh.val at h ⊢
 split at h
 ·cases h with | agg _ cs hc =>
  obtain ⟨c1, c2, e, k1, k2⟩ := Sh.dec_ok (Sh.dec_enc s x []) (by rw [aG]; exact hc)
  cases k2
  rw [aG] at e
  subst e
  rename_i hm
  rw [if_pos hm]
  exact .agg _ _ (Sh.enc_ok (Sh.K_nofp hs hw hf k1))
 ·rename_i hm
  rw [if_neg hm]
  cases s with
  | int k => cases h with | sc _ h => exact .sc _ h
  | bool => cases h with | sc _ h => exact .sc _ h
  | str => cases h with | sc _ h => exact .sc _ h
  | sl e => cases h with | vs _ _ _ h => exact .vs e x v (Sh.K_nofp hs hw (s := .sl e) hf h)
  | fp t => cases hf
  | pair a b => exact absurd rfl hm
  | arr n e => exact absurd rfl hm
theorem CB {I I' : In} {w w' : World} (hs : ∀ b, I.R b → I'.R b) (hw : ∀ b, I.R b → w'.heap[b]? = w.heap[b]?) {ρ : Nam} : ∀ {ks : List IK} {c : Nat} {x : eM ks} {vals : Nat → Value}, ri ks = true → (∀ i, VR I w ((gZ ρ c ks x).getD i .undef) (vals i)) → ∀ i, VR I' w' ((gZ ρ c ks x).getD i .undef) (vals i)
 | [], c, x, vals, hk, h, i => .undef _
 | .val s :: r, c, x, vals, hk, h, i => by
  simp only [ri, aj] at hk
  cases i with
  | zero => exact O3 hs hw hk.1 (h 0)
  | succ i => exact CB hs hw (ks := r) (c := c + 1) (vals := fun i => vals (i + 1)) hk.2 (fun i => h (i + 1)) i
 | .any :: r, c, x, vals, hk, h, i => by cases hk
 | .row E s :: r, c, x, vals, hk, h, i => by cases hk
 | .agf s F :: r, c, x, vals, hk, h, i => by cases hk
 | .obj j :: r, c, x, vals, hk, h, i => by cases hk
 | .inn j o :: r, c, x, vals, hk, h, i => by cases hk
 | .clo F is :: r, c, x, vals, hk, h, i => by cases hk
 | .tab ks vs :: r, c, x, vals, hk, h, i => by cases hk
 | .fam t k :: r, c, x, vals, hk, h, i => by cases hk
theorem rj : ∀ {ks : List IK}, ri ks = true → gb ks = true
 | [], _ => rfl
 | .val s :: r, h => by
  simp only [ri, aj] at h
  exact rj (ks := r) h.2
 | .any :: r, h => by cases h
 | .row E s :: r, h => by cases h
 | .agf s F :: r, h => by cases h
 | .obj j :: r, h => by cases h
 | .inn j o :: r, h => by cases h
 | .clo F is :: r, h => by cases h
 | .tab ks vs :: r, h => by cases h
 | .fam t k :: r, h => by cases h
def Ae (fs : List (TypeId × List EK)) (r : Nat → Prop) : In := ⟨fun n => match fs[n]? with
 | some e => some (.fam e.1 fun _ _ => False)
 | none => none, ⟨r, fun _ => []⟩⟩
theorem PO {fs : List (TypeId × List EK)} (hd : (fs.map (·.1)).Nodup) (w : World) {r : Nat → Prop} (hr : ∀ b, r b → b < w.heap.size) : HR (Ae fs r) w (CA fs) := by
 have hh : ∀ n b, CA fs n = some b → ∃ e, fs[n]? = some e ∧ b = .fam e.1 e.2 [] := fun n b h => by
  simp only [CA] at h
  split at h
  ·rename_i e he
   exact ⟨e, he, (au h).symm⟩
  ·cases h
 have hi : ∀ n e, (Ae fs r).ι n = some e → ∃ q, fs[n]? = some q ∧ e = .fam q.1 fun _ _ => False := fun n e h => by
  simp only [Ae] at h
  split at h
  ·rename_i q hq
   exact ⟨q, hq, (au h).symm⟩
  ·cases h
 refine HR.of (fun n b h => ?_) (fun n h => ?_) (fun n e b h hb => ?_) (fun n m e e' b h h' hb hb' => ?_) hr (fun n m t B B' h h' => ?_)
 ·obtain ⟨e, he, rfl⟩ := hh n b h
  refine ⟨fun _ _ => False, by simp [Ae, he], rfl, fun i x b hx => by simp at hx, fun i j c h => h.elim, fun i c h => h.elim⟩
 ·simp only [CA] at h
  split at h
  ·cases h
  ·rename_i he
   simp [Ae, he]
 ·obtain ⟨q, _, rfl⟩ := hi n e h
  obtain ⟨i, hb⟩ := hb
  exact hb.elim
 ·obtain ⟨q, _, rfl⟩ := hi n e h
  obtain ⟨i, hb⟩ := hb
  exact hb.elim
 ·obtain ⟨q, hq, e⟩ := hi n _ h
  obtain ⟨q', hq', e'⟩ := hi m _ h'
  simp only [Ent.fam.injEq] at e e'
  have h1 : (fs.map (·.1))[n]? = some t := by rw [bJ, hq, e.1]; rfl
  have h2 : (fs.map (·.1))[m]? = some t := by rw [bJ, hq', e'.1]; rfl
  have hn := (List.getElem?_eq_some_iff.1 h1).1
  exact (List.getElem?_inj hn hd).1 (h1.trans h2.symm)
def FX (cx : Cx) (fuel f d : Nat) (S : FS) (fs : List (TypeId × List EK)) : Prop := ∀ x, iV cx (fd cx fuel (d + 1)) f d (S.tin.T nam0 x) (CA fs) (FP S) = S.fn x
theorem EI {cx : Cx} {fuel f d : Nat} {S : FS} {fs : List (TypeId × List EK)} (hg : Good cx) (heq : FX cx fuel f d S fs) (hoi : ∀ o, S.out (S.inn o) = o) (hd : (fs.map (·.1)).Nodup) (h1 : ri S.tin.ks = true) (h2 : S.tin.os.isEmpty = true) (h3 : ri S.tout.ks = true) (h4 : S.tout.os.isEmpty = true) : hZ cx.P f S := by
 obtain ⟨⟨ks, os⟩, ⟨oks, oos⟩, R, out, inn, fn⟩ := S
 simp only [List.isEmpty_iff] at h2 h4
 subst h2 h4
 have hnames : ∀ (t : List IK) (y : eM t) (ρ : Nam), gb t = true → Tmpl.names ⟨t, []⟩ ρ = [] := by
  intro t y ρ hp
  unfold Tmpl.names
  simp only [f4, aG]
  exact (iC (ρ := ρ) (c := 0) (x := y) (H := fun _ => none) hp).2
 have hfree : ∀ (t : List IK) (y : eM t) (ρ : Nam) (H : Heap), gb t = true → Tmpl.free ⟨t, []⟩ ρ H = true := by
  intro t y ρ H hp
  unfold Tmpl.free
  rw [hnames t y ρ hp]
  rfl
 have hHn : ∀ (t : List IK) (y : eM t × nY []) (ρ : Nam) (H0 : Heap), gb t = true → Tmpl.H ⟨t, []⟩ ρ y H0 = H0 := fun t y ρ H0 hp => by
  unfold Tmpl.H
  simp only [rZ]
  exact (iC hp).1
 have p1 := rj h1
 have p3 := rj h3
 intro α I w H A args ρ κ r X m hH hA hx hρ h
 obtain ⟨Y, hY, hk⟩ := Option.bind_eq_some_iff.1 h
 obtain rfl : m = ⟨[], []⟩ := by
  unfold Tmpl.pr at hx
  split at hx
  ·rename_i x m1 hx1
   obtain ⟨rfl, _⟩ := lY p1 hx1
   simp only [nZ] at hx
   split at hx
   ·simp only [ab, ah] at hx
    exact hx.2.symm
   ·cases hx
  ·cases hx
 obtain ⟨⟨I0, hL0⟩, hlen, _⟩ := jk (ρ := nam0) hH rfl hx (vals := fun i => args.getD i undef) (fun i => hA.getD i) (gQ I w ⟨ks, []⟩ nam0 ⟨[], []⟩) (hfree ks X.1 nam0 _ p1)
 have hle : (Tmpl.T ⟨ks, []⟩ nam0 X).length ≤ args.length := by
  unfold Tmpl.T
  rw [fj, ← hA.length]
  exact hlen
 have hV : ∀ i, VR (Ae fs I.R.r) w ((Tmpl.T ⟨ks, []⟩ nam0 X).getD i .undef) (args.getD i undef) := CB (I := I0) (fun b hb => by rw [hL0.R] at hb; exact hb) (fun b _ => rfl) h1 hL0.val
 have hb := (heq X).trans hY
 refine Calls.mono (od hg (iv hg fuel (d + 1)) (PO hd w hH.rlt) hle hV hb) ?_
 rintro e w' he
 cases e with
 | returned z =>
  obtain ⟨I', v, H', g1, g2, g3, g4⟩ := he
  have hnb : ∀ n e c, (Ae fs I.R.r).ι n = some e → ¬ e.has c := fun n e c hn => by
   simp only [Ae] at hn
   split at hn
   ·simp only [ab] at hn
    subst hn
    rintro ⟨i, h⟩
    exact h
   ·cases hn
  have gw : GrowW w w' := ⟨g2.size, fun b hb => g2.same b hb fun n e hn => hnb n e b hn, g2.os, g2.tape, g2.output⟩
  unfold FP at g1
  split at g1
  ·rename_i l hl
   have p3' : gb (FS.mk ⟨ks, []⟩ ⟨oks, []⟩ R out inn fn).tout.ks = true := p3
   rw [if_pos p3'] at g1
   generalize hs : jS l [] H' = q at g1
   obtain ⟨A1, T1, H1⟩ := q
   simp only at g1
   obtain ⟨us, u1, u2', u3⟩ := re g4 hl
   obtain ⟨I3, h3', h2', u2⟩ := tn g3 u2' hs
   split at g1
   ·rename_i zz m1 hz
    simp only [ab] at g1
    rw [← g1, hoi] at hk
    have he3 := g2.trans h2'
    obtain ⟨⟨I2, hL2⟩, _, _⟩ := jk (ρ := nam0) h3' rfl hz (vals := fun i => us.getD i undef) (fun i => u2.getD i) (gQ I3 w' ⟨oks, []⟩ nam0 m1) (hfree oks zz.1 nam0 _ p3)
    split at hk
    ·have e1 : Tmpl.H ⟨oks, []⟩ ρ zz ((dz [] H).away ⟨[], []⟩) = H := by
      rw [hHn oks zz ρ _ p3]
      rfl
     rw [e1] at hk
     have hT : Tmpl.T ⟨oks, []⟩ ρ zz = Tmpl.T ⟨oks, []⟩ nam0 zz := lZ p3
     rw [hT] at hk
     obtain ⟨q1, q2⟩ := gw.hr hH
     refine ⟨I.grow w w', _, _, _, hk, gw.ext I, q1, u3 (LR.of ?_ (CB (I := I2) (fun b hb => ?_) (fun b _ => rfl) h3 hL2.val)), fun l hl n sz v _ hi => hi⟩
     ·unfold Tmpl.T
      rw [fj, u1]
     ·rw [hL2.R] at hb
      rcases he3.newR b hb with h5 | ⟨n, e, h5, h6⟩ | h5
      ·exact .inl h5
      ·exact absurd h6 (hnb n e b h5)
      ·exact .inr ⟨h5, h3'.rlt b hb⟩
    ·cases hk
   ·cases g1
  ·cases g1
 | _ => exact he.elim
end Go.Proofs.Dk
namespace Go.Proofs.YtipefepnkpoiaaaGreatH
open Go
def cnt (S : Nat → Bool) : Nat → Nat
 | 0 => 0
 | n + 1 => cnt S n + (if S n then 0 else 1)
def don (S : Nat → Bool) (i : Nat) : Nat → Bool := fun j => if j = i then true else S j
theorem cnt_le (S : Nat → Bool) (i : Nat) : ∀ n, n ≤ i → cnt (don S i) n = cnt S n
 | 0, _ => rfl
 | n + 1, h => by
  simp only [cnt]
  rw [cnt_le S i n (by omega)]
  simp [don, show n ≠ i by omega]
theorem cnt_don (S : Nat → Bool) (i : Nat) (hi : S i = false) : ∀ n, i < n → cnt S n = cnt (don S i) n + 1
 | 0, h => by omega
 | n + 1, h => by
  simp only [cnt]
  by_cases e : n = i
  ·subst e
   rw [cnt_le S n n (Nat.le_refl _)]
   simp [don, hi]
  ·rw [cnt_don S i hi n (by omega)]
   simp [don, e]
   omega
theorem oc (S : Nat → Bool) : ∀ n, cnt S n = 0 → ∀ i, i < n → S i = true
 | 0, _, i, hi => by omega
 | n + 1, h, i, hi => by
  simp only [cnt] at h
  by_cases e : i = n
  ·subst e
   cases hs : S i with
   | true => rfl
   | false => rw [hs] at h; simp at h
  ·exact oc S n (by omega) i (by omega)
section
variable {P : Program} {ops : Array Oper} {Q : Exit → Act → World → Prop}
theorem mem_ready' {listed : Array Bool} (hs : listed.size = ops.size) {i : Nat} : i ∈ Region.ready .any ops listed ↔ listed.getD i false = false ∧ ∃ o, ops[i]? = some o ∧ ∀ e ∈ o.after, Region.binds .any e = true → listed.getD e.on false = true := by
 rw [mem_ready]
 constructor
 ·rintro ⟨h, o, ho, ha⟩
  have hlt : i < listed.size := by rw [hs]; exact (Array.getElem?_eq_some_iff.1 ho).1
  exact ⟨by simpa [hlt] using h, o, ho, ha⟩
 ·rintro ⟨h, o, ho, ha⟩
  have hlt : i < listed.size := by rw [hs]; exact (Array.getElem?_eq_some_iff.1 ho).1
  exact ⟨by simpa [hlt] using h, o, ho, ha⟩
theorem all_done (hback : ∀ (i : Nat) (o : Oper), ops[i]? = some o → ∀ e ∈ o.after, e.on < i) (listed : Array Bool) (hs : listed.size = ops.size) (h : Region.ready .any ops listed = []) : ∀ i, i < ops.size → listed.getD i false = true := by
 intro i
 induction i using Nat.strongRecOn with
 | _ i ih =>
  intro hi
  cases hl : listed.getD i false with
  | true => rfl
  | false =>
   exfalso
   have hm : i ∈ Region.ready .any ops listed := by
    rw [mem_ready' hs]
    refine ⟨hl, ops[i], by simp [hi], fun e he _ => ?_⟩
    have hlt := hback i ops[i] (by simp [hi]) e he
    exact ih e.on hlt (by omega)
   rw [h] at hm
   cases hm
theorem wpAny_inv (I : (Nat → Bool) → Act → World → Prop) (hback : ∀ (i : Nat) (o : Oper), ops[i]? = some o → ∀ e ∈ o.after, e.on < i)
  (hstep : ∀ S i o a w, ops[i]? = some o → S i = false → (∀ e ∈ o.after, Region.binds .any e = true → S e.on = true) → I S a w → wpOp P ops Q i (I (don S i)) a w)
  (hend : ∀ S a w, (∀ i, i < ops.size → S i = true) → I S a w → Q .normal a w) :
  ∀ (fuel : Nat) (listed : Array Bool) (a : Act) (w : World), listed.size = ops.size → cnt (fun i => listed.getD i false) ops.size ≤ fuel → I (fun i => listed.getD i false) a w → wpAny P .any ops Q fuel listed a w
 | 0, listed, a, w, hs, hc, hI => by
  have hall := oc _ _ (Nat.le_zero.1 hc)
  refine ⟨?_, hend _ a w hall hI⟩
  cases hr : Region.ready .any ops listed with
  | nil => rfl
  | cons i rs =>
   have hm : i ∈ Region.ready .any ops listed := by rw [hr]; exact List.mem_cons_self
   rw [mem_ready' hs] at hm
   obtain ⟨h1, o, ho, _⟩ := hm
   have := hall i (Array.getElem?_eq_some_iff.1 ho).1
   rw [this] at h1
   cases h1
 | fuel + 1, listed, a, w, hs, hc, hI => by
  refine ⟨fun hr => hend _ a w (all_done hback listed hs hr) hI, fun i hm => ?_⟩
  rw [mem_ready' hs] at hm
  obtain ⟨h1, o, ho, ha⟩ := hm
  have hlt : i < ops.size := (Array.getElem?_eq_some_iff.1 ho).1
  have hS : (fun j => (listed.setIfInBounds i true).getD j false) = don (fun j => listed.getD j false) i := by
   funext j
   simp only [don]
   by_cases e : j = i
   ·subst e
    simp [hs, hlt]
   ·rw [if_neg e, getD_set_ne false (Ne.symm e)]
  refine wpOp_mono (fun a' w' h => ?_) (hstep _ i o a w ho h1 ha hI)
  refine wpAny_inv I hback hstep hend fuel _ a' w' (by simp [hs]) ?_ ?_
  ·rw [hS]
   have := cnt_don (fun j => listed.getD j false) i h1 ops.size hlt
   omega
  ·rw [hS]
   exact h
theorem wp_region_inv {id : Nat} {a : Act} {w : World} (hm : P.follows .mixedOrders = true) (I : (Nat → Bool) → Act → World → Prop) (hback : ∀ (i : Nat) (o : Oper), ops[i]? = some o → ∀ e ∈ o.after, e.on < i)
  (hstep : ∀ S i o a w, ops[i]? = some o → S i = false → (∀ e ∈ o.after, Region.binds .any e = true → S e.on = true) → I S a w → wpOp P ops Q i (I (don S i)) a w)
  (hend : ∀ S a w, (∀ i, i < ops.size → S i = true) → I S a w → Q .normal a w) (h0 : I (fun _ => false) a w.drew) : (Code.region id ops true).wp P Q a w := by
 refine wp_region_any hm (wpAny_inv I hback hstep hend ops.size _ a _ (by simp) ?_ ?_)
 ·have : ∀ (S : Nat → Bool) n, cnt S n ≤ n := by
   intro S n
   induction n with
   | zero => exact Nat.le_refl _
   | succ n ih => simp only [cnt]; split <;> omega
  exact this _ _
 ·have e : (fun i => (Array.replicate ops.size false).getD i false) = fun _ => false := by
   funext i
   by_cases hi : i < ops.size <;> simp [hi]
  rw [e]
  exact h0
end
def backB (ops : Array Oper) : Bool := (List.range ops.size).all fun i => match ops[i]? with | some o => o.after.all (fun e => decide (e.on < i)) | none => true
theorem back_of {ops : Array Oper} (h : backB ops = true) : ∀ (i : Nat) (o : Oper), ops[i]? = some o → ∀ e ∈ o.after, e.on < i := by
 intro i o ho e he
 have hlt : i < ops.size := (Array.getElem?_eq_some_iff.1 ho).1
 have h1 := List.all_eq_true.1 h i (List.mem_range.2 hlt)
 rw [ho] at h1
 have h2 := Array.all_eq_true_iff_forall_mem.1 h1 e he
 exact of_decide_eq_true h2
end Go.Proofs.YtipefepnkpoiaaaGreatH
namespace Go.Proofs.YtipefepnkpoiaaaGreat.E
open Go.RowKit Go.Proofs.YtipefepnkpoiaaaGreatH
theorem blk_cell {w : World} {g : Nat} {t : TypeId} {cs : Array Value} (h : w.heap[g]? = some (.cells cs t (0, 0))) (i : Nat) : w.cell? ⟨g, i, none⟩ = cs[i]? := cell_of_row w g i cs t (0, 0) h
theorem run_store_func {P : Program} {w : World} {a : Addr} {m : Mode} (f : Fn) (x y : Array Value) : (store a (.func f x y) m).run P w = stored P w a (.func f x y) m := run_store P w a _ m rfl
attribute [local go_sem] run_store_func
inductive GK | al (s : ByteArray) | dup | swp | two
def gk (k : Int) : Option (ByteArray × GK) :=
 if k = 1 ∨ k = 11 ∨ k = 13 ∨ k = 15 ∨ k = 17 then some (⟨#[]⟩, .al ⟨#[105]⟩)
 else if k = 12 ∨ k = 14 ∨ k = 16 ∨ k = 18 then some (⟨#[105]⟩, .al ⟨#[]⟩)
 else if k = 2 then some (⟨#[32]⟩, .al ⟨#[]⟩)
 else if k = 3 then some (⟨#[32]⟩, .dup)
 else if k = 4 then some (⟨#[32, 32]⟩, .swp)
 else if k = 5 then some (⟨#[105, 105]⟩, .two)
 else if k = 6 then some (⟨#[105]⟩, .al ⟨#[105]⟩)
 else if k = 7 then some (⟨#[98]⟩, .al ⟨#[98]⟩)
 else if k = 8 ∨ k = 9 then some (⟨#[98, 98]⟩, .al ⟨#[98]⟩)
 else if k = 10 then some (⟨#[98]⟩, .al ⟨#[105]⟩)
 else if k = 20 then some (⟨#[98]⟩, .al ⟨#[]⟩)
 else none
def gfn (BB : Nat) (w : World) (f : Value) : GK → Prop
 | .al s => ∃ p : Nat, BB ≤ p ∧ f = .func (.func 176) #[] #[.pointer (some ⟨p, 0, none⟩)] ∧ w.heap[p]? = some (.cells #[.string s] 9 (0, 0))
 | .dup => f = .func (.func 171) #[] #[]
 | .swp => f = .func (.func 172) #[] #[]
 | .two => f = .func (.func 173) #[] #[]
def Good (BB : Nat) (w : World) (k : Int) (v : Value) : Prop := ∃ t g f, gk k = some (t, g) ∧ v = .agg #[.string t, f] ∧ gfn BB w f g
def KeepC (w w' : World) : Prop := ∀ (k : Nat) (cs : Array Value) (t : TypeId) (sh : Nat × Nat), w.heap[k]? = some (.cells cs t sh) → w'.heap[k]? = some (.cells cs t sh)
theorem KeepC.refl (w : World) : KeepC w w := fun _ _ _ _ h => h
theorem KeepC.trans {a b c : World} (h : KeepC a b) (h2 : KeepC b c) : KeepC a c := fun k cs t sh hk => h2 k cs t sh (h k cs t sh hk)
theorem KeepC.alloc (w : World) (o : Obj) : KeepC w (w.alloc o) := fun k cs t sh hk => by
 have hlt : k < w.heap.size := (Array.getElem?_eq_some_iff.1 hk).1
 rw [Below.heap_alloc _ _ _ hlt]
 exact hk
theorem KeepC.below {w w' : World} (h : Below w.heap.size w w') : KeepC w w' := fun k cs t sh hk => by
 have hlt : k < w.heap.size := (Array.getElem?_eq_some_iff.1 hk).1
 rw [h.block k hlt]
 exact hk
theorem KeepC.map {w w' : World} {b : Nat} {es : Array MapEntry} {c : Nat} (hb : w.heap[b]? = some (.map es c)) (hg : w.grownBy w' (some b)) : KeepC w w' := fun k cs t sh hk => by
 have hlt : k < w.heap.size := (Array.getElem?_eq_some_iff.1 hk).1
 rw [hg.block k hlt (fun e => by injection e with e; subst e; rw [hb] at hk; cases hk)]
 exact hk
theorem gfn_keep {BB : Nat} {w w' : World} (h : KeepC w w') {f : Value} : ∀ {g : GK}, gfn BB w f g → gfn BB w' f g
 | .al s, ⟨p, e0, e, hp⟩ => ⟨p, e0, e, h _ _ _ _ hp⟩
 | .dup, e => e
 | .swp, e => e
 | .two, e => e
theorem Good.keep {BB : Nat} {w w' : World} (h : KeepC w w') {k : Int} {v : Value} : Good BB w k v → Good BB w' k v
 | ⟨t, g, f, e, e2, hg⟩ => ⟨t, g, f, e, e2, gfn_keep h hg⟩
def vp (BB : Nat) : Nat → Option (Nat × (World → Value → Prop))
 | 1 => some (11, (fun W v => Good BB W 1 v))
 | 3 => some (12, (fun W v => Good BB W 11 v))
 | 5 => some (13, (fun W v => Good BB W 13 v))
 | 7 => some (14, (fun W v => Good BB W 15 v))
 | 9 => some (15, (fun W v => Good BB W 17 v))
 | 11 => some (16, (fun W v => Good BB W 12 v))
 | 13 => some (17, (fun W v => Good BB W 14 v))
 | 15 => some (18, (fun W v => Good BB W 16 v))
 | 17 => some (19, (fun W v => Good BB W 18 v))
 | 19 => some (20, (fun W v => gfn BB W v (.al ⟨#[]⟩)))
 | 20 => some (21, (fun W v => Good BB W 2 v))
 | 22 => some (22, (fun W v => Good BB W 3 v))
 | 24 => some (23, (fun W v => Good BB W 4 v))
 | 26 => some (24, (fun W v => Good BB W 5 v))
 | 28 => some (25, (fun W v => gfn BB W v (.al ⟨#[105]⟩)))
 | 29 => some (26, (fun W v => Good BB W 6 v))
 | 31 => some (27, (fun W v => gfn BB W v (.al ⟨#[98]⟩)))
 | 32 => some (28, (fun W v => Good BB W 7 v))
 | 34 => some (29, (fun W v => Good BB W 8 v))
 | 36 => some (30, (fun W v => Good BB W 9 v))
 | 38 => some (31, (fun W v => gfn BB W v (.al ⟨#[105]⟩)))
 | 39 => some (32, (fun W v => Good BB W 10 v))
 | 41 => some (33, (fun W v => gfn BB W v (.al ⟨#[]⟩)))
 | 42 => some (34, (fun W v => Good BB W 20 v))
 | _ => none
def ins : Nat → Option Int
 | 2 => some 1
 | 4 => some 11
 | 6 => some 13
 | 8 => some 15
 | 10 => some 17
 | 12 => some 12
 | 14 => some 14
 | 16 => some 16
 | 18 => some 18
 | 21 => some 2
 | 23 => some 3
 | 25 => some 4
 | 27 => some 5
 | 30 => some 6
 | 33 => some 7
 | 35 => some 8
 | 37 => some 9
 | 40 => some 10
 | 43 => some 20
 | _ => none
def vidx : Nat → Nat
 | 11 => 1
 | 12 => 3
 | 13 => 5
 | 14 => 7
 | 15 => 9
 | 16 => 11
 | 17 => 13
 | 18 => 15
 | 19 => 17
 | 20 => 19
 | 21 => 20
 | 22 => 22
 | 23 => 24
 | 24 => 26
 | 25 => 28
 | 26 => 29
 | 27 => 31
 | 28 => 32
 | 29 => 34
 | 30 => 36
 | 31 => 38
 | 32 => 39
 | 33 => 41
 | 34 => 42
 | _ => 0
def iidx (k : Int) : Nat := if k = 1 then 2 else if k = 11 then 4 else if k = 13 then 6 else if k = 15 then 8 else if k = 17 then 10 else if k = 12 then 12 else if k = 14 then 14 else if k = 16 then 16 else if k = 18 then 18 else if k = 2 then 21 else if k = 3 then 23 else if k = 4 then 25 else if k = 5 then 27 else if k = 6 then 30 else if k = 7 then 33 else if k = 8 then 35 else if k = 9 then 37 else if k = 10 then 40 else if k = 20 then 43 else 0
def RV (v : Value) : Option (DataW Value × List MemPlace) := some (.held v, [])
structure Inv (BB : Nat) (W0 : World) (B1 B2 B3 : Nat) (S : Nat → Bool) (a : Act) (W : World) : Prop where
 base : BB ≤ W0.heap.size
 size : a.tmps.size = 36
 defs : a.defers = []
 keep : KeepC W0 W
 below : Below W0.heap.size W0 W
 s1 : a.eval (.tmp 1) = .pointer (some ⟨B1, 0, none⟩)
 s2 : a.eval (.tmp 2) = .pointer (some ⟨B2, 0, none⟩)
 s3 : a.eval (.tmp 3) = .pointer (some ⟨B3, 0, none⟩)
 vals : ∀ j t p, vp BB j = some (t, p) → S j = true → p W (a.eval (.tmp t))
 made : ∀ j k, ins j = some k → S j = true → S 0 = true
 map : S 0 = true → ∃ (b n : Nat) (D : DataW Value), a.eval (.tmp 10) = .map (some b) ∧ W0.heap.size ≤ b ∧ W.ownsMap Tryz.prog 3 RV b n D ∧ n + cnt S 46 ≤ 46 ∧ ∀ k : Int, (Lit.int .i64 k).wf = true → ((∃ v, (∀ zd, D.atKey (.int .i64 k) zd = .held v) ∧ Good BB W k v ∧ ∃ j, ins j = some k ∧ S j = true) ∨ ((∀ zd, D.atKey (.int .i64 k) zd = zd) ∧ ∀ j, ins j = some k → S j = false))
 mv : S 44 = true → S 0 = true ∧ a.eval (.tmp 35) = a.eval (.tmp 10)
 rs : S 45 = true → S 44 = true ∧ a.eval (.tmp 0) = a.eval (.tmp 35)
theorem eval_put_ne (a : Act) (d t : Nat) (v : Value) (h : d ≠ t) : (a.put (some d) v).eval (.tmp t) = a.eval (.tmp t) := Act.eval_put (fun d' e e2 => by cases e; cases e2; exact h rfl)
theorem eval_put_eq (a : Act) (d : Nat) (v : Value) (h : d < a.tmps.size) : (a.put (some d) v).eval (.tmp d) = v := by
 simp [Act.put, Act.eval, h]
theorem vp_keep {BB : Nat} {w w' : World} (h : KeepC w w') {j t : Nat} {p : World → Value → Prop} (hv : vp BB j = some (t, p)) {v : Value} (hp : p w v) : p w' v := by
 unfold vp at hv
 split at hv <;> first
  | (injection hv with hv; injection hv with h1 h2; subst h2; exact Good.keep h hp)
  | (injection hv with hv; injection hv with h1 h2; subst h2; exact gfn_keep h hp)
  | cases hv
theorem vp_tmp {BB : Nat} {j t : Nat} {p : World → Value → Prop} (hv : vp BB j = some (t, p)) : 11 ≤ t ∧ t ≤ 34 ∧ vidx t = j ∧ 0 < j ∧ j < 44 ∧ ins j = none := by
 unfold vp at hv
 split at hv <;> first
  | (injection hv with hv; injection hv with h1 h2; subst h1; decide)
  | cases hv
theorem ins_idx {BB : Nat} {j : Nat} {k : Int} (hv : ins j = some k) : iidx k = j ∧ 0 < j ∧ j < 44 ∧ vp BB j = none ∧ (Lit.int .i64 k).wf = true := by
 unfold ins at hv
 split at hv <;> first
  | (injection hv with hv; subst hv; exact ⟨by decide, by decide, by decide, rfl, by decide⟩)
  | cases hv
theorem don_ne {S : Nat → Bool} {i j : Nat} (h : i ≠ j) : don S j i = S i := by simp [don, h]
theorem don_eq {S : Nat → Bool} {j : Nat} : don S j j = true := by simp [don]
section
variable {BB : Nat} {W0 W W' : World} {B1 B2 B3 : Nat} {S : Nat → Bool} {a : Act}
theorem Inv.value (h : Inv BB W0 B1 B2 B3 S a W) {j t : Nat} {p : World → Value → Prop} {v : Value} (hv : vp BB j = some (t, p)) (hS : S j = false) (hk : KeepC W W') (hb : Below W0.heap.size W0 W') (hm : ∀ b n D, W.ownsMap Tryz.prog 3 RV b n D → W'.ownsMap Tryz.prog 3 RV b n D) (hp : p W' v) : Inv BB W0 B1 B2 B3 (don S j) (a.put (some t) v) W' := by
 obtain ⟨t1, t2, t3, t4, t5, t6⟩ := vp_tmp hv
 have hne : ∀ x : Nat, x < 11 ∨ 34 < x → (a.put (some t) v).eval (.tmp x) = a.eval (.tmp x) := fun x hx => eval_put_ne a t x v (by omega)
 refine ⟨h.base, by simpa [Act.put] using h.size, h.defs, h.keep.trans hk, hb, (hne 1 (by omega)).trans h.s1, (hne 2 (by omega)).trans h.s2, (hne 3 (by omega)).trans h.s3, ?_, ?_, ?_, ?_, ?_⟩
 ·intro j' t' p' hv' hS'
  by_cases e : j' = j
  ·subst e
   rw [hv] at hv'
   injection hv' with hv'
   injection hv' with e1 e2
   subst e1
   subst e2
   rw [eval_put_eq a t v (by have := h.size; omega)]
   exact hp
  ·rw [don_ne e] at hS'
   rw [eval_put_ne a t t' v (fun e2 => by subst e2; exact e ((vp_tmp hv').2.2.1.symm.trans t3))]
   exact vp_keep hk hv' (h.vals j' t' p' hv' hS')
 ·intro j' k hi hS'
  have e : j' ≠ j := fun e => by subst e; rw [t6] at hi; cases hi
  rw [don_ne e] at hS'
  rw [don_ne (by omega)]
  exact h.made j' k hi hS'
 ·intro h0
  rw [don_ne (by omega)] at h0
  obtain ⟨b, n, D, g1, g2, g3, g4, g5⟩ := h.map h0
  refine ⟨b, n, D, (hne 10 (by omega)).trans g1, g2, hm _ _ _ g3, ?_, fun k hw => ?_⟩
  ·have := cnt_don S j hS 46 (by omega)
   omega
  ·rcases g5 k hw with ⟨x, x1, x2, j', x3, x4⟩ | ⟨x1, x2⟩
   ·exact .inl ⟨x, x1, x2.keep hk, j', x3, by rw [don_ne (fun e => by subst e; rw [t6] at x3; cases x3)]; exact x4⟩
   ·exact .inr ⟨x1, fun j' x3 => by rw [don_ne (fun e => by subst e; rw [t6] at x3; cases x3)]; exact x2 j' x3⟩
 ·intro h0
  rw [don_ne (by omega)] at h0
  rw [don_ne (by omega), hne 35 (by omega), hne 10 (by omega)]
  exact h.mv h0
 ·intro h0
  rw [don_ne (by omega)] at h0
  rw [don_ne (by omega), hne 0 (by omega), hne 35 (by omega)]
  exact h.rs h0
theorem Inv.insert (h : Inv BB W0 B1 B2 B3 S a W) {j : Nat} {k : Int} {v : Value} {b n : Nat} {D : DataW Value} (hi : ins j = some k) (hS : S j = false) (hS0 : S 0 = true) (g1 : a.eval (.tmp 10) = .map (some b)) (g2 : W0.heap.size ≤ b) (g3 : W.ownsMap Tryz.prog 3 RV b n D) (g4 : n + cnt S 46 ≤ 46) (g5 : ∀ k : Int, (Lit.int .i64 k).wf = true → ((∃ v, (∀ zd, D.atKey (.int .i64 k) zd = .held v) ∧ Good BB W k v ∧ ∃ j, ins j = some k ∧ S j = true) ∨ ((∀ zd, D.atKey (.int .i64 k) zd = zd) ∧ ∀ j, ins j = some k → S j = false))) (hg : Good BB W k v)
  (hm : W'.ownsMap Tryz.prog 3 RV b (n + 1) (D.put (.int .i64 k) (.held v))) (hgr : W.grownBy W' (some b)) : Inv BB W0 B1 B2 B3 (don S j) a W' := by
 obtain ⟨t1, t2, t3, t4, t5⟩ := ins_idx (BB := BB) hi
 have hk : KeepC W W' := by
  obtain ⟨es, c, hb, _⟩ := g3
  exact KeepC.map hb hgr
 have hD : Maps.IsMap D := by
  obtain ⟨es, c, hb, _, _, e⟩ := g3
  exact ⟨_, e⟩
 refine ⟨h.base, h.size, h.defs, h.keep.trans hk, h.below.grown hgr h.below.size (fun j hj => by cases hj; exact g2), h.s1, h.s2, h.s3, ?_, ?_, ?_, ?_, ?_⟩
 ·intro j' t' p' hv' hS'
  rw [don_ne (fun e => by subst e; rw [t4] at hv'; cases hv')] at hS'
  exact vp_keep hk hv' (h.vals j' t' p' hv' hS')
 ·intro j' k' hi' hS'
  rw [don_ne (by omega)]
  exact hS0
 ·intro _
  refine ⟨b, n + 1, _, g1, g2, hm, ?_, fun k' hw => ?_⟩
  ·have := cnt_don S j hS 46 (by omega)
   omega
  ·by_cases e : k' = k
   ·subst e
    exact .inl ⟨v, fun zd => Maps.atKey_put_same hD (by first | exact trivial | simp [WideAt.IsKeyLit]) _ zd, hg.keep hk, j, hi, don_eq⟩
   ·have hne : (Lit.int IntKind.i64 k') ≠ .int .i64 k := fun e2 => e (by injection e2)
    rcases g5 k' hw with ⟨x, x1, x2, j', x3, x4⟩ | ⟨x1, x2⟩
    ·refine .inl ⟨x, fun zd => (Maps.atKey_put_other hne _ zd).trans (x1 zd), x2.keep hk, j', x3, ?_⟩
     rw [don_ne (fun e2 => by subst e2; rw [hi] at x3; injection x3 with x3; exact e x3.symm)]
     exact x4
    ·refine .inr ⟨fun zd => (Maps.atKey_put_other hne _ zd).trans (x1 zd), fun j' x3 => ?_⟩
     rw [don_ne (fun e2 => by subst e2; rw [hi] at x3; injection x3 with x3; exact e x3.symm)]
     exact x2 j' x3
 ·intro h0
  rw [don_ne (by omega)] at h0 ⊢
  exact h.mv h0
 ·intro h0
  rw [don_ne (by omega)] at h0 ⊢
  exact h.rs h0
end
theorem wpOp_of {P : Program} {ops : Array Oper} {Q : Exit → Act → World → Prop} {i : Nat} {o : Oper} {a : Act} {w : World} {K : Act → World → Prop} (ho : ops[i]? = some o) (hg : o.guard = none) (h : o.wp P a w K Q) : wpOp P ops Q i K a w := by
 unfold wpOp
 rw [ho]
 have hw : Region.wanted o (yielded ops a.tmps) = true := by simp [Region.wanted, hg]
 simp only [hw, if_true]
 exact .inl h
set_option maxHeartbeats 8000000 in
set_option maxRecDepth 100000 in
theorem always_calls (s : ByteArray) (w : World) : Calls Tryz.prog 170 #[.string s] w fun e w' => e = .returned (.func (.func 176) #[] #[.pointer (some ⟨w.heap.size, 0, none⟩)]) ∧ w' = w.alloc (.cells #[.string s] 9) := by
 go_enter Tryz.func170, Tryz.ntmps170
 go_wp2
 go_ret
 exact ⟨rfl, rfl⟩
section
variable {BB : Nat} {W0 W : World} {B1 B2 B3 : Nat} {S : Nat → Bool} {a : Act} {ops : Array Oper} {o : Oper} {Q : Exit → Act → World → Prop}
theorem st_load {j t s B : Nat} {k : Int} {x y : Value} (h : Inv BB W0 B1 B2 B3 S a W) (ho : ops[j]? = some o) (hop : o.op = .load 196 (.tmp s)) (hd : o.dst = some t) (hg : o.guard = none) (hs : a.eval (.tmp s) = .pointer (some ⟨B, 0, none⟩)) (hB : W0.heap[B]? = some (.cells #[x, y] 196 (0, 0))) (hv : vp BB j = some (t, fun W v => Good BB W k v)) (hS : S j = false) (hgd : Good BB W0 k (.agg #[x, y])) : wpOp Tryz.prog ops Q j (Inv BB W0 B1 B2 B3 (don S j)) a W := by
 have hBW := h.keep B _ _ _ hB
 have hx0 : W.cell? ⟨B, 0, none⟩ = some x := (blk_cell hBW 0).trans rfl
 have hx1 : W.cell? ⟨B, 1, none⟩ = some y := (blk_cell hBW 1).trans rfl
 have hu := Tryz.underlying196
 have hI := h.value hv hS (KeepC.refl W) h.below (fun _ _ _ hm => hm) (hgd.keep h.keep)
 refine wpOp_of ho hg ?_
 unfold Oper.wp
 simp only [execOp, hop, hs, hd]
 go_simp
 first | exact hI | trace_state
theorem st_call {j t : Nat} {s : ByteArray} (h : Inv BB W0 B1 B2 B3 S a W) (ho : ops[j]? = some o) (hop : o.op = .call { callee := .value (.func 170), args := #[.const (.string s)], argTypes := #[9] }) (hd : o.dst = some t) (hg : o.guard = none) (hv : vp BB j = some (t, fun W v => gfn BB W v (.al s))) (hS : S j = false) : wpOp Tryz.prog ops Q j (Inv BB W0 B1 B2 B3 (don S j)) a W := by
 refine wpOp_of ho hg ?_
 unfold Oper.wp
 have hrun : (execOp a.eval o).run Tryz.prog W = .ok (.enter 170 #[.string s]) W := by
  simp only [execOp, hop]
  go_simp
 rw [hrun]
 refine (always_calls s W).mono ?_
 rintro e w' ⟨rfl, rfl⟩
 rw [hd]
 exact h.value hv hS (KeepC.alloc W _) (h.below.alloc h.below.size _) (fun _ _ _ hm => hm.alloc _) ⟨W.heap.size, Nat.le_trans h.base h.below.size, rfl, Go.heap_alloc_new W _⟩
theorem st_build {j t : Nat} {k : Int} {F : Fn} {xs ys : Array Value} {x : Operand} {tk : ByteArray} (h : Inv BB W0 B1 B2 B3 S a W) (ho : ops[j]? = some o) (hop : o.op = .build 196 #[(0, .const (.string tk)), (1, x)]) (hd : o.dst = some t) (hg : o.guard = none) (hx : a.eval x = .func F xs ys) (hv : vp BB j = some (t, fun W v => Good BB W k v)) (hS : S j = false) (hgd : Good BB W k (.agg #[.string tk, .func F xs ys])) : wpOp Tryz.prog ops Q j (Inv BB W0 B1 B2 B3 (don S j)) a W := by
 have hu := Tryz.underlying196
 have hI := h.value hv hS (KeepC.refl W) h.below (fun _ _ _ hm => hm) hgd
 refine wpOp_of ho hg ?_
 unfold Oper.wp
 have hrun : (execOp a.eval o).run Tryz.prog W = .ok (.value (.agg #[.string tk, .func F xs ys])) W := by
  have hc : ∀ v, a.eval (.const v) = v := fun _ => rfl
  generalize a.eval = ρ at hx hc
  simp only [execOp, hop]
  go_simp
 rw [hrun]
 show Inv BB W0 B1 B2 B3 (don S j) (a.put o.dst _) W
 rw [hd]
 exact hI
theorem st_ins {j t jv : Nat} {k : Int} (h : Inv BB W0 B1 B2 B3 S a W) (ho : ops[j]? = some o) (hop : o.op = .insert 197 (.tmp 10) (.const (.int .i64 k)) (.tmp t)) (hd : o.dst = none) (hg : o.guard = none) (hi : ins j = some k) (hS : S j = false) (hS0 : S 0 = true) (hv : vp BB jv = some (t, fun W v => Good BB W k v)) (hSv : S jv = true) : wpOp Tryz.prog ops Q j (Inv BB W0 B1 B2 B3 (don S j)) a W := by
 obtain ⟨b, n, D, g1, g2, g3, g4, g5⟩ := h.map hS0
 have hgd := h.vals jv t _ hv hSv
 obtain ⟨t1, t2, t3, t4, t5⟩ := ins_idx (BB := BB) hi
 have hkey : keyOf Tryz.prog 3 (.int .i64 k) = some (.int .i64 k) := Maps.keyOf_int_mk Tryz.underlying3 t5
 obtain ⟨w', hrun, r1, r2⟩ := g3.update (Maps.int_keyed Tryz.underlying3) Tryz.underlying197 (by unfold maxLen; omega) hkey (val := a.eval (.tmp t)) (ps := []) rfl
 refine wpOp_of ho hg ?_
 unfold Oper.wp
 simp [execOp, hop, g1, hrun, Result.andThen, BigFrame.eval_const]
 show Inv BB W0 B1 B2 B3 (don S j) (a.put o.dst undef) w'
 rw [hd]
 exact h.insert hi hS hS0 g1 g2 g3 g4 g5 hgd r1 r2
end
theorem cnt_max (S : Nat → Bool) : ∀ n, cnt S n ≤ n
 | 0 => Nat.le_refl _
 | n + 1 => by
  have := cnt_max S n
  simp only [cnt]
  split <;> omega
theorem gk_ins {k : Int} (h : gk k ≠ none) : ∃ j, ins j = some k := by
 unfold gk at h
 repeat' split at h
 all_goals first
  | exact absurd rfl h
  | (rename_i hk; rcases hk with rfl | rfl | rfl | rfl | rfl <;> first | exact ⟨2, rfl⟩ | exact ⟨4, rfl⟩ | exact ⟨6, rfl⟩ | exact ⟨8, rfl⟩ | exact ⟨10, rfl⟩)
  | (rename_i hk; rcases hk with rfl | rfl | rfl | rfl <;> first | exact ⟨12, rfl⟩ | exact ⟨14, rfl⟩ | exact ⟨16, rfl⟩ | exact ⟨18, rfl⟩)
  | (rename_i hk; rcases hk with rfl | rfl <;> first | exact ⟨35, rfl⟩ | exact ⟨37, rfl⟩)
  | (rename_i hk; subst hk; first | exact ⟨21, rfl⟩ | exact ⟨23, rfl⟩ | exact ⟨25, rfl⟩ | exact ⟨27, rfl⟩ | exact ⟨30, rfl⟩ | exact ⟨33, rfl⟩ | exact ⟨40, rfl⟩ | exact ⟨43, rfl⟩)
section
variable {BB : Nat} {W0 W : World} {B1 B2 B3 : Nat} {S : Nat → Bool} {a : Act} {ops : Array Oper} {o : Oper} {Q : Exit → Act → World → Prop}
theorem st_make (h : Inv BB W0 B1 B2 B3 S a W) (ho : ops[0]? = some o) (hop : o.op = .makeMap 197 none) (hd : o.dst = some 10) (hg : o.guard = none) (hS : S 0 = false) : wpOp Tryz.prog ops Q 0 (Inv BB W0 B1 B2 B3 (don S 0)) a W := by
 have hmm := @run_makeMap Tryz.prog
 refine wpOp_of ho hg ?_
 have hrun : (execOp a.eval o).run Tryz.prog W = .ok (.value (.map (some W.heap.size))) (W.alloc (.map #[] 0)) := by
  simp only [execOp, hop]
  go_simp
 unfold Oper.wp
 rw [hrun]
 show Inv BB W0 B1 B2 B3 (don S 0) (a.put o.dst _) _
 rw [hd]
 have hno : ∀ j k, ins j = some k → S j = false := fun j k hi => by
  cases hj : S j with
  | false => rfl
  | true => have := h.made j k hi hj; rw [hS] at this; cases this
 have h44 : S 44 = false := by
  cases hj : S 44 with
  | false => rfl
  | true => have := (h.mv hj).1; rw [hS] at this; cases this
 have h45 : S 45 = false := by
  cases hj : S 45 with
  | false => rfl
  | true => have := (h.rs hj).1; rw [h44] at this; cases this
 have hne : ∀ x : Nat, x ≠ 10 → (a.put (some 10) (.map (some W.heap.size))).eval (.tmp x) = a.eval (.tmp x) := fun x hx => eval_put_ne a 10 x _ (by omega)
 refine ⟨h.base, by simpa [Act.put] using h.size, h.defs, h.keep.trans (KeepC.alloc W _), h.below.alloc h.below.size _, (hne 1 (by omega)).trans h.s1, (hne 2 (by omega)).trans h.s2, (hne 3 (by omega)).trans h.s3, ?_, ?_, ?_, ?_, ?_⟩
 ·intro j t p hv hSj
  obtain ⟨t1, t2, t3, t4, t5, t6⟩ := vp_tmp hv
  rw [don_ne (by omega)] at hSj
  rw [hne t (by omega)]
  exact vp_keep (KeepC.alloc W _) hv (h.vals j t p hv hSj)
 ·intro j k hi hSj
  exact don_eq
 ·intro _
  refine ⟨W.heap.size, 0, .map [], eval_put_eq a 10 _ (by have := h.size; omega), h.below.size, World.ownsMap_made _ _ _ _, by have := cnt_max (don S 0) 46; omega, fun k hw => .inr ⟨fun zd => rfl, fun j hi => ?_⟩⟩
  rw [don_ne (by have := ins_idx (BB := BB) hi; omega)]
  exact hno j k hi
 ·intro h0
  rw [don_ne (by omega), h44] at h0
  cases h0
 ·intro h0
  rw [don_ne (by omega), h45] at h0
  cases h0
theorem st_move (h : Inv BB W0 B1 B2 B3 S a W) (ho : ops[44]? = some o) (hop : o.op = .move (.tmp 10)) (hd : o.dst = some 35) (hg : o.guard = none) (hS : S 44 = false) (hS0 : S 0 = true) : wpOp Tryz.prog ops Q 44 (Inv BB W0 B1 B2 B3 (don S 44)) a W := by
 refine wpOp_of ho hg ?_
 have hrun : (execOp a.eval o).run Tryz.prog W = .ok (.value (a.eval (.tmp 10))) W := by
  simp only [execOp, hop]
  go_simp
 unfold Oper.wp
 rw [hrun]
 show Inv BB W0 B1 B2 B3 (don S 44) (a.put o.dst _) _
 rw [hd]
 have h45 : S 45 = false := by
  cases hj : S 45 with
  | false => rfl
  | true => have := (h.rs hj).1; rw [hS] at this; cases this
 have hne : ∀ x : Nat, x ≠ 35 → (a.put (some 35) (a.eval (.tmp 10))).eval (.tmp x) = a.eval (.tmp x) := fun x hx => eval_put_ne a 35 x _ (by omega)
 refine ⟨h.base, by simpa [Act.put] using h.size, h.defs, h.keep, h.below, (hne 1 (by omega)).trans h.s1, (hne 2 (by omega)).trans h.s2, (hne 3 (by omega)).trans h.s3, ?_, ?_, ?_, ?_, ?_⟩
 ·intro j t p hv hSj
  obtain ⟨t1, t2, t3, t4, t5, t6⟩ := vp_tmp hv
  rw [don_ne (by omega)] at hSj
  rw [hne t (by omega)]
  exact h.vals j t p hv hSj
 ·intro j k hi hSj
  rw [don_ne (by omega)]
  exact hS0
 ·intro h0
  obtain ⟨b, n, D, g1, g2, g3, g4, g5⟩ := h.map hS0
  refine ⟨b, n, D, (hne 10 (by omega)).trans g1, g2, g3, by have := cnt_don S 44 hS 46 (by omega); omega, fun k hw => ?_⟩
  rcases g5 k hw with ⟨x, x1, x2, j', x3, x4⟩ | ⟨x1, x2⟩
  ·exact .inl ⟨x, x1, x2, j', x3, by rw [don_ne (by have := ins_idx (BB := BB) x3; omega)]; exact x4⟩
  ·exact .inr ⟨x1, fun j' x3 => by rw [don_ne (by have := ins_idx (BB := BB) x3; omega)]; exact x2 j' x3⟩
 ·intro _
  rw [don_ne (by omega)]
  exact ⟨hS0, by rw [eval_put_eq a 35 _ (by have := h.size; omega), hne 10 (by omega)]⟩
 ·intro h0
  rw [don_ne (by omega), h45] at h0
  cases h0
theorem st_res (h : Inv BB W0 B1 B2 B3 S a W) (ho : ops[45]? = some o) (hop : o.op = .assign (.tmp 35)) (hd : o.dst = some 0) (hg : o.guard = none) (hS : S 45 = false) (hS44 : S 44 = true) : wpOp Tryz.prog ops Q 45 (Inv BB W0 B1 B2 B3 (don S 45)) a W := by
 refine wpOp_of ho hg ?_
 have hrun : (execOp a.eval o).run Tryz.prog W = .ok (.value (a.eval (.tmp 35))) W := by
  simp only [execOp, hop]
  go_simp
 unfold Oper.wp
 rw [hrun]
 show Inv BB W0 B1 B2 B3 (don S 45) (a.put o.dst _) _
 rw [hd]
 have hS0 := (h.mv hS44).1
 have hne : ∀ x : Nat, x ≠ 0 → (a.put (some 0) (a.eval (.tmp 35))).eval (.tmp x) = a.eval (.tmp x) := fun x hx => eval_put_ne a 0 x _ (by omega)
 refine ⟨h.base, by simpa [Act.put] using h.size, h.defs, h.keep, h.below, (hne 1 (by omega)).trans h.s1, (hne 2 (by omega)).trans h.s2, (hne 3 (by omega)).trans h.s3, ?_, ?_, ?_, ?_, ?_⟩
 ·intro j t p hv hSj
  obtain ⟨t1, t2, t3, t4, t5, t6⟩ := vp_tmp hv
  rw [don_ne (by omega)] at hSj
  rw [hne t (by omega)]
  exact h.vals j t p hv hSj
 ·intro j k hi hSj
  rw [don_ne (by omega)]
  exact hS0
 ·intro h0
  obtain ⟨b, n, D, g1, g2, g3, g4, g5⟩ := h.map hS0
  refine ⟨b, n, D, (hne 10 (by omega)).trans g1, g2, g3, by have := cnt_don S 45 hS 46 (by omega); omega, fun k hw => ?_⟩
  rcases g5 k hw with ⟨x, x1, x2, j', x3, x4⟩ | ⟨x1, x2⟩
  ·exact .inl ⟨x, x1, x2, j', x3, by rw [don_ne (by have := ins_idx (BB := BB) x3; omega)]; exact x4⟩
  ·exact .inr ⟨x1, fun j' x3 => by rw [don_ne (by have := ins_idx (BB := BB) x3; omega)]; exact x2 j' x3⟩
 ·intro _
  rw [don_ne (by omega), hne 35 (by omega), hne 10 (by omega)]
  exact h.mv hS44
 ·intro _
  rw [don_ne (by omega)]
  exact ⟨hS44, by rw [eval_put_eq a 0 _ (by have := h.size; omega), hne 35 (by omega)]⟩
end
end Go.Proofs.YtipefepnkpoiaaaGreat.E
namespace Go.Proofs.YtipefepnkpoiaaaGreat.E
open Go.RowKit Go.Proofs.YtipefepnkpoiaaaGreatH
attribute [local go_sem] run_store_func
theorem below_alloc {w W : World} (h : Below w.heap.size w W) (o : Obj) : Below w.heap.size w (W.alloc o) := h.alloc h.size o
theorem below_drew {B : Nat} {w W : World} (h : Below B w W) : Below B w W.drew := h.drew
theorem alloc_at {w W : World} {o : Obj} {n : Nat} (hn : W.heap.size = n) : (W.alloc o).heap[n]? = some o := by
 subst hn
 exact Go.heap_alloc_new W o
theorem alloc_sz {W : World} {o : Obj} {n : Nat} (hn : W.heap.size = n) : (W.alloc o).heap.size = n + 1 := by rw [World.size_alloc, hn]
theorem alloc_old {W : World} {o o2 : Obj} {n m : Nat} (hn : W.heap.size = n) (hm : m < n) (h : W.heap[m]? = some o2) : (W.alloc o).heap[m]? = some o2 := by
 rw [Below.heap_alloc _ _ _ (by omega)]
 exact h
theorem alloc6 (w : World) (o0 o1 o2 o3 o4 o5 : Obj) (W0 : World) (e : W0 = (((((w.alloc o0).alloc o1).alloc o2).alloc o3).alloc o4).alloc o5) : W0.heap[w.heap.size]? = some o0 ∧ W0.heap[w.heap.size + 1]? = some o1 ∧ W0.heap[w.heap.size + 1 + 1]? = some o2 ∧ W0.heap[w.heap.size + 1 + 1 + 1]? = some o3 ∧ W0.heap[w.heap.size + 1 + 1 + 1 + 1]? = some o4 ∧ W0.heap[w.heap.size + 1 + 1 + 1 + 1 + 1]? = some o5 := by
 subst e
 have e0 : w.heap.size = w.heap.size := rfl
 have e1 := alloc_sz (o := o0) e0
 have e2 := alloc_sz (o := o1) e1
 have e3 := alloc_sz (o := o2) e2
 have e4 := alloc_sz (o := o3) e3
 have e5 := alloc_sz (o := o4) e4
 refine ⟨?_, ?_, ?_, ?_, ?_, Go.Proofs.YtipefepnkpoiaaaGreat.E.alloc_at (w := w) e5⟩
 ·exact alloc_old e5 (by omega) (alloc_old e4 (by omega) (alloc_old e3 (by omega) (alloc_old e2 (by omega) (alloc_old e1 (by omega) (alloc_at (w := w) e0)))))
 ·exact alloc_old e5 (by omega) (alloc_old e4 (by omega) (alloc_old e3 (by omega) (alloc_old e2 (by omega) (alloc_at (w := w) e1))))
 ·exact alloc_old e5 (by omega) (alloc_old e4 (by omega) (alloc_old e3 (by omega) (alloc_at (w := w) e2)))
 ·exact alloc_old e5 (by omega) (alloc_old e4 (by omega) (alloc_at (w := w) e3))
 ·exact alloc_old e5 (by omega) (alloc_at (w := w) e4)
set_option maxHeartbeats 8000000 in
set_option maxRecDepth 100000 in
theorem effects_calls (w : World) : Calls Tryz.prog 154 #[] w fun e w' => ∃ (b n : Nat) (D : DataW Value), e = .returned (.map (some b)) ∧ w.heap.size ≤ b ∧ Below w.heap.size w w' ∧ w'.ownsMap Tryz.prog 3 RV b n D ∧ ∀ k : Int, (Lit.int .i64 k).wf = true → ((∃ v, (∀ zd, D.atKey (.int .i64 k) zd = .held v) ∧ Good w.heap.size w' k v) ∨ (gk k = none ∧ ∀ zd, D.atKey (.int .i64 k) zd = zd)) := by
 have hu196 := Tryz.underlying196
 go_enter Tryz.func154, Tryz.ntmps154
 go_wp2
 have HW : ∀ W0 : World, W0 = ((((((w.alloc (.cells #[.string ⟨#[105]⟩] 9)).alloc (.cells #[.string ⟨#[]⟩] 9)).alloc (.cells #[.string ⟨#[]⟩, .func (.func 176) #[] #[.pointer (some ⟨w.heap.size, 0, none⟩)]] 196)).alloc (.cells #[.string ⟨#[105]⟩, .func (.func 176) #[] #[.pointer (some ⟨w.heap.size + 1, 0, none⟩)]] 196)).alloc (.cells #[.string ⟨#[98]⟩] 9)).alloc (.cells #[.string ⟨#[98, 98]⟩, .func (.func 176) #[] #[.pointer (some ⟨w.heap.size + 1 + 1 + 1 + 1, 0, none⟩)]] 196)) → Below w.heap.size w W0 ∧ W0.heap[w.heap.size]? = some (.cells #[.string ⟨#[105]⟩] 9 (0, 0)) ∧ W0.heap[w.heap.size + 1]? = some (.cells #[.string ⟨#[]⟩] 9 (0, 0)) ∧ W0.heap[w.heap.size + 1 + 1]? = some (.cells #[.string ⟨#[]⟩, .func (.func 176) #[] #[.pointer (some ⟨w.heap.size, 0, none⟩)]] 196 (0, 0)) ∧ W0.heap[w.heap.size + 1 + 1 + 1]? = some (.cells #[.string ⟨#[105]⟩, .func (.func 176) #[] #[.pointer (some ⟨w.heap.size + 1, 0, none⟩)]] 196 (0, 0)) ∧ W0.heap[w.heap.size + 1 + 1 + 1 + 1]? = some (.cells #[.string ⟨#[98]⟩] 9 (0, 0)) ∧ W0.heap[w.heap.size + 1 + 1 + 1 + 1 + 1]? = some (.cells #[.string ⟨#[98, 98]⟩, .func (.func 176) #[] #[.pointer (some ⟨w.heap.size + 1 + 1 + 1 + 1, 0, none⟩)]] 196 (0, 0)) := by
  rintro W0 e
  refine ⟨?_, alloc6 w _ _ _ _ _ _ W0 e⟩
  subst e
  repeat (first | exact Below.refl _ _ | refine below_alloc ?_ _)
 obtain ⟨qb, q0, q1, q2, q3, q4, q5⟩ := HW _ rfl
 clear HW
 generalize ((((((w.alloc (.cells #[.string ⟨#[105]⟩] 9)).alloc (.cells #[.string ⟨#[]⟩] 9)).alloc (.cells #[.string ⟨#[]⟩, .func (.func 176) #[] #[.pointer (some ⟨w.heap.size, 0, none⟩)]] 196)).alloc (.cells #[.string ⟨#[105]⟩, .func (.func 176) #[] #[.pointer (some ⟨w.heap.size + 1, 0, none⟩)]] 196)).alloc (.cells #[.string ⟨#[98]⟩] 9)).alloc (.cells #[.string ⟨#[98, 98]⟩, .func (.func 176) #[] #[.pointer (some ⟨w.heap.size + 1 + 1 + 1 + 1, 0, none⟩)]] 196)) = W0 at *
 refine wp_region_inv (by kernel_rfl) (Inv w.heap.size W0 (w.heap.size + 1 + 1) (w.heap.size + 1 + 1 + 1) (w.heap.size + 1 + 1 + 1 + 1 + 1)) ?_ ?_ ?_ ?_
 ·exact back_of (by kernel_rfl)
 ·intro S i o a W ho hS ha hI
  have hlt : i < 46 := (Array.getElem?_eq_some_iff.1 ho).1
  have hcs : i = 0 ∨ i = 1 ∨ i = 2 ∨ i = 3 ∨ i = 4 ∨ i = 5 ∨ i = 6 ∨ i = 7 ∨ i = 8 ∨ i = 9 ∨ i = 10 ∨ i = 11 ∨ i = 12 ∨ i = 13 ∨ i = 14 ∨ i = 15 ∨ i = 16 ∨ i = 17 ∨ i = 18 ∨ i = 19 ∨ i = 20 ∨ i = 21 ∨ i = 22 ∨ i = 23 ∨ i = 24 ∨ i = 25 ∨ i = 26 ∨ i = 27 ∨ i = 28 ∨ i = 29 ∨ i = 30 ∨ i = 31 ∨ i = 32 ∨ i = 33 ∨ i = 34 ∨ i = 35 ∨ i = 36 ∨ i = 37 ∨ i = 38 ∨ i = 39 ∨ i = 40 ∨ i = 41 ∨ i = 42 ∨ i = 43 ∨ i = 44 ∨ i = 45 := by omega
  rcases hcs with rfl | rfl | rfl | rfl | rfl | rfl | rfl | rfl | rfl | rfl | rfl | rfl | rfl | rfl | rfl | rfl | rfl | rfl | rfl | rfl | rfl | rfl | rfl | rfl | rfl | rfl | rfl | rfl | rfl | rfl | rfl | rfl | rfl | rfl | rfl | rfl | rfl | rfl | rfl | rfl | rfl | rfl | rfl | rfl | rfl | rfl
  ·obtain rfl := Option.some.inj ho
   exact st_make hI ho rfl rfl rfl hS
  ·obtain rfl := Option.some.inj ho
   exact st_load hI ho rfl rfl rfl hI.s1 q2 rfl hS ⟨_, _, _, rfl, rfl, ⟨_, Nat.le_refl _, rfl, q0⟩⟩
  ·obtain rfl := Option.some.inj ho
   exact st_ins hI ho rfl rfl rfl rfl hS (ha ⟨0, .data⟩ (by simp) rfl) (jv := 1) rfl (ha ⟨1, .data⟩ (by simp) rfl)
  ·obtain rfl := Option.some.inj ho
   exact st_load hI ho rfl rfl rfl hI.s1 q2 rfl hS ⟨_, _, _, rfl, rfl, ⟨_, Nat.le_refl _, rfl, q0⟩⟩
  ·obtain rfl := Option.some.inj ho
   exact st_ins hI ho rfl rfl rfl rfl hS (ha ⟨0, .data⟩ (by simp) rfl) (jv := 3) rfl (ha ⟨3, .data⟩ (by simp) rfl)
  ·obtain rfl := Option.some.inj ho
   exact st_load hI ho rfl rfl rfl hI.s1 q2 rfl hS ⟨_, _, _, rfl, rfl, ⟨_, Nat.le_refl _, rfl, q0⟩⟩
  ·obtain rfl := Option.some.inj ho
   exact st_ins hI ho rfl rfl rfl rfl hS (ha ⟨0, .data⟩ (by simp) rfl) (jv := 5) rfl (ha ⟨5, .data⟩ (by simp) rfl)
  ·obtain rfl := Option.some.inj ho
   exact st_load hI ho rfl rfl rfl hI.s1 q2 rfl hS ⟨_, _, _, rfl, rfl, ⟨_, Nat.le_refl _, rfl, q0⟩⟩
  ·obtain rfl := Option.some.inj ho
   exact st_ins hI ho rfl rfl rfl rfl hS (ha ⟨0, .data⟩ (by simp) rfl) (jv := 7) rfl (ha ⟨7, .data⟩ (by simp) rfl)
  ·obtain rfl := Option.some.inj ho
   exact st_load hI ho rfl rfl rfl hI.s1 q2 rfl hS ⟨_, _, _, rfl, rfl, ⟨_, Nat.le_refl _, rfl, q0⟩⟩
  ·obtain rfl := Option.some.inj ho
   exact st_ins hI ho rfl rfl rfl rfl hS (ha ⟨0, .data⟩ (by simp) rfl) (jv := 9) rfl (ha ⟨9, .data⟩ (by simp) rfl)
  ·obtain rfl := Option.some.inj ho
   exact st_load hI ho rfl rfl rfl hI.s2 q3 rfl hS ⟨_, _, _, rfl, rfl, ⟨_, by omega, rfl, q1⟩⟩
  ·obtain rfl := Option.some.inj ho
   exact st_ins hI ho rfl rfl rfl rfl hS (ha ⟨0, .data⟩ (by simp) rfl) (jv := 11) rfl (ha ⟨11, .data⟩ (by simp) rfl)
  ·obtain rfl := Option.some.inj ho
   exact st_load hI ho rfl rfl rfl hI.s2 q3 rfl hS ⟨_, _, _, rfl, rfl, ⟨_, by omega, rfl, q1⟩⟩
  ·obtain rfl := Option.some.inj ho
   exact st_ins hI ho rfl rfl rfl rfl hS (ha ⟨0, .data⟩ (by simp) rfl) (jv := 13) rfl (ha ⟨13, .data⟩ (by simp) rfl)
  ·obtain rfl := Option.some.inj ho
   exact st_load hI ho rfl rfl rfl hI.s2 q3 rfl hS ⟨_, _, _, rfl, rfl, ⟨_, by omega, rfl, q1⟩⟩
  ·obtain rfl := Option.some.inj ho
   exact st_ins hI ho rfl rfl rfl rfl hS (ha ⟨0, .data⟩ (by simp) rfl) (jv := 15) rfl (ha ⟨15, .data⟩ (by simp) rfl)
  ·obtain rfl := Option.some.inj ho
   exact st_load hI ho rfl rfl rfl hI.s2 q3 rfl hS ⟨_, _, _, rfl, rfl, ⟨_, by omega, rfl, q1⟩⟩
  ·obtain rfl := Option.some.inj ho
   exact st_ins hI ho rfl rfl rfl rfl hS (ha ⟨0, .data⟩ (by simp) rfl) (jv := 17) rfl (ha ⟨17, .data⟩ (by simp) rfl)
  ·obtain rfl := Option.some.inj ho
   exact st_call hI ho rfl rfl rfl rfl hS
  ·obtain rfl := Option.some.inj ho
   obtain ⟨p, hpB, hp, hc⟩ := hI.vals 19 20 _ rfl (ha ⟨19, .data⟩ (by simp) rfl); exact st_build hI ho rfl rfl rfl hp rfl hS ⟨_, _, _, rfl, rfl, ⟨p, hpB, rfl, hc⟩⟩
  ·obtain rfl := Option.some.inj ho
   exact st_ins hI ho rfl rfl rfl rfl hS (ha ⟨0, .data⟩ (by simp) rfl) (jv := 20) rfl (ha ⟨20, .data⟩ (by simp) rfl)
  ·obtain rfl := Option.some.inj ho
   exact st_build hI ho rfl rfl rfl rfl rfl hS ⟨_, _, _, rfl, rfl, rfl⟩
  ·obtain rfl := Option.some.inj ho
   exact st_ins hI ho rfl rfl rfl rfl hS (ha ⟨0, .data⟩ (by simp) rfl) (jv := 22) rfl (ha ⟨22, .data⟩ (by simp) rfl)
  ·obtain rfl := Option.some.inj ho
   exact st_build hI ho rfl rfl rfl rfl rfl hS ⟨_, _, _, rfl, rfl, rfl⟩
  ·obtain rfl := Option.some.inj ho
   exact st_ins hI ho rfl rfl rfl rfl hS (ha ⟨0, .data⟩ (by simp) rfl) (jv := 24) rfl (ha ⟨24, .data⟩ (by simp) rfl)
  ·obtain rfl := Option.some.inj ho
   exact st_build hI ho rfl rfl rfl rfl rfl hS ⟨_, _, _, rfl, rfl, rfl⟩
  ·obtain rfl := Option.some.inj ho
   exact st_ins hI ho rfl rfl rfl rfl hS (ha ⟨0, .data⟩ (by simp) rfl) (jv := 26) rfl (ha ⟨26, .data⟩ (by simp) rfl)
  ·obtain rfl := Option.some.inj ho
   exact st_call hI ho rfl rfl rfl rfl hS
  ·obtain rfl := Option.some.inj ho
   obtain ⟨p, hpB, hp, hc⟩ := hI.vals 28 25 _ rfl (ha ⟨28, .data⟩ (by simp) rfl); exact st_build hI ho rfl rfl rfl hp rfl hS ⟨_, _, _, rfl, rfl, ⟨p, hpB, rfl, hc⟩⟩
  ·obtain rfl := Option.some.inj ho
   exact st_ins hI ho rfl rfl rfl rfl hS (ha ⟨0, .data⟩ (by simp) rfl) (jv := 29) rfl (ha ⟨29, .data⟩ (by simp) rfl)
  ·obtain rfl := Option.some.inj ho
   exact st_call hI ho rfl rfl rfl rfl hS
  ·obtain rfl := Option.some.inj ho
   obtain ⟨p, hpB, hp, hc⟩ := hI.vals 31 27 _ rfl (ha ⟨31, .data⟩ (by simp) rfl); exact st_build hI ho rfl rfl rfl hp rfl hS ⟨_, _, _, rfl, rfl, ⟨p, hpB, rfl, hc⟩⟩
  ·obtain rfl := Option.some.inj ho
   exact st_ins hI ho rfl rfl rfl rfl hS (ha ⟨0, .data⟩ (by simp) rfl) (jv := 32) rfl (ha ⟨32, .data⟩ (by simp) rfl)
  ·obtain rfl := Option.some.inj ho
   exact st_load hI ho rfl rfl rfl hI.s3 q5 rfl hS ⟨_, _, _, rfl, rfl, ⟨_, by omega, rfl, q4⟩⟩
  ·obtain rfl := Option.some.inj ho
   exact st_ins hI ho rfl rfl rfl rfl hS (ha ⟨0, .data⟩ (by simp) rfl) (jv := 34) rfl (ha ⟨34, .data⟩ (by simp) rfl)
  ·obtain rfl := Option.some.inj ho
   exact st_load hI ho rfl rfl rfl hI.s3 q5 rfl hS ⟨_, _, _, rfl, rfl, ⟨_, by omega, rfl, q4⟩⟩
  ·obtain rfl := Option.some.inj ho
   exact st_ins hI ho rfl rfl rfl rfl hS (ha ⟨0, .data⟩ (by simp) rfl) (jv := 36) rfl (ha ⟨36, .data⟩ (by simp) rfl)
  ·obtain rfl := Option.some.inj ho
   exact st_call hI ho rfl rfl rfl rfl hS
  ·obtain rfl := Option.some.inj ho
   obtain ⟨p, hpB, hp, hc⟩ := hI.vals 38 31 _ rfl (ha ⟨38, .data⟩ (by simp) rfl); exact st_build hI ho rfl rfl rfl hp rfl hS ⟨_, _, _, rfl, rfl, ⟨p, hpB, rfl, hc⟩⟩
  ·obtain rfl := Option.some.inj ho
   exact st_ins hI ho rfl rfl rfl rfl hS (ha ⟨0, .data⟩ (by simp) rfl) (jv := 39) rfl (ha ⟨39, .data⟩ (by simp) rfl)
  ·obtain rfl := Option.some.inj ho
   exact st_call hI ho rfl rfl rfl rfl hS
  ·obtain rfl := Option.some.inj ho
   obtain ⟨p, hpB, hp, hc⟩ := hI.vals 41 33 _ rfl (ha ⟨41, .data⟩ (by simp) rfl); exact st_build hI ho rfl rfl rfl hp rfl hS ⟨_, _, _, rfl, rfl, ⟨p, hpB, rfl, hc⟩⟩
  ·obtain rfl := Option.some.inj ho
   exact st_ins hI ho rfl rfl rfl rfl hS (ha ⟨0, .data⟩ (by simp) rfl) (jv := 42) rfl (ha ⟨42, .data⟩ (by simp) rfl)
  ·obtain rfl := Option.some.inj ho
   exact st_move hI ho rfl rfl rfl hS (ha ⟨0, .data⟩ (by simp) rfl)
  ·obtain rfl := Option.some.inj ho
   exact st_res hI ho rfl rfl rfl hS (ha ⟨44, .data⟩ (by simp) rfl)
 ·intro S a W hall hI
  have hi : ∀ i, i < 46 → S i = true := hall
  obtain ⟨b, n, D, g1, g2, g3, g4, g5⟩ := hI.map (hi 0 (by omega))
  have hr : a.eval (.tmp 0) = .map (some b) := by rw [(hI.rs (hi 45 (by omega))).2, (hI.mv (hi 44 (by omega))).2, g1]
  have hdf := hI.defs
  have hB : Below w.heap.size w W := qb.trans (Below.mono hI.below qb.size)
  have hfin : ∀ k : Int, (Lit.int .i64 k).wf = true → ((∃ v, (∀ zd, D.atKey (.int .i64 k) zd = .held v) ∧ Good w.heap.size W k v) ∨ (gk k = none ∧ ∀ zd, D.atKey (.int .i64 k) zd = zd)) := fun k hw => by
   rcases g5 k hw with ⟨v, x1, x2, _⟩ | ⟨x1, x2⟩
   ·exact .inl ⟨v, x1, x2⟩
   ·refine .inr ⟨Classical.byContradiction fun hne => ?_, x1⟩
    obtain ⟨j, hj⟩ := gk_ins hne
    have h1 := x2 j hj
    rw [hi j (by have := ins_idx (BB := 0) hj; omega)] at h1
    cases h1
  rename_i hK
  refine hK a W ?_
  refine wp_ret ?_
  show bodyPost Tryz.prog Tryz.f154 _ .ret a W
  refine bodyPost_ret (results_tmp (show Tryz.f154.results = #[.tmp 0] from rfl) _ _ _) hdf ?_
  exact ⟨b, n, D, congrArg Ending.returned hr, Nat.le_trans qb.size g2, hB, g3, hfin⟩
 ·refine ⟨qb.size, rfl, rfl, KeepC.below (below_drew (Below.refl _ _)), below_drew (Below.refl _ _), rfl, rfl, rfl, fun _ _ _ _ h => (Bool.noConfusion h), fun _ _ _ h => (Bool.noConfusion h), fun h => (Bool.noConfusion h), fun h => (Bool.noConfusion h), fun h => (Bool.noConfusion h)⟩
end Go.Proofs.YtipefepnkpoiaaaGreat.E
namespace Go.Proofs.Dk
open Go Go.RowKit
abbrev MY := Go.Proofs.YtipefepnkpoiaaaGreat.E.GK
abbrev yi := Go.Proofs.YtipefepnkpoiaaaGreat.E.gk
def PP : MY → DV
 | .al s => .fn (.func 176) [] [.pi [.sc (.string s)]]
 | .dup => .fn (.func 171) [] []
 | .swp => .fn (.func 172) [] []
 | .two => .fn (.func 173) [] []
def ln (p : ByteArray × MY) : DV := .agg [.sc (.string p.1), PP p.2]
def vm : List (List Int) := [[1, 11, 13, 15, 17], [12, 14, 16, 18], [2], [3], [4], [5], [6], [7], [8, 9], [10], [20]]
def vn : List DV := [ln (⟨#[]⟩, .al ⟨#[105]⟩), ln (⟨#[105]⟩, .al ⟨#[]⟩), ln (⟨#[32]⟩, .al ⟨#[]⟩), ln (⟨#[32]⟩, .dup), ln (⟨#[32, 32]⟩, .swp), ln (⟨#[105, 105]⟩, .two), ln (⟨#[105]⟩, .al ⟨#[105]⟩), ln (⟨#[98]⟩, .al ⟨#[98]⟩), ln (⟨#[98, 98]⟩, .al ⟨#[98]⟩), ln (⟨#[98]⟩, .al ⟨#[105]⟩), ln (⟨#[98]⟩, .al ⟨#[]⟩)]
theorem rk (n : Int) : d8 vm vn n = (yi n).map ln := by
 unfold yi Go.Proofs.YtipefepnkpoiaaaGreat.E.gk
 simp only [vm, vn, d8, List.any_cons, List.any_nil, bo, aE, ai, apply_ite (Option.map ln), bG, Option.map_none]
theorem Hr {n : Int} (h : yi n ≠ none) : (Lit.int .i64 n).wf = true := by
 obtain ⟨j, hj⟩ := Go.Proofs.YtipefepnkpoiaaaGreat.E.gk_ins h
 exact (Go.Proofs.YtipefepnkpoiaaaGreat.E.ins_idx (BB := 0) hj).2.2.2.2
theorem L3 {w : World} {B b n : Nat} {D : DataW Value} (h : w.ownsMap Tryz.prog 3 Go.Proofs.YtipefepnkpoiaaaGreat.E.RV b n D) (hk : ∀ k : Int, (Lit.int .i64 k).wf = true → ((∃ v, (∀ zd, D.atKey (.int .i64 k) zd = .held v) ∧ Go.Proofs.YtipefepnkpoiaaaGreat.E.Good B w k v) ∨ (yi k = none ∧ ∀ zd, D.atKey (.int .i64 k) zd = zd))) :
  ∃ es clock val, w.heap[b]? = some (.map es clock) ∧ TabE vm vn val es.toList ∧ ∀ n d, d8 vm vn n = some d → Go.Proofs.YtipefepnkpoiaaaGreat.E.Good B w n (val n) := by
 obtain ⟨es, clock, hb, F, _, rfl⟩ := h
 have hu := Tryz.underlying3
 have key : ∀ e ∈ es.toList, ∃ n, e.key = .int .i64 n ∧ (Lit.int .i64 n).wf = true := by
  intro e he
  obtain ⟨y, hy⟩ := F.reads e he
  have h1 := WideElems.rd_key hy
  revert h1
  generalize e.key = q
  intro h1
  cases q <;> simp [keyOf, hu, mapKey] at h1
  obtain ⟨⟨rfl, h2⟩, _⟩ := h1
  exact ⟨_, rfl, h2⟩
 have one : ∀ e ∈ es.toList, ∀ e' ∈ es.toList, e.key = e'.key → e = e' := by
  have hs := ((MapKept.stamped_iff es clock).1 F.stamped).2.2
  intro e he e' he' hee
  obtain ⟨i, hi, rfl⟩ := co he
  obtain ⟨j, hj, rfl⟩ := co he'
  rw [List.pairwise_iff_getElem] at hs
  rcases Nat.lt_trichotomy i j with h | h | h
  ·exact absurd hee (hs i j hi hj h)
  ·subst h; rfl
  ·exact absurd hee.symm (hs j i hj hi h)
 have at_ : ∀ n, (Lit.int .i64 n).wf = true → ((∃ e ∈ es.toList, e.key = .int .i64 n ∧ Go.Proofs.YtipefepnkpoiaaaGreat.E.Good B w n e.val) ∨ (yi n = none ∧ ∀ e ∈ es.toList, e.key ≠ .int .i64 n)) := by
  intro n hn
  have hkey : keyOf Tryz.prog 3 (.int .i64 n) = some (.int .i64 n) := Maps.keyOf_int_mk hu hn
  have hz0 : (nv Tryz.prog 196).isSome = true := by kernel_rfl
  obtain ⟨its, hits⟩ := Option.isSome_iff_exists.1 hz0
  obtain ⟨it, z, hit, hz1, _⟩ := qJ (I := ⟨fun _ => none, ⟨fun _ => False, fun _ => []⟩⟩) (w := w) hits
  have hz : (zeroValue 196).run Tryz.prog w = .ok z w := by simp [zeroValue, typeInfo, Sem.run_bind, hit, hz1]
  rcases Maps.fit_look false (Maps.int_keyed hu) Tryz.underlying197 hz hb F hkey with ⟨_, h2, h3⟩ | ⟨e0, y, h1, h2, _, h4, h5, _⟩
  ·rcases hk n hn with ⟨v, g1, g2⟩ | ⟨g1, g2⟩
   ·have := (h3 (.lit (.bool true))).symm.trans (g1 _)
    cases this
   ·exact .inr ⟨g1, h2⟩
  ·rcases hk n hn with ⟨v, g1, g2⟩ | ⟨g1, g2⟩
   ·refine .inl ⟨e0, h1, h2, ?_⟩
    have h6 := (h5 (.lit (.bool true))).symm.trans (g1 _)
    simp only [Go.Proofs.YtipefepnkpoiaaaGreat.E.RV, ab] at h4
    rw [← h4] at h6
    simp only [DataW.held.injEq] at h6
    rw [h6]
    exact g2
   ·have h6 := (h5 (.lit (.bool true))).symm.trans (g2 _)
    simp only [Go.Proofs.YtipefepnkpoiaaaGreat.E.RV, ab] at h4
    rw [← h4] at h6
    cases h6
 have hex : ∀ n : Int, ∃ v : Value, ∀ e ∈ es.toList, e.key = .int .i64 n → v = e.val := by
  intro n
  by_cases h : ∃ e ∈ es.toList, e.key = .int .i64 n
  ·obtain ⟨e, he, hen⟩ := h
   exact ⟨e.val, fun e' he' hen' => by rw [one e he e' he' (hen.trans hen'.symm)]⟩
  ·exact ⟨default, fun e he hen => absurd ⟨e, he, hen⟩ h⟩
 obtain ⟨val, hval⟩ := Classical.axiomOfChoice hex
 refine ⟨es, clock, val, hb, ⟨fun e he => ?_, fun e he n hn => ⟨hval n e he hn, ?_⟩, fun n hn => ?_⟩, fun n d hd => ?_⟩
 ·obtain ⟨n, hn, _⟩ := key e he
  exact ⟨n, hn⟩
 ·obtain ⟨n', hn', hw⟩ := key e he
  rw [hn] at hn'
  cases hn'
  rcases at_ n hw with ⟨e', _, _, t, g, f, hg, _⟩ | ⟨_, h2⟩
  ·rw [rk, show yi n = _ from hg]; rfl
  ·exact absurd hn (h2 e he)
 ·have hne : yi n ≠ none := by
   rw [rk] at hn
   intro h0
   rw [h0] at hn
   cases hn
  rcases at_ n (Hr hne) with ⟨e, h1, h2, _⟩ | ⟨h1, _⟩
  ·exact ⟨e, h1, h2⟩
  ·exact absurd h1 hne
 ·have hne : yi n ≠ none := by
   rw [rk] at hd
   intro h0
   rw [h0] at hd
   cases hd
  rcases at_ n (Hr hne) with ⟨e, h1, h2, h3⟩ | ⟨h1, _⟩
  ·rw [hval n e h1 h2]; exact h3
  ·exact absurd h1 hne
def FY : FS := ⟨⟨[], []⟩, ⟨[.tab vm vn], []⟩, Unit, fun _ => ((), ()), fun _ => (), fun _ => some ()⟩
theorem MZ {I : In} {w : World} {B : Nat} {p : ByteArray × MY} {v f : Value} (hv : v = .agg #[.string p.1, f]) (hg : Go.Proofs.YtipefepnkpoiaaaGreat.E.gfn B w f p.2) (hI : ∀ q, B ≤ q → q < w.heap.size → I.R q) : VR I w (ln p) v := by
 obtain ⟨t, g⟩ := p
 subst hv
 refine .agg _ _ (.one _ _ _ _ (.sc _ rfl) rfl ?_)
 have fin : ∀ {d : DV}, VR I w d f → f.oneCell' = true → CR I w [d] [f] := fun hd ho => .one _ _ _ _ hd ho .nil
 cases g with
 | al s =>
  obtain ⟨q, hqB, rfl, hq⟩ := hg
  refine fin (.fn _ _ _ _ _ .nil (.cons _ _ _ _ (.pi _ ⟨q, 0, none⟩ [.string s] rfl (hI q hqB (Array.getElem?_eq_some_iff.1 hq).1) (fun d hd => ?_) (.one _ _ _ _ (.sc _ rfl) rfl .nil) (fun j u hu => ?_)) .nil)) rfl
  ·simp only [aq] at hd
   subst hd
   rfl
  ·cases j with
   | zero =>
    simp only [bu, ab] at hu
    subst hu
    exact (Go.Proofs.YtipefepnkpoiaaaGreat.E.blk_cell hq 0).trans rfl
   | succ j => simp at hu
 | dup => subst hg; exact fin (.fn _ _ _ _ _ .nil .nil) rfl
 | swp => subst hg; exact fin (.fn _ _ _ _ _ .nil .nil) rfl
 | two => subst hg; exact fin (.fn _ _ _ _ _ .nil .nil) rfl
theorem FZ : hZ Tryz.prog 154 FY := by
 intro α I w H A args ρ k r x m hH hA hx hρ h
 obtain ⟨rfl, rfl⟩ : A = [] ∧ m = ⟨[], []⟩ := by
  unfold Tmpl.pr at hx
  split at hx
  ·rename_i y m1 hy
   have hl := jD hy
   obtain rfl : A = [] := bn hl
   refine ⟨rfl, ?_⟩
   simp only [FY, dY, ab] at hy
   obtain rfl : m1 = ⟨[], []⟩ := (congrArg Prod.snd hy).symm
   exact (au (congrArg (Option.map Prod.snd) hx)).symm
  ·cases hx
 cases hA
 refine Calls.mono (Go.Proofs.YtipefepnkpoiaaaGreat.E.effects_calls w) ?_
 rintro e w' ⟨b0, n, D, rfl, hnew, hB, hO, hk⟩
 obtain ⟨es, clock, val, hb, hE, hv⟩ := L3 hO hk
 have hbw : b0 < w'.heap.size := (Array.getElem?_eq_some_iff.1 hb).1
 have hw : ∀ b, b < w.heap.size → w'.heap[b]? = w.heap[b]? := hB.block
 refine ⟨⟨I.ι, ⟨fun b => I.R b ∨ (w.heap.size ≤ b ∧ b < w'.heap.size), I.R.fam⟩⟩, _, _, _, h, ⟨fun n b h => h, fun b h => .inl h, fun b h _ => hw b h, fun n e b h1 h2 => .inl ⟨n, e, h1, h2⟩, fun b h => ?_, hB.size, hB.os, hB.tape, hB.output, fun _ _ _ h => h, fun _ h => ⟨rfl, h⟩⟩, (hH.grow (I' := ⟨I.ι, ⟨fun b => I.R b ∨ (w.heap.size ≤ b ∧ b < w'.heap.size), I.R.fam⟩⟩) rfl rfl (fun b => Iff.rfl) hw hB.size).1, ?_, fun l hl n sz v _ h => h⟩
 ·rcases h with h | h
  ·exact .inl h
  ·exact .inr (.inr h.1)
 ·refine .tab vm vn val b0 es clock ?_ hb hE fun n d hd => ?_
  ·exact .inr ⟨hnew, hbw⟩
  ·obtain ⟨t, g, f, h1, h2, h3⟩ := hv n d hd
   rw [rk, show yi n = _ from h1] at hd
   simp only [bG, ab] at hd
   subst hd
   exact MZ (f := f) h2 h3 fun q h4 h5 => .inr ⟨h4, h5⟩
end Go.Proofs.Dk
namespace Go.Proofs.Dk
open Go Go.IntKind
set_option maxRecDepth 100000
variable (n : Nat)
section
variable {a b c d a0 a1 a2 a3 a4 a5 a6 a7 a8 a9 b0 b1 b2 b3 b4 : Type}
abbrev u_ (x : a) : a × Unit := (x, ())
abbrev v_ (x : a × b) : a × Unit := (x.1, ())
abbrev k_ (x : a × Unit) : a := x.1
abbrev j_ (x : a × Unit) (y : d) : a × d := (x.1, y)
abbrev q_ (f : a → b → c) (x : a × b) : c := f x.1 x.2
abbrev U_ (f : b → c) (x : a × b) : a × c := (x.1, f x.2)
abbrev J_ (f : b → d → c) (x : a × b) (y : d) : a × c := (x.1, f x.2 y)
abbrev C_ (q : d → b → c) (f : a → d) (x : a × b) : c := q (f x.1) x.2
abbrev dD (f : b → c) (x : a × a0 × b) : a × a0 × c := U_ (U_ f) x
abbrev fv (f : b → d → c) (x : a × a0 × b) (y : d) : a × a0 × c := J_ (J_ f) x y
abbrev dZ (q : d → b → c) (f : a → a0 → d) (x : a × a0 × b) : c := C_ (C_ q) f x
abbrev d7 (f : b → c) (x : a × a0 × a1 × a2 × b) : a × a0 × a1 × a2 × c := dD (dD f) x
abbrev iX (f : b → d → c) (x : a × a0 × a1 × a2 × b) (y : d) : a × a0 × a1 × a2 × c := fv (fv f) x y
abbrev eo (q : d → b → c) (f : a → a0 → a1 → a2 → d) (x : a × a0 × a1 × a2 × b) : c := dZ (dZ q) f x
abbrev dC (f : b → c) (x : a × a0 × a1 × a2 × a3 × a4 × a5 × a6 × b) : a × a0 × a1 × a2 × a3 × a4 × a5 × a6 × c := d7 (d7 f) x
abbrev yj (f : b → d → c) (x : a × a0 × a1 × a2 × a3 × a4 × a5 × a6 × b) (y : d) : a × a0 × a1 × a2 × a3 × a4 × a5 × a6 × c := iX (iX f) x y
abbrev fL (q : d → b → c) (f : a → a0 → a1 → a2 → a3 → a4 → a5 → a6 → d) (x : a × a0 × a1 × a2 × a3 × a4 × a5 × a6 × b) : c := eo (eo q) f x
abbrev RQ (f : b → c) (x : a × a0 × a1 × a2 × a3 × a4 × a5 × a6 × a7 × a8 × a9 × b0 × b1 × b2 × b3 × b4 × b) : a × a0 × a1 × a2 × a3 × a4 × a5 × a6 × a7 × a8 × a9 × b0 × b1 × b2 × b3 × b4 × c := dC (dC f) x
abbrev RR (f : b → d → c) (x : a × a0 × a1 × a2 × a3 × a4 × a5 × a6 × a7 × a8 × a9 × b0 × b1 × b2 × b3 × b4 × b) (y : d) : a × a0 × a1 × a2 × a3 × a4 × a5 × a6 × a7 × a8 × a9 × b0 × b1 × b2 × b3 × b4 × c := yj (yj f) x y
abbrev kp (q : d → b → c) (f : a → a0 → a1 → a2 → a3 → a4 → a5 → a6 → a7 → a8 → a9 → b0 → b1 → b2 → b3 → b4 → d) (x : a × a0 × a1 × a2 × a3 × a4 × a5 × a6 × a7 × a8 × a9 × b0 × b1 × b2 × b3 × b4 × b) : c := fL (fL q) f x
end
abbrev cZ : Sh := (.int .i64)
abbrev jK : Sh := (.pair cZ cZ)
abbrev ig : Sh := (.pair cZ jK)
abbrev eI : Sh := (.sl ig)
abbrev dy : Sh := (.sl cZ)
abbrev pq : Sh := (.arr 8 cZ)
abbrev tp : Sh := (.arr 16 cZ)
abbrev dQ : List EK := [.val eI, .val dy, .val pq, .val .bool, .val cZ, .row 3 cZ, .val pq, .val tp, .val tp, .val cZ, .row 3 cZ, .val cZ, .val cZ, .val cZ]
abbrev CC : Sh := (.pair cZ (.pair cZ (.pair cZ (.pair cZ (.pair dy (.pair dy eI))))))
abbrev em : Sh := (.arr 8 pq)
abbrev ec : Sh := (.sl dy)
abbrev d4 : Sh := (.sl CC)
abbrev tr : Sh := (.pair cZ (.pair cZ (.pair cZ (.pair cZ (.pair dy (.pair ec d4))))))
abbrev fT : List IK := [.val cZ, .val cZ, .val cZ, .val cZ, .val dy, .val ec, .val d4]
abbrev np : List IK := [.val eI, .val dy, .val pq, .val .bool, .val cZ, .row 3 cZ, .val pq, .val tp, .val tp, .val cZ, .row 3 cZ, .val cZ, .val cZ, .val cZ]
abbrev Af : List IK := [.val cZ, .val cZ, .val cZ, .val cZ, .val dy, .val dy, .val eI, .val cZ, .val cZ, .val cZ, .val cZ, .val dy, .val ec, .val d4]
abbrev lL : List IK := [.val cZ, .val cZ, .val cZ]
abbrev wa : List IK := [.row 9 .str, .row 4 .bool, .row 4 .bool]
abbrev om : List IK := [.val cZ, .val cZ]
abbrev pN : List IK := [.val cZ, .val tp]
abbrev EJ : List IK := [.val eI, .val dy, .clo 48 []]
abbrev EL : List IK := [.val (.arr 16 .bool)]
abbrev ef : Type := (Int × Int)
abbrev jo : Type := (Int × ef)
abbrev dp : Type := (List jo)
abbrev wG : Type := (Int × (Int × (Int × (Int × ((List Int) × ((List Int) × dp))))))
abbrev db : Type := (List wG)
abbrev dg : Type := (dp × (List Int) × (List Int) × Bool × Int × (List Int) × (List Int) × (List Int) × (List Int) × Int × (List Int) × Int × Int × Int × Unit)
abbrev fe : Type := (Int × Int × Int × Int × (List Int) × (List (List Int)) × db × Unit)
abbrev wb : Type := (Int × Int × Int × Int × (List Int) × (List Int) × dp × Int × Int × Int × Int × (List Int) × (List (List Int)) × db × Unit)
abbrev dT : Type := ((List dg) × Unit)
abbrev gU : Type := (((dp × (List Int)) × Int × Int × Unit) × Unit)
abbrev se : Type := ((List ByteArray) × (List Bool) × (List Bool) × Unit)
abbrev eJ : Type := (Bool × Unit)
abbrev ng : Type := (Unit × Unit)
abbrev iY : Type := ((eJ × Unit) ⊕ ng)
abbrev eF : Type := (Int × (List Int) × Unit)
abbrev zj : Type := ((List ef) × dp × (List Int) × (List Int) × Bool × Int × (List Int) × (List Int) × (List Int) × (List Int) × Int × (List Int) × Int × Int × Int)
abbrev oo : Type := (Int × (Int × (Int × (Int × ((List Int) × ((List (List Int)) × db))))))
abbrev oq : Type := (fe × ((List Bool) × Unit) × Unit)
abbrev ot : Type := (Int × Int × Int × Int × Int × (List Int) × (List (List Int)) × db)
abbrev rl : Type := (Int × Int × Int × Unit)
abbrev rm : Type := (Int × Int × Int × Int × Int × Int × (List Int) × (List (List Int)) × db)
abbrev rn : Type := (List (Int × jo))
abbrev F0 : Type := (Int × dp × (List Int) × (List Int) × Bool × Int × (List Int) × (List Int) × (List Int) × (List Int) × Int × (List Int) × Int × Int × Int)
abbrev pt : Type := (rl × Unit)
abbrev zk : Type := (((List Int) × (List Int) × rn × Int × dp × Int × Int × Unit) × pt)
abbrev gA : Type := (Int × Unit)
abbrev tu : Type := ((gA × (wb × Unit)) ⊕ (Unit × (wb × Unit)))
abbrev kq : Type := ((List Int) × Unit)
abbrev zl : Type := ((dp × (List Int) × Unit) × gA × kq × Unit)
abbrev JF : Type := (Bool × dp × Int × Int × Int × Int × Int × Int × (List Int) × (List Int) × dp × Int × Int × Int × Int × (List Int) × (List (List Int)) × db × Int × Int × Int)
abbrev JG : Type := ((List ef) × (List Int) × Int × dp × (List Int) × (List Int) × Bool × Int × (List Int) × (List Int) × (List Int) × (List Int) × Int × (List Int) × Int × Int × Int)
abbrev jP : Type := (fe × Unit)
abbrev tw : Type := ((eJ × jP) ⊕ (Unit × jP))
abbrev JH : Type := (((List Int) × (List Int) × Int × Unit) × Unit)
abbrev F1 : Type := (JH ⊕ (((List Int) × (List Int) × rn × Unit) × Unit))
abbrev JI : Type := ((List Int) × Int × Int × Int × Int × Int × Int × (List Int) × (List Int) × dp × Int × Int × Int × Int × (List Int) × (List (List Int)) × db)
abbrev tx : Type := (Int × dp × (List Int) × Int × (List Int))
abbrev JJ : Type := (dp × Int × Int × Int × Int × Int × Int × (List Int) × (List Int) × dp × Int × Int × Int × Int × (List Int) × (List (List Int)) × db)
abbrev JK : Type := (db × Int × Int × (List Int) × Int × Int × Int × Int × Int × Int × (List Int) × (List (List Int)) × db × (List Bool))
abbrev zm : Type := (Int × Int × dp × (List Int) × Int × (List Int))
abbrev tA : Type := ((Int × Int × Unit) × jP)
abbrev F2 : Type := ((List Int) × (List Int) × rn × Int × dp × Int × Int × Int × Int × Int)
abbrev F3 : Type := ((((List ByteArray) × Int × Unit) × (se × Unit)) ⊕ (Unit × (se × Unit)))
abbrev pu : Type := ((ByteArray × Unit) × Unit)
abbrev F4 : Type := (((List Int) × Int × Int × dp × Int × Int × Unit) × pt)
abbrev kr : Type := ((List Int) × Int)
abbrev zn : Type := ((dp × (List Int) × Int × Unit) × Unit)
abbrev JL : Type := (db × Int × Int × Int × Int × Int × Int × (List Int) × (List (List Int)) × db × (List Bool))
abbrev wH : Type := (((List Int) × Int × Unit) × Unit)
abbrev JM : Type := ((List (List Int)) × Int × Int × Int × Int × Int × Int × (List Int) × (List (List Int)) × db)
abbrev CD : Type := ((Int × ByteArray × Unit) × (se × rl × Unit))
abbrev F5 : Type := ((List Int) × (List Int) × rn × dp × Int × Int × Unit)
abbrev JN : Type := (Int × ByteArray × (List ByteArray) × (List Bool) × (List Bool) × Int × Int × Int)
abbrev zo : Type := ((db × Int × Int × Unit) × oq)
abbrev JO : Type := ((List Int) × dp × Int × Int × (List ByteArray) × (List Bool) × (List Bool))
abbrev M0 : Type := ((List Int) × dp × (List Int) × (List Int) × Bool × Int × (List Int) × (List Int) × (List Int) × (List Int) × Int × (List Int) × Int × Int × Int)
abbrev M1 : Type := (Bool × dp × (List Int) × (List Int) × Bool × Int × (List Int) × (List Int) × (List Int) × (List Int) × Int × (List Int) × Int × Int × Int)
abbrev zp : Type := ((List ef) × (List ef) × Int)
abbrev JP : Type := (dp × (List Int) × (List Int) × (List Int) × Bool × dp × Int × Int)
abbrev F6 : Type := ((List Int) × Int × dp × Int × Int × Unit)
abbrev JQ : Type := (Int × ByteArray × (List ByteArray) × (List Bool) × (List Bool))
abbrev F7 : Type := ((eJ × Unit) ⊕ ((dp × Unit) × Unit))
abbrev CE : Type := ((List Int) × (List Int) × Int)
abbrev JR : Type := (Int × Int × Int × dp × (List Int) × Int × (List Int))
abbrev JS : Type := ((List Int) × (List Int) × rn × dp × Int × Int)
abbrev M2 : Type := (dp × (List Int) × (List Int) × (List Int) × Bool × Bool × dp × Int × Int × Int × Int × Int)
abbrev nh : Type := (dT × Unit)
abbrev ni : Type := (dg × Unit)
abbrev F8 : Type := ((eJ × oq) ⊕ (Unit × oq))
abbrev pw : Type := (gA × Unit)
abbrev JT : Type := (dp × (List Int) × Int × dp × Int × Int)
abbrev JU : Type := (dp × (List Int) × (List Int) × Int × Int)
theorem O4 : mw Tryz.prog 46 (1, [[25], [24], [23], [22], [21], [20], [19], [18], [17], [16], [15], [14], [13], [12], [11], [10], [9], [8], [7], [6], [5], [4], [3], [2], [1]], [91, 90, 89, 88, 87, 86, 85, 84, 83, 82, 81, 80, 79, 78, 77, 76, 75, 74, 73, 72, 71, 70, 69, 68, 67]) := fun hH hA hl hp => MP (FR Tryz.prog) 14 (fun p => by kernel_rfl) hH hA hl hp
theorem M3 : mw Tryz.prog 147 (0, [[12], [11], [10], [9], [8], [7], [6], [3], [2], [1]], [166, 165, 164, 163, 162, 161, 160, 159, 158, 157]) := fun hH hA hl hp => MQ (FR Tryz.prog) 14 (by kernel_rfl) hH hA hl hp
def c0 (n : Nat) : Cx := (((PN Tryz.prog).addSpec 154 FY).addTab 46 (1, [[25], [24], [23], [22], [21], [20], [19], [18], [17], [16], [15], [14], [13], [12], [11], [10], [9], [8], [7], [6], [5], [4], [3], [2], [1]], [91, 90, 89, 88, 87, 86, 85, 84, 83, 82, 81, 80, 79, 78, 77, 76, 75, 74, 73, 72, 71, 70, 69, 68, 67])).addTab 147 (0, [[12], [11], [10], [9], [8], [7], [6], [3], [2], [1]], [166, 165, 164, 163, 162, 161, 160, 159, 158, 157])
theorem g0 : Good (c0 n) := (((FR _).addSpec FZ).addTab (fun hH hA hl hp => O4 hH hA hl hp)).addTab (fun hH hA hl hp => M3 hH hA hl hp)
def tB (n : Nat) (F : rm → Option (ot)) (v9 v10 v11 v12 v13 v14 : Int) (v15 : (List Int)) (v16 : (List (List Int))) (v17 : db) : Option (ot) := if (decide (v10 < (v16.length : Int))) then (if (decide (0 ≤ v10) && decide (v10 < (v16.length : Int))) then (F ((wrap .i64 (v9 + (if 100 < (((v16.getD v10.toNat []).length : Nat) : Int) then 100 else (((v16.getD v10.toNat []).length : Nat) : Int)))), (wrap .i64 (v10 + 1)), v11, v12, v13, v14, v15, v16, v17)) else none) else (some (v9, v11, v12, v13, v14, v15, v16, v17))
def rq : rm → Option (ot) := it (fun F => (eo (dZ (C_ q_))) (tB n F)) n
def CF : Loop := ⟨⟨dm 67 0 [(1, .obj 0), (3, .val cZ), (4, .val cZ)], [fT]⟩, [(.exit 0, ⟨dm 67 0 [(1, .obj 0), (3, .val cZ)], [fT]⟩)], rm, fun x => ((U_ v_) x, (d7 (dD u_)) x.2.2, ()), fun (x : tA) => (J_ j_) x.1 ((d7 (dD k_)) x.2.1), ot, fun y => ((y.1, ()), (d7 (dD u_)) y.2, ()), fun (o : (gA × jP)) => (o.1.1, ((d7 (dD k_)) o.2.1)), rq n⟩
def tC (n : Nat) (F : rm → Option (ot)) (v10 v11 v12 v13 v14 v15 : Int) (v16 : (List Int)) (v17 : (List (List Int))) (v18 : db) : Option (ot) := if (decide (v11 < (v18.length : Int))) then (if (decide (0 ≤ v11) && decide (v11 < (v18.length : Int))) then (F ((wrap .i64 ((wrap .i64 ((wrap .i64 (v10 + (if 100 < (((v18.getD v11.toNat (0, (0, (0, (0, ([], ([], []))))))).2.2.2.2.1.length : Nat) : Int) then 100 else (((v18.getD v11.toNat (0, (0, (0, (0, ([], ([], []))))))).2.2.2.2.1.length : Nat) : Int)))) + (if 100 < (((v18.getD v11.toNat (0, (0, (0, (0, ([], ([], []))))))).2.2.2.2.2.1.length : Nat) : Int) then 100 else (((v18.getD v11.toNat (0, (0, (0, (0, ([], ([], []))))))).2.2.2.2.2.1.length : Nat) : Int)))) + (wrap .i64 ((if 10000 < (((v18.getD v11.toNat (0, (0, (0, (0, ([], ([], []))))))).2.2.2.2.2.2.length : Nat) : Int) then 10000 else (((v18.getD v11.toNat (0, (0, (0, (0, ([], ([], []))))))).2.2.2.2.2.2.length : Nat) : Int)).tdiv 20)))), (wrap .i64 (v11 + 1)), v12, v13, v14, v15, v16, v17, v18)) else none) else (some (v10, v12, v13, v14, v15, v16, v17, v18))
def ou : rm → Option (ot) := it (fun F => (eo (dZ (C_ q_))) (tC n F)) n
def CG : Loop := ⟨⟨dm 67 0 [(1, .obj 0), (3, .val cZ), (5, .val cZ)], [fT]⟩, [(.exit 2, ⟨dm 67 0 [(3, .val cZ)], [fT]⟩)], rm, fun x => ((U_ v_) x, (d7 (dD u_)) x.2.2, ()), fun (x : tA) => (J_ j_) x.1 ((d7 (dD k_)) x.2.1), ot, fun y => ((y.1, ()), (d7 (dD u_)) y.2, ()), fun (o : (gA × jP)) => (o.1.1, ((d7 (dD k_)) o.2.1)), ou n⟩
def nE (a0 : oo) : Option Int := if (decide ((wrap .i64 ((wrap .i64 ((a0.2.2.2.2.1.length : Int) + (a0.2.2.2.2.2.1.length : Int))) + (a0.2.2.2.2.2.2.length : Int))) > 80)) then (some 0) else ((rq n ((wrap .i64 ((wrap .i64 ((a0.2.2.2.2.1.length : Int) + (a0.2.2.2.2.2.1.length : Int))) + (a0.2.2.2.2.2.2.length : Int))), 0, a0.1, a0.2.1, a0.2.2.1, a0.2.2.2.1, a0.2.2.2.2.1, a0.2.2.2.2.2.1, a0.2.2.2.2.2.2)).bind fun y1 => ((ou n (y1.1, 0, y1.2.1, y1.2.2.1, y1.2.2.2.1, y1.2.2.2.2.1, y1.2.2.2.2.2.1, y1.2.2.2.2.2.2.1, y1.2.2.2.2.2.2.2)).bind fun y2 => (if (decide (y2.1 > 200)) then (some 0) else (some 1))))
def Hs : FS := ⟨⟨[.val tr], []⟩, ⟨[.val cZ], []⟩, Int, fun y => ((y, ()), ()), fun o => o.1.1, fun x => nE n x.1.1⟩
theorem JV : ∀ F x, dH (c0 n) 14 31 0 5 (CF n) F x = (eo (dZ (C_ q_))) (tB n F) x := fun F x => by kernel_rfl
def wI : Cx := Cx.addLoop (c0 n) 31 5 (CF n)
theorem JW : Good (wI n) := Good.loop (g0 n) 14 0 (by kernel_rfl) (JV n) n (fun _ => rfl) (fun _ => rfl) (fun _ => rfl) rfl
theorem JX : ∀ F x, dH (wI n) 14 31 0 9 (CG n) F x = (eo (dZ (C_ q_))) (tC n F) x := fun F x => by kernel_rfl
def wJ : Cx := Cx.addLoop (wI n) 31 9 (CG n)
theorem JY : Good (wJ n) := Good.loop (JW n) 14 0 (by kernel_rfl) (JX n) n (fun _ => rfl) (fun _ => rfl) (fun _ => rfl) rfl
theorem O5 : dA (wJ n) 14 31 0 (Hs n) := fun x => by kernel_rfl
def c1 : Cx := (Cx.bare (wJ n)).addSpec 31 (Hs n)
theorem g1 : Good (c1 n) := Good.fn (JY n) 14 0 (O5 n) (fun _ => rfl) rfl
def yk (n : Nat)  : Option (List (ByteArray × jo)) := some [(ByteArray.empty, (0, (0, 0))), ((ByteArray.mk #[80, 85, 83, 72]), (1, ((-9223372036854775808), 9223372036854775807))), ((ByteArray.mk #[68, 82, 79, 80]), (0, (0, 0))), ((ByteArray.mk #[68, 85, 80]), (0, (0, 0))), ((ByteArray.mk #[83, 87, 65, 80]), (0, (0, 0))), ((ByteArray.mk #[84, 87, 79]), (1, (1, 12))), ((ByteArray.mk #[78, 69, 71]), (0, (0, 0))), ((ByteArray.mk #[78, 79, 84]), (0, (0, 0))), ((ByteArray.mk #[66, 79, 84, 72]), (0, (0, 0))), ((ByteArray.mk #[69, 73, 84, 72, 69, 82]), (0, (0, 0))), ((ByteArray.mk #[67, 65, 83, 84]), (0, (0, 0))), ((ByteArray.mk #[76, 79, 65, 68, 76]), (1, (0, 7))), ((ByteArray.mk #[83, 84, 79, 82, 69, 76]), (1, (0, 7))), ((ByteArray.mk #[76, 79, 65, 68, 82]), (1, (0, 7))), ((ByteArray.mk #[83, 84, 79, 82, 69, 82]), (1, (0, 7))), ((ByteArray.mk #[73, 78]), (1, (0, 15))), ((ByteArray.mk #[79, 85, 84]), (1, (0, 15))), ((ByteArray.mk #[71, 69, 84]), (2, (0, 7))), ((ByteArray.mk #[80, 85, 84]), (2, (0, 7))), ((ByteArray.mk #[74, 85, 77, 80]), (1, (0, 199))), ((ByteArray.mk #[66, 82, 65, 78, 67, 72]), (1, (0, 199))), ((ByteArray.mk #[76, 79, 79, 80]), (1, (1, 1000))), ((ByteArray.mk #[78, 69, 88, 84]), (0, (0, 0))), ((ByteArray.mk #[76, 79, 67, 75]), (1, (0, 7))), ((ByteArray.mk #[85, 78, 76, 79, 67, 75]), (1, (0, 7))), ((ByteArray.mk #[69, 78, 68]), (0, (0, 0)))]
def wc : FS := ⟨⟨[], []⟩, ⟨[.val (.arr 26 (.pair .str ig))], []⟩, (List (ByteArray × jo)), fun y => ((y, ()), ()), fun o => o.1.1, fun x => yk n ⟩
theorem F9 : dA (c1 n) 14 174 0 (wc n) := fun x => by kernel_rfl
def c2 : Cx := (Cx.bare (c1 n)).addSpec 174 (wc n)
theorem g2 : Good (c2 n) := Good.fn (g1 n) 14 0 (F9 n) (fun _ => rfl) rfl
def l3 (a0 : Int) : Option (ByteArray × jo) := if (decide (a0 < 1)) then (some (ByteArray.empty, ((-1), (0, 0)))) else (if (decide (a0 > 25)) then (some (ByteArray.empty, ((-1), (0, 0)))) else ((yk n ).bind fun y1 => (if (decide (0 ≤ a0) && decide (a0 < 26)) then (some ((y1.getD a0.toNat (ByteArray.empty, (0, (0, 0)))).1, ((y1.getD a0.toNat (ByteArray.empty, (0, (0, 0)))).2.1, ((y1.getD a0.toNat (ByteArray.empty, (0, (0, 0)))).2.2.1, (y1.getD a0.toNat (ByteArray.empty, (0, (0, 0)))).2.2.2)))) else none)))
def CH : FS := ⟨⟨[.val cZ], []⟩, ⟨[.val (.pair .str ig)], []⟩, (ByteArray × jo), fun y => ((y, ()), ()), fun o => o.1.1, fun x => l3 n x.1.1⟩
theorem L4 : dA (c2 n) 14 155 0 (CH n) := fun x => by kernel_rfl
def c3 : Cx := (Cx.bare (c2 n)).addSpec 155 (CH n)
theorem g3 : Good (c3 n) := Good.fn (g2 n) 14 0 (L4 n) (fun _ => rfl) rfl
def dd (a0 : jo) : Option Bool := (l3 n a0.1).bind fun y1 => (if (y1.2.1 == 0) then (if (a0.2.1 == 0) then (some (a0.2.2 == 0)) else (some false)) else (if (y1.2.1 == 1) then (if (decide (a0.2.1 ≥ y1.2.2.1)) then (if (decide (a0.2.1 ≤ y1.2.2.2)) then (some (a0.2.2 == 0)) else (some false)) else (some false)) else (if (y1.2.1 == 2) then (if (decide (a0.2.1 ≥ y1.2.2.1)) then (if (decide (a0.2.1 ≤ y1.2.2.2)) then (if (decide (a0.2.2 ≥ y1.2.2.1)) then (some (decide (a0.2.2 ≤ y1.2.2.2))) else (some false)) else (some false)) else (some false)) else (some false))))
def we : FS := ⟨⟨[.val ig], []⟩, ⟨[.val .bool], []⟩, Bool, fun y => ((y, ()), ()), fun o => o.1.1, fun x => dd n x.1.1⟩
theorem Ga : dA (c3 n) 14 146 0 (we n) := fun x => by kernel_rfl
def c4 : Cx := (Cx.bare (c3 n)).addSpec 146 (we n)
theorem g4 : Good (c4 n) := Good.fn (g3 n) 14 0 (Ga n) (fun _ => rfl) rfl
def gC (F : (dp × dp × Int × Int) → Option (F7)) (v2 v3 : dp) (v4 v5 : Int) : Option (F7) := if (decide (v5 < v4)) then (if (decide (0 ≤ v5) && decide (v5 < (v3.length : Int))) then ((dd n ((v3.getD v5.toNat (0, (0, 0))).1, ((v3.getD v5.toNat (0, (0, 0))).2.1, (v3.getD v5.toNat (0, (0, 0))).2.2))).bind fun y6 => (if (!y6) then (some (.inl ((false, ()), ()))) else (F (v2, v3, v4, (wrap .i64 (v5 + 1)))))) else none) else (some (.inr ((v2, ()), ())))
def lp : (dp × dp × Int × Int) → Option (F7) := it (fun F => (dZ q_) (gC n F)) n
def oX : Loop := ⟨⟨dm 23 0 [(0, .val eI), (5, .val eI), (6, .val cZ), (7, .val cZ)], []⟩, [(.ret, ⟨dm 23 0 [(2, .val .bool)], []⟩), (.exit 0, ⟨dm 23 0 [(0, .val eI)], []⟩)], (dp × dp × Int × Int), fun x => ((dD (U_ u_)) x, ()), fun (x : ((dp × dp × Int × Int × Unit) × Unit)) => (dD (U_ k_)) x.1, F7, fun y => y, fun y => y, lp n⟩
def lq (a0 : dp) : Option Bool := (lp n (a0, a0, (a0.length : Int), 0)).bind fun y1 => ((Sum.elim (fun (z2 : (eJ × Unit)) => (some z2.1.1)) (fun (z3 : ((dp × Unit) × Unit)) => (if (decide ((z3.1.1.length : Int) > 0)) then (some (decide ((z3.1.1.length : Int) ≤ 200))) else (some false)))) y1)
def sg : FS := ⟨⟨[.val eI], []⟩, ⟨[.val .bool], []⟩, Bool, fun y => ((y, ()), ()), fun o => o.1.1, fun x => lq n x.1.1⟩
theorem yl : ∀ F x, dH (c4 n) 14 119 0 2 (oX n) F x = (dZ q_) (gC n F) x := fun F x => by kernel_rfl
def lr : Cx := Cx.addLoop (c4 n) 119 2 (oX n)
theorem ym : Good (lr n) := Good.loop (g4 n) 14 0 (by kernel_rfl) (yl n) n (fun _ => rfl) (fun _ => rfl) (fun _ => rfl) rfl
theorem CI : dA (lr n) 14 119 0 (sg n) := fun x => by kernel_rfl
def c5 : Cx := (Cx.bare (lr n)).addSpec 119 (sg n)
theorem g5 : Good (c5 n) := Good.fn (ym n) 14 0 (CI n) (fun _ => rfl) rfl
def ii (n : Nat) (a0 : jo) : Option (jo × Bool) := if (a0.1 == 21) then (some ((22, (0, 0)), true)) else (if (a0.1 == 23) then (some ((24, (a0.2.1, 0)), true)) else (some ((0, (0, 0)), false)))
def oY : FS := ⟨⟨[.val ig], []⟩, ⟨[.val ig, .val .bool], []⟩, (jo × Bool), fun y => ((U_ u_) y, ()), fun o => (o.1.1, o.1.2.1), fun x => ii n x.1.1⟩
theorem zt : dA (c5 n) 14 120 0 (oY n) := fun x => by kernel_rfl
def c6 : Cx := (Cx.bare (c5 n)).addSpec 120 (oY n)
theorem g6 : Good (c6 n) := Good.fn (g5 n) 14 0 (zt n) (fun _ => rfl) rfl
def vo (n : Nat) (v12 v13 : (List Int)) (v14 : rn) (v15 : Int) (v16 : dp) (v17 v18 v19 v20 v21 : Int) : Option (F2) := if (decide ((v14.length : Int) > 0)) then (if (decide (0 ≤ (wrap .i64 ((v14.length : Int) - 1))) && decide ((wrap .i64 ((v14.length : Int) - 1)) < (v14.length : Int))) then (if (decide (0 ≤ v15) && decide (v15 < (v13.length : Int))) then (some (v12, (v13.set v15.toNat (v14.getD ((wrap .i64 ((v14.length : Int) - 1))).toNat (0, (0, (0, 0)))).1), v14, v15, v16, v17, v18, v19, v20, v21)) else none) else none) else (some (v12, v13, v14, v15, v16, v17, v18, v19, v20, v21))
def tD : Loop := ⟨⟨dm 106 0 [(5, .row 3 cZ), (6, .row 3 cZ), (7, .row 176 (.pair cZ ig)), (8, .val cZ), (9, .obj 0), (21, .val eI), (22, .val cZ), (23, .val cZ)], [lL]⟩, [(.norm, ⟨dm 106 0 [(5, .row 3 cZ), (6, .row 3 cZ), (7, .row 176 (.pair cZ ig)), (8, .val cZ), (9, .obj 0), (21, .val eI), (22, .val cZ), (23, .val cZ)], [lL]⟩)], F2, fun x => ((d7 (dD v_)) x, (dD u_) x.2.2.2.2.2.2.2, ()), fun (x : zk) => (iX (fv j_)) x.1 ((dD k_) x.2.1), F2, fun y => ((d7 (dD v_)) y, (dD u_) y.2.2.2.2.2.2.2, ()), fun (o : zk) => (iX (fv j_)) o.1 ((dD k_) o.2.1), (fL q_) (vo n)⟩
def nO (n : Nat) (v14 v15 : (List Int)) (v16 : rn) (v17 : Int) (v18 : dp) (v19 v20 v21 v22 v23 : Int) : Option (((F5 × pt) ⊕ zk)) := if (v21 != 22) then (if (v21 != 24) then (some (.inl ((v14, v15, v16, v18, v19, v20, ()), ((v21, v22, v23, ()), ())))) else (some (.inr ((v14, v15, v16, v17, v18, v19, v20, ()), ((v21, v22, v23, ()), ()))))) else (some (.inr ((v14, v15, v16, v17, v18, v19, v20, ()), ((v21, v22, v23, ()), ()))))
def tE : Loop := ⟨⟨dm 106 0 [(5, .row 3 cZ), (6, .row 3 cZ), (7, .row 176 (.pair cZ ig)), (8, .val cZ), (9, .obj 0), (21, .val eI), (22, .val cZ), (23, .val cZ)], [lL]⟩, [(.exit 1, ⟨dm 106 0 [(5, .row 3 cZ), (6, .row 3 cZ), (7, .row 176 (.pair cZ ig)), (21, .val eI), (22, .val cZ), (23, .val cZ)], [lL]⟩), (.norm, ⟨dm 106 0 [(5, .row 3 cZ), (6, .row 3 cZ), (7, .row 176 (.pair cZ ig)), (8, .val cZ), (9, .obj 0), (21, .val eI), (22, .val cZ), (23, .val cZ)], [lL]⟩)], F2, fun x => ((d7 (dD v_)) x, (dD u_) x.2.2.2.2.2.2.2, ()), fun (x : zk) => (iX (fv j_)) x.1 ((dD k_) x.2.1), ((F5 × pt) ⊕ zk), fun y => y, fun y => y, (fL q_) (nO n)⟩
def kJ (F : JS → Option (F1)) (v6 v7 : (List Int)) (v8 : rn) (v9 : dp) (v10 v11 : Int) : Option (F1) := if (decide (v11 < v10)) then (if (decide (0 ≤ v11) && decide (v11 < (v9.length : Int))) then (if (decide (0 ≤ v11) && decide (v11 < (v6.length : Int))) then (if (decide (0 ≤ v11) && decide (v11 < (v7.length : Int))) then ((vo n (v6.set v11.toNat (-1)) (v7.set v11.toNat (-1)) v8 v11 v9 v10 v11 ((v9.getD v11.toNat (0, (0, 0))).1) ((v9.getD v11.toNat (0, (0, 0))).2.1) ((v9.getD v11.toNat (0, (0, 0))).2.2)).bind fun y12 => ((ii n (y12.2.2.2.2.2.2.2.1, (y12.2.2.2.2.2.2.2.2.1, y12.2.2.2.2.2.2.2.2.2))).bind fun y13 => (if y13.2 then (if (decide ((y12.2.2.1.length + 1) * 32 ≤ 140737488355328) && decide (1 ≤ 32)) then (F (y12.1, y12.2.1, (y12.2.2.1 ++ [(y12.2.2.2.1, (y13.1.1, (y13.1.2.1, y13.1.2.2)))]), y12.2.2.2.2.1, y12.2.2.2.2.2.1, (wrap .i64 (y12.2.2.2.2.2.2.1 + 1)))) else none) else ((nO n y12.1 y12.2.1 y12.2.2.1 y12.2.2.2.1 y12.2.2.2.2.1 y12.2.2.2.2.2.1 y12.2.2.2.2.2.2.1 y12.2.2.2.2.2.2.2.1 y12.2.2.2.2.2.2.2.2.1 y12.2.2.2.2.2.2.2.2.2).bind fun y14 => ((Sum.elim (fun (z15 : (F5 × pt)) => (F (z15.1.1, z15.1.2.1, z15.1.2.2.1, z15.1.2.2.2.1, z15.1.2.2.2.2.1, (wrap .i64 (z15.1.2.2.2.2.2.1 + 1))))) (fun (z16 : zk) => (if ((z16.1.2.2.1.length : Int) == 0) then (some (.inl (([], [], 7, ()), ()))) else (if (decide (0 ≤ (wrap .i64 ((z16.1.2.2.1.length : Int) - 1))) && decide ((wrap .i64 ((z16.1.2.2.1.length : Int) - 1)) < (z16.1.2.2.1.length : Int))) then (if (!(((z16.1.2.2.1.getD ((wrap .i64 ((z16.1.2.2.1.length : Int) - 1))).toNat (0, (0, (0, 0)))).2.1 == z16.2.1.1) && (((z16.1.2.2.1.getD ((wrap .i64 ((z16.1.2.2.1.length : Int) - 1))).toNat (0, (0, (0, 0)))).2.2.1 == z16.2.1.2.1) && ((z16.1.2.2.1.getD ((wrap .i64 ((z16.1.2.2.1.length : Int) - 1))).toNat (0, (0, (0, 0)))).2.2.2 == z16.2.1.2.2.1)))) then (some (.inl (([], [], 7, ()), ()))) else (if (decide (0 ≤ z16.1.2.2.2.1) && decide (z16.1.2.2.2.1 < (z16.1.2.1.length : Int))) then (if (decide (0 ≤ z16.1.2.2.2.1) && decide (z16.1.2.2.2.1 < (z16.1.2.1.length : Int))) then (if (decide (0 ≤ z16.1.2.2.2.1) && decide (z16.1.2.2.2.1 < (z16.1.1.length : Int))) then (if (decide (0 ≤ (z16.1.2.1.getD z16.1.2.2.2.1.toNat 0)) && decide ((z16.1.2.1.getD z16.1.2.2.2.1.toNat 0) < (((z16.1.1.set z16.1.2.2.2.1.toNat (z16.1.2.1.getD z16.1.2.2.2.1.toNat 0)).length : Nat) : Int))) then (if (decide (0 ≤ (wrap .i64 ((z16.1.2.2.1.length : Int) - 1))) && decide ((wrap .i64 ((z16.1.2.2.1.length : Int) - 1)) ≤ (z16.1.2.2.1.length : Int))) then (F (((z16.1.1.set z16.1.2.2.2.1.toNat (z16.1.2.1.getD z16.1.2.2.2.1.toNat 0)).set ((z16.1.2.1.getD z16.1.2.2.2.1.toNat 0)).toNat z16.1.2.2.2.1), z16.1.2.1, (z16.1.2.2.1.take (((wrap .i64 ((z16.1.2.2.1.length : Int) - 1))).toNat - 0)), z16.1.2.2.2.2.1, z16.1.2.2.2.2.2.1, (wrap .i64 (z16.1.2.2.2.2.2.2.1 + 1)))) else none) else none) else none) else none) else none)) else none)))) y14))))) else none) else none) else none) else (some (.inr ((v6, v7, v8, ()), ())))
def tF : JS → Option (F1) := it (fun F => (eo q_) (kJ n F)) n
def Ag : Loop := ⟨⟨dm 106 0 [(5, .row 3 cZ), (6, .row 3 cZ), (7, .row 176 (.pair cZ ig)), (21, .val eI), (22, .val cZ), (23, .val cZ)], []⟩, [(.ret, ⟨dm 106 0 [(2, .row 3 cZ), (3, .row 3 cZ), (4, .val cZ)], []⟩), (.exit 0, ⟨dm 106 0 [(5, .row 3 cZ), (6, .row 3 cZ), (7, .row 176 (.pair cZ ig))], []⟩)], JS, fun x => ((d7 (U_ u_)) x, ()), fun (x : (F5 × Unit)) => (d7 (U_ k_)) x.1, F1, fun y => y, fun y => y, tF n⟩
def ow (a0 : dp) : Option CE := (lq n a0).bind fun y1 => (if (!y1) then (some ([], [], 1)) else (if (decide (0 ≤ (a0.length : Int)) && ((a0.length : Int) == (a0.length : Int)) && decide ((a0.length : Int) * (8 : Int) ≤ 140737488355328) && decide (1 ≤ 8)) then (if (decide (0 ≤ (a0.length : Int)) && ((a0.length : Int) == (a0.length : Int)) && decide ((a0.length : Int) * (8 : Int) ≤ 140737488355328) && decide (1 ≤ 8)) then ((tF n ((List.replicate ((a0.length : Int)).toNat (0 : Int)), (List.replicate ((a0.length : Int)).toNat (0 : Int)), [], a0, (a0.length : Int), 0)).bind fun y2 => ((Sum.elim (fun (z3 : JH) => (some (z3.1.1, z3.1.2.1, z3.1.2.2.1))) (fun (z4 : (((List Int) × (List Int) × rn × Unit) × Unit)) => (if (decide ((z4.1.2.2.1.length : Int) > 0)) then (some ([], [], 7)) else (some (z4.1.1, z4.1.2.1, 0))))) y2)) else none) else none))
def EM : FS := ⟨⟨[.val eI], []⟩, ⟨[.val dy, .val dy, .val cZ], []⟩, CE, fun y => ((dD u_) y, ()), fun o => (o.1.1, o.1.2.1, o.1.2.2.1), fun x => ow n x.1.1⟩
theorem Ht : ∀ x, jl (c6 n) 14 66 0 1000011 (tD n) x = (tD n).fn x := fun x => by kernel_rfl
def tG : Cx := Cx.addLoop (c6 n) 66 1000011 (tD n)
theorem Hu : Good (tG n) := gJ (g6 n) 14 0 (by kernel_rfl) (Ht n) (fun _ => rfl) (fun _ => rfl) rfl
theorem Hv : ∀ x, jl (tG n) 14 66 0 1000015 (tE n) x = (tE n).fn x := fun x => by kernel_rfl
def tH : Cx := Cx.addLoop (tG n) 66 1000015 (tE n)
theorem Hw : Good (tH n) := gJ (Hu n) 14 0 (by kernel_rfl) (Hv n) (fun _ => rfl) (fun _ => rfl) rfl
theorem Hx : ∀ F x, dH (tH n) 14 66 0 6 (Ag n) F x = (eo q_) (kJ n F) x := fun F x => by kernel_rfl
def tI : Cx := Cx.addLoop (tH n) 66 6 (Ag n)
theorem Hy : Good (tI n) := Good.loop (Hw n) 14 0 (by kernel_rfl) (Hx n) n (fun _ => rfl) (fun _ => rfl) (fun _ => rfl) rfl
theorem M4 : dA (tI n) 14 66 0 (EM n) := fun x => by kernel_rfl
def c7 : Cx := (Cx.bare (tI n)).addSpec 66 (EM n)
theorem g7 : Good (c7 n) := Good.fn (Hy n) 14 0 (M4 n) (fun _ => rfl) rfl
def nP (n : Nat) (F : JT → Option ((pw ⊕ zn))) (v5 : dp) (v6 : (List Int)) (v7 : Int) (v8 : dp) (v9 v10 : Int) : Option ((pw ⊕ zn)) := if (decide (v10 < v9)) then (if (decide (0 ≤ v10) && decide (v10 < (v8.length : Int))) then (if (((v8.getD v10.toNat (0, (0, 0))).1 == 25) != (v10 == v7)) then (some (.inl ((7, ()), ()))) else (F (v5, v6, v7, v8, v9, (wrap .i64 (v10 + 1))))) else none) else (some (.inr ((v5, v6, v7, ()), ())))
def tJ : JT → Option ((pw ⊕ zn)) := it (fun F => (eo q_) (nP n F)) n
def Ah : Loop := ⟨⟨dm 74 0 [(0, .val eI), (4, .val dy), (6, .val cZ), (24, .val eI), (25, .val cZ), (26, .val cZ)], []⟩, [(.ret, ⟨dm 74 0 [(2, .val cZ)], []⟩), (.exit 0, ⟨dm 74 0 [(0, .val eI), (4, .val dy), (6, .val cZ)], []⟩)], JT, fun x => ((d7 (U_ u_)) x, ()), fun (x : ((dp × (List Int) × Int × dp × Int × Int × Unit) × Unit)) => (d7 (U_ k_)) x.1, (pw ⊕ zn), fun y => y, fun y => y, tJ n⟩
def l4 (n : Nat) (v10 : (List Int)) (v11 v12 : Int) (v13 : dp) (v14 v15 v16 v17 v18 : Int) : Option (((F6 × pt) ⊕ F4)) := if (v16 != 19) then (if (v16 != 20) then (some (.inl ((v10, v11, v13, v14, v15, ()), ((v16, v17, v18, ()), ())))) else (some (.inr ((v10, v11, v12, v13, v14, v15, ()), ((v16, v17, v18, ()), ()))))) else (some (.inr ((v10, v11, v12, v13, v14, v15, ()), ((v16, v17, v18, ()), ()))))
def tK : Loop := ⟨⟨dm 74 0 [(4, .val dy), (6, .val cZ), (9, .val cZ), (10, .obj 0), (39, .val eI), (40, .val cZ), (41, .val cZ)], [lL]⟩, [(.exit 3, ⟨dm 74 0 [(4, .val dy), (6, .val cZ), (39, .val eI), (40, .val cZ), (41, .val cZ)], [lL]⟩), (.norm, ⟨dm 74 0 [(4, .val dy), (6, .val cZ), (9, .val cZ), (10, .obj 0), (39, .val eI), (40, .val cZ), (41, .val cZ)], [lL]⟩)], ((List Int) × Int × Int × dp × Int × Int × Int × Int × Int), fun x => ((d7 (U_ v_)) x, (dD u_) x.2.2.2.2.2.2, ()), fun (x : F4) => (iX (J_ j_)) x.1 ((dD k_) x.2.1), ((F6 × pt) ⊕ F4), fun y => y, fun y => y, (eo (dZ (C_ q_))) (l4 n)⟩
def nQ (F : ((List Int) × Int × dp × Int × Int) → Option ((pw ⊕ ng))) (v5 : (List Int)) (v6 : Int) (v7 : dp) (v8 v9 : Int) : Option ((pw ⊕ ng)) := if (decide (v9 < v8)) then (if (decide (0 ≤ v9) && decide (v9 < (v7.length : Int))) then ((l4 n v5 v6 v9 v7 v8 v9 ((v7.getD v9.toNat (0, (0, 0))).1) ((v7.getD v9.toNat (0, (0, 0))).2.1) ((v7.getD v9.toNat (0, (0, 0))).2.2)).bind fun y10 => ((Sum.elim (fun (z11 : (F6 × pt)) => (F (z11.1.1, z11.1.2.1, z11.1.2.2.1, z11.1.2.2.2.1, (wrap .i64 (z11.1.2.2.2.2.1 + 1))))) (fun (z12 : F4) => (if (decide ((wrap .i64 ((wrap .i64 (z12.1.2.2.1 + 1)) + z12.2.1.2.1)) > z12.1.2.1)) then (some (.inl ((8, ()), ()))) else (if (decide (0 ≤ (wrap .i64 ((wrap .i64 (z12.1.2.2.1 + 1)) + z12.2.1.2.1))) && decide ((wrap .i64 ((wrap .i64 (z12.1.2.2.1 + 1)) + z12.2.1.2.1)) < (z12.1.1.length : Int))) then (if (decide (0 ≤ z12.1.2.2.1) && decide (z12.1.2.2.1 < (z12.1.1.length : Int))) then (if ((z12.1.1.getD ((wrap .i64 ((wrap .i64 (z12.1.2.2.1 + 1)) + z12.2.1.2.1))).toNat 0) != (z12.1.1.getD z12.1.2.2.1.toNat 0)) then (some (.inl ((8, ()), ()))) else (F (z12.1.1, z12.1.2.1, z12.1.2.2.2.1, z12.1.2.2.2.2.1, (wrap .i64 (z12.1.2.2.2.2.2.1 + 1))))) else none) else none)))) y10)) else none) else (some (.inr ((), ())))
def tL : ((List Int) × Int × dp × Int × Int) → Option ((pw ⊕ ng)) := it (fun F => (dZ (C_ q_)) (nQ n F)) n
def Ai : Loop := ⟨⟨dm 74 0 [(4, .val dy), (6, .val cZ), (39, .val eI), (40, .val cZ), (41, .val cZ)], []⟩, [(.ret, ⟨dm 74 0 [(2, .val cZ)], []⟩), (.exit 2, ⟨dm 74 0 [], []⟩)], ((List Int) × Int × dp × Int × Int), fun x => ((d7 u_) x, ()), fun (x : (F6 × Unit)) => (d7 k_) x.1, (pw ⊕ ng), fun y => y, fun y => y, tL n⟩
def tM (a0 : dp) : Option Int := (ow n a0).bind fun y1 => (if (y1.2.2 != 0) then (some y1.2.2) else ((tJ n (a0, y1.2.1, (wrap .i64 ((a0.length : Int) - 1)), a0, (a0.length : Int), 0)).bind fun y2 => ((Sum.elim (fun (z3 : pw) => (some z3.1.1)) (fun (z4 : zn) => ((tL n (z4.1.2.1, z4.1.2.2.1, z4.1.1, (z4.1.1.length : Int), 0)).bind fun y13 => ((Sum.elim (fun (z14 : pw) => (some z14.1.1)) (fun (z15 : ng) => (some 0))) y13)))) y2)))
def EN : FS := ⟨⟨[.val eI], []⟩, ⟨[.val cZ], []⟩, Int, fun y => ((y, ()), ()), fun o => o.1.1, fun x => tM n x.1.1⟩
theorem Hz : ∀ F x, dH (c7 n) 14 60 0 6 (Ah n) F x = (eo q_) (nP n F) x := fun F x => by kernel_rfl
def tN : Cx := Cx.addLoop (c7 n) 60 6 (Ah n)
theorem HA : Good (tN n) := Good.loop (g7 n) 14 0 (by kernel_rfl) (Hz n) n (fun _ => rfl) (fun _ => rfl) (fun _ => rfl) rfl
theorem HB : ∀ x, jl (tN n) 14 60 0 1000015 (tK n) x = (tK n).fn x := fun x => by kernel_rfl
def tO : Cx := Cx.addLoop (tN n) 60 1000015 (tK n)
theorem HC : Good (tO n) := gJ (HA n) 14 0 (by kernel_rfl) (HB n) (fun _ => rfl) (fun _ => rfl) rfl
theorem HD : ∀ F x, dH (tO n) 14 60 0 12 (Ai n) F x = (dZ (C_ q_)) (nQ n F) x := fun F x => by kernel_rfl
def tP : Cx := Cx.addLoop (tO n) 60 12 (Ai n)
theorem HE : Good (tP n) := Good.loop (HC n) 14 0 (by kernel_rfl) (HD n) n (fun _ => rfl) (fun _ => rfl) (fun _ => rfl) rfl
theorem M5 : dA (tP n) 14 60 0 (EN n) := fun x => by kernel_rfl
def c8 : Cx := (Cx.bare (tP n)).addSpec 60 (EN n)
theorem g8 : Good (c8 n) := Good.fn (HE n) 14 0 (M5 n) (fun _ => rfl) rfl
def fP (n : Nat) (F : JU → Option ((List Int))) (v5 : dp) (v6 v7 : (List Int)) (v8 v9 : Int) : Option ((List Int)) := if (decide (v9 < v8)) then (if (decide (0 ≤ v9) && decide (v9 < (v6.length : Int))) then (if ((v6.getD v9.toNat 0) == (-1)) then (F (v5, v6, v7, v8, (wrap .i64 (v9 + 1)))) else (if (decide (0 ≤ (v6.getD v9.toNat 0)) && decide ((v6.getD v9.toNat 0) < (v7.length : Int))) then (if (decide (0 ≤ v9) && decide (v9 < (v7.length : Int))) then (if (decide (0 ≤ (v6.getD v9.toNat 0)) && decide ((v6.getD v9.toNat 0) < (v5.length : Int))) then (if ((v5.getD ((v6.getD v9.toNat 0)).toNat (0, (0, 0))).1 == 23) then (if (decide (0 ≤ v9) && decide (v9 < (((v7.set v9.toNat (v7.getD ((v6.getD v9.toNat 0)).toNat 0)).length : Nat) : Int))) then (if (decide (0 ≤ (v6.getD v9.toNat 0)) && decide ((v6.getD v9.toNat 0) < (v5.length : Int))) then (if decide ((v5.getD ((v6.getD v9.toNat 0)).toNat (0, (0, 0))).2.1 < 0) then none else (if (decide (0 ≤ v9) && decide (v9 < (((v7.set v9.toNat (v7.getD ((v6.getD v9.toNat 0)).toNat 0)).length : Nat) : Int))) then (F (v5, v6, ((v7.set v9.toNat (v7.getD ((v6.getD v9.toNat 0)).toNat 0)).set v9.toNat (bits .or .i64 ((v7.set v9.toNat (v7.getD ((v6.getD v9.toNat 0)).toNat 0)).getD v9.toNat 0) (wrap .i64 (1 * 2 ^ (min ((v5.getD ((v6.getD v9.toNat 0)).toNat (0, (0, 0))).2.1).toNat 64))))), v8, (wrap .i64 (v9 + 1)))) else none)) else none) else none) else (F (v5, v6, (v7.set v9.toNat (v7.getD ((v6.getD v9.toNat 0)).toNat 0)), v8, (wrap .i64 (v9 + 1))))) else none) else none) else none)) else none) else (some v7)
def l5 : JU → Option ((List Int)) := it (fun F => (dZ (C_ q_)) (fP n F)) n
def pO : Loop := ⟨⟨dm 60 0 [(0, .val eI), (5, .val dy), (7, .row 3 cZ), (23, .val cZ), (24, .val cZ)], []⟩, [(.exit 0, ⟨dm 60 0 [(7, .row 3 cZ)], []⟩)], JU, fun x => ((d7 u_) x, ()), fun (x : ((dp × (List Int) × (List Int) × Int × Int × Unit) × Unit)) => (d7 k_) x.1, (List Int), fun y => ((y, ()), ()), fun (o : (kq × Unit)) => o.1.1, l5 n⟩
def mz (a0 : dp) : Option kr := (ow n a0).bind fun y1 => (if (y1.2.2 != 0) then (some ([], y1.2.2)) else (if (decide (0 ≤ (a0.length : Int)) && ((a0.length : Int) == (a0.length : Int)) && decide ((a0.length : Int) * (8 : Int) ≤ 140737488355328) && decide (1 ≤ 8)) then ((l5 n (a0, y1.2.1, (List.replicate ((a0.length : Int)).toNat (0 : Int)), (a0.length : Int), 0)).bind fun y2 => (some (y2, 0))) else none))
def tQ : FS := ⟨⟨[.val eI], []⟩, ⟨[.val dy, .val cZ], []⟩, kr, fun y => ((U_ u_) y, ()), fun o => (o.1.1, o.1.2.1), fun x => mz n x.1.1⟩
theorem zu : ∀ F x, dH (c8 n) 14 61 0 6 (pO n) F x = (dZ (C_ q_)) (fP n F) x := fun F x => by kernel_rfl
def l6 : Cx := Cx.addLoop (c8 n) 61 6 (pO n)
theorem zv : Good (l6 n) := Good.loop (g8 n) 14 0 (by kernel_rfl) (zu n) n (fun _ => rfl) (fun _ => rfl) (fun _ => rfl) rfl
theorem D9 : dA (l6 n) 14 61 0 (tQ n) := fun x => by kernel_rfl
def c9 : Cx := (Cx.bare (l6 n)).addSpec 61 (tQ n)
theorem g9 : Good (c9 n) := Good.fn (zv n) 14 0 (D9 n) (fun _ => rfl) rfl
def mA (a0 : dp) : Option kr := (ow n a0).bind fun y1 => (some (y1.2.1, y1.2.2))
def tR : FS := ⟨⟨[.val eI], []⟩, ⟨[.val dy, .val cZ], []⟩, kr, fun y => ((U_ u_) y, ()), fun o => (o.1.1, o.1.2.1), fun x => mA n x.1.1⟩
theorem Ea : dA (c9 n) 14 62 0 (tR n) := fun x => by kernel_rfl
def M6 : Cx := (Cx.bare (c9 n)).addSpec 62 (tR n)
theorem Qr : Good (M6 n) := Good.fn (g9 n) 14 0 (Ea n) (fun _ => rfl) rfl
def gj (n : Nat) (F : (dp × (List Int) × Int) → Option (iY)) (v1 : dp) (v2 : (List Int)) (v3 : Int) : Option (iY) := if (v3 != (-1)) then (if (decide (0 ≤ v3) && decide (v3 < (v1.length : Int))) then (if ((v1.getD v3.toNat (0, (0, 0))).1 == 21) then (some (.inl ((true, ()), ()))) else (if (decide (0 ≤ v3) && decide (v3 < (v2.length : Int))) then (F (v1, v2, (v2.getD v3.toNat 0))) else none)) else none) else (some (.inr ((), ())))
def ku : (dp × (List Int) × Int) → Option (iY) := it (fun F => (C_ q_) (gj n F)) n
def ox : Loop := ⟨⟨dm 24 0 [(0, .val eI), (1, .val dy), (7, .val cZ)], []⟩, [(.ret, ⟨dm 24 0 [(6, .val .bool)], []⟩), (.exit 0, ⟨dm 24 0 [], []⟩)], (dp × (List Int) × Int), fun x => ((dD u_) x, ()), fun (x : zn) => (x.1.1, x.1.2.1, x.1.2.2.1), iY, fun y => y, fun y => y, ku n⟩
def kh (a0 : dp) (a1 : (List Int)) (a2 : Int) : Option Bool := if (decide (0 ≤ a2) && decide (a2 < (a1.length : Int))) then ((ku n (a0, a1, (a1.getD a2.toNat 0))).bind fun y4 => ((Sum.elim (fun (z5 : (eJ × Unit)) => (some z5.1.1)) (fun (z6 : ng) => (some false))) y4)) else none
def pP : FS := ⟨⟨[.val eI, .val dy, .val cZ], []⟩, ⟨[.val .bool], []⟩, Bool, fun y => ((y, ()), ()), fun o => o.1.1, fun x => kh n x.1.1 x.1.2.1 x.1.2.2.1⟩
theorem wK : ∀ F x, dH (M6 n) 14 63 0 2 (ox n) F x = (C_ q_) (gj n F) x := fun F x => by kernel_rfl
def kv : Cx := Cx.addLoop (M6 n) 63 2 (ox n)
theorem wL : Good (kv n) := Good.loop (Qr n) 14 0 (by kernel_rfl) (wK n) n (fun _ => rfl) (fun _ => rfl) (fun _ => rfl) rfl
theorem Ba : dA (kv n) 14 63 0 (pP n) := fun x => by kernel_rfl
def M7 : Cx := (Cx.bare (kv n)).addSpec 63 (pP n)
theorem Qs : Good (M7 n) := Good.fn (wL n) 14 0 (Ba n) (fun _ => rfl) rfl
def vq (v17 : dp) (v18 v19 v20 : (List Int)) (v21 : Bool) (v22 : Int) (v23 : Bool) (v24 : dp) (v25 v26 v27 v28 v29 : Int) : Option (M2) := if (v27 == 23) then (if (!v21) then (if (decide (0 ≤ v22) && decide (v22 < (v18.length : Int))) then (if decide (v28 < 0) then none else (if (((v18.getD v22.toNat 0).fdiv (2 ^ (min v28.toNat 64))) == 0) then ((kh n v17 v19 v22).bind fun y30 => (if (decide ((v20.length + 1) * 8 ≤ 140737488355328) && decide (1 ≤ 8)) then (some (v17, v18, v19, (v20 ++ [v28]), v21, (!y30), v24, v25, v26, v27, v28, v29)) else none)) else (if (decide ((v20.length + 1) * 8 ≤ 140737488355328) && decide (1 ≤ 8)) then (some (v17, v18, v19, (v20 ++ [v28]), v21, false, v24, v25, v26, v27, v28, v29)) else none))) else none) else (if (decide ((v20.length + 1) * 8 ≤ 140737488355328) && decide (1 ≤ 8)) then (some (v17, v18, v19, (v20 ++ [v28]), v21, false, v24, v25, v26, v27, v28, v29)) else none)) else (if (v27 == 24) then (some (v17, v18, v19, v20, true, v23, v24, v25, v26, v27, v28, v29)) else (if (v27 == 17) then (if (decide (0 ≤ v22) && decide (v22 < (v18.length : Int))) then (if decide (v28 < 0) then none else (some (v17, v18, v19, v20, v21, ((bits .and .i64 ((v18.getD v22.toNat 0).fdiv (2 ^ (min v28.toNat 64))) 1) == 1), v24, v25, v26, v27, v28, v29))) else none) else (if (v27 == 18) then (if (decide (0 ≤ v22) && decide (v22 < (v18.length : Int))) then (if decide (v28 < 0) then none else (some (v17, v18, v19, v20, v21, ((bits .and .i64 ((v18.getD v22.toNat 0).fdiv (2 ^ (min v28.toNat 64))) 1) == 1), v24, v25, v26, v27, v28, v29))) else none) else (some (v17, v18, v19, v20, v21, v23, v24, v25, v26, v27, v28, v29)))))
def tS : Loop := ⟨⟨dm 82 0 [(0, .val eI), (5, .val dy), (7, .val dy), (9, .row 3 cZ), (10, .val .bool), (11, .val cZ), (12, .obj 0), (13, .val .bool), (29, .val eI), (30, .val cZ), (31, .val cZ)], [lL]⟩, [(.norm, ⟨dm 82 0 [(0, .val eI), (5, .val dy), (7, .val dy), (9, .row 3 cZ), (10, .val .bool), (13, .val .bool), (29, .val eI), (30, .val cZ), (31, .val cZ)], [lL]⟩)], (dp × (List Int) × (List Int) × (List Int) × Bool × Int × Bool × dp × Int × Int × Int × Int × Int), fun x => ((dC (U_ v_)) x, (dD u_) x.2.2.2.2.2.2.2.2.2.2, ()), fun (x : ((dp × (List Int) × (List Int) × (List Int) × Bool × Int × Bool × dp × Int × Int × Unit) × pt)) => (yj (J_ j_)) x.1 ((dD k_) x.2.1), M2, fun y => ((dC v_) y, (dD u_) y.2.2.2.2.2.2.2.2.2, ()), fun (o : ((dp × (List Int) × (List Int) × (List Int) × Bool × Bool × dp × Int × Int × Unit) × pt)) => (yj j_) o.1 ((dD k_) o.2.1), (fL (dZ (C_ q_))) (vq n)⟩
def nR (F : JP → Option ((wH ⊕ (kq × Unit)))) (v9 : dp) (v10 v11 v12 : (List Int)) (v13 : Bool) (v14 : dp) (v15 v16 : Int) : Option ((wH ⊕ (kq × Unit))) := if (decide (v16 < v15)) then (if (decide (0 ≤ v16) && decide (v16 < (v14.length : Int))) then ((vq n v9 v10 v11 v12 v13 v16 true v14 v15 v16 ((v14.getD v16.toNat (0, (0, 0))).1) ((v14.getD v16.toNat (0, (0, 0))).2.1) ((v14.getD v16.toNat (0, (0, 0))).2.2)).bind fun y17 => (if (!y17.2.2.2.2.2.1) then (some (.inl (([], 11, ()), ()))) else (F (y17.1, y17.2.1, y17.2.2.1, y17.2.2.2.1, y17.2.2.2.2.1, y17.2.2.2.2.2.2.1, y17.2.2.2.2.2.2.2.1, (wrap .i64 (y17.2.2.2.2.2.2.2.2.1 + 1)))))) else none) else (some (.inr ((v12, ()), ())))
def tT : JP → Option ((wH ⊕ (kq × Unit))) := it (fun F => (eo (dZ q_)) (nR n F)) n
def Aj : Loop := ⟨⟨dm 82 0 [(0, .val eI), (5, .val dy), (7, .val dy), (9, .row 3 cZ), (10, .val .bool), (29, .val eI), (30, .val cZ), (31, .val cZ)], []⟩, [(.ret, ⟨dm 82 0 [(2, .row 3 cZ), (3, .val cZ)], []⟩), (.exit 0, ⟨dm 82 0 [(9, .row 3 cZ)], []⟩)], JP, fun x => ((d7 (dD (U_ u_))) x, ()), fun (x : ((dp × (List Int) × (List Int) × (List Int) × Bool × dp × Int × Int × Unit) × Unit)) => (d7 (dD (U_ k_))) x.1, (wH ⊕ (kq × Unit)), fun y => y, fun y => y, tT n⟩
def mR (a0 : dp) : Option kr := (tM n a0).bind fun y1 => (if (y1 != 0) then (some ([], y1)) else ((mz n a0).bind fun y2 => ((mA n a0).bind fun y3 => ((tT n (a0, y2.1, y3.1, [], false, a0, (a0.length : Int), 0)).bind fun y4 => ((Sum.elim (fun (z5 : wH) => (some (z5.1.1, z5.1.2.1))) (fun (z6 : (kq × Unit)) => (some (z6.1.1, 0)))) y4)))))
def EO : FS := ⟨⟨[.val eI], []⟩, ⟨[.val dy, .val cZ], []⟩, kr, fun y => ((U_ u_) y, ()), fun o => (o.1.1, o.1.2.1), fun x => mR n x.1.1⟩
theorem HF : ∀ x, jl (M7 n) 14 42 0 1000021 (tS n) x = (tS n).fn x := fun x => by kernel_rfl
def tU : Cx := Cx.addLoop (M7 n) 42 1000021 (tS n)
theorem HG : Good (tU n) := gJ (Qs n) 14 0 (by kernel_rfl) (HF n) (fun _ => rfl) (fun _ => rfl) rfl
theorem HH : ∀ F x, dH (tU n) 14 42 0 9 (Aj n) F x = (eo (dZ q_)) (nR n F) x := fun F x => by kernel_rfl
def tV : Cx := Cx.addLoop (tU n) 42 9 (Aj n)
theorem HI : Good (tV n) := Good.loop (HG n) 14 0 (by kernel_rfl) (HH n) n (fun _ => rfl) (fun _ => rfl) (fun _ => rfl) rfl
theorem M8 : dA (tV n) 14 42 0 (EO n) := fun x => by kernel_rfl
def M9 : Cx := (Cx.bare (tV n)).addSpec 42 (EO n)
theorem Qt : Good (M9 n) := Good.fn (HI n) 14 0 (M8 n) (fun _ => rfl) rfl
def ij (a0 : dp) : Option kr := (ow n a0).bind fun y1 => (some (y1.1, y1.2.2))
def si : FS := ⟨⟨[.val eI], []⟩, ⟨[.val dy, .val cZ], []⟩, kr, fun y => ((U_ u_) y, ()), fun o => (o.1.1, o.1.2.1), fun x => ij n x.1.1⟩
theorem CJ : dA (M9 n) 14 44 0 (si n) := fun x => by kernel_rfl
def Na : Cx := (Cx.bare (M9 n)).addSpec 44 (si n)
theorem Qu : Good (Na n) := Good.fn (Qt n) 14 0 (CJ n) (fun _ => rfl) rfl
def iF (a0 : jo) : Option ByteArray := (dd n (a0.1, (a0.2.1, a0.2.2))).bind fun y1 => (if (!y1) then (some (ByteArray.mk #[])) else (if ((a0.1 == 1) || ((a0.1 == 11) || ((a0.1 == 13) || ((a0.1 == 15) || ((a0.1 == 17) || false))))) then (some (ByteArray.mk #[])) else (if ((a0.1 == 12) || ((a0.1 == 14) || ((a0.1 == 16) || ((a0.1 == 18) || false)))) then (some (ByteArray.mk #[105])) else (if ((a0.1 == 2) || false) then (some (ByteArray.mk #[32])) else (if ((a0.1 == 3) || false) then (some (ByteArray.mk #[32])) else (if ((a0.1 == 4) || false) then (some (ByteArray.mk #[32, 32])) else (if ((a0.1 == 5) || false) then (some (ByteArray.mk #[105, 105])) else (if ((a0.1 == 6) || false) then (some (ByteArray.mk #[105])) else (if ((a0.1 == 7) || false) then (some (ByteArray.mk #[98])) else (if ((a0.1 == 8) || ((a0.1 == 9) || false)) then (some (ByteArray.mk #[98, 98])) else (if ((a0.1 == 10) || false) then (some (ByteArray.mk #[98])) else (if ((a0.1 == 20) || false) then (some (ByteArray.mk #[98])) else (some ByteArray.empty)))))))))))))
def pQ : FS := ⟨⟨[.val ig], []⟩, ⟨[.val .str], []⟩, ByteArray, fun y => ((y, ()), ()), fun o => o.1.1, fun x => iF n x.1.1⟩
theorem Bb : dA (Na n) 14 143 0 (pQ n) := fun x => by kernel_rfl
def Nb : Cx := (Cx.bare (Na n)).addSpec 143 (pQ n)
theorem Qv : Good (Nb n) := Good.fn (Qu n) 14 0 (Bb n) (fun _ => rfl) rfl
def nS (n : Nat) (F : (ByteArray × ByteArray × Int × Int) → Option (iY)) (v1 v2 : ByteArray) (v3 v4 : Int) : Option (iY) := if (decide (v4 < v3)) then (if (decide (0 ≤ v4) && decide (v4 < (v2.size : Int))) then (if (decide (0 ≤ 0) && decide (0 < (((ByteArray.mk #[32]).size : Nat) : Int))) then (if ((bt v2 v4) != (bt (ByteArray.mk #[32]) 0)) then (if (decide (0 ≤ v4) && decide (v4 < (v2.size : Int))) then (if (decide (0 ≤ v4) && decide (v4 < (v1.size : Int))) then (if ((bt v2 v4) != (bt v1 v4)) then (some (.inl ((false, ()), ()))) else (F (v1, v2, v3, (wrap .i64 (v4 + 1))))) else none) else none) else (F (v1, v2, v3, (wrap .i64 (v4 + 1))))) else none) else none) else (some (.inr ((), ())))
def tW : (ByteArray × ByteArray × Int × Int) → Option (iY) := it (fun F => (dZ q_) (nS n F)) n
def Ak : Loop := ⟨⟨dm 31 0 [(0, .val .str), (1, .val .str), (12, .val cZ), (13, .val cZ)], []⟩, [(.ret, ⟨dm 31 0 [(4, .val .bool)], []⟩), (.exit 0, ⟨dm 31 0 [], []⟩)], (ByteArray × ByteArray × Int × Int), fun x => ((dD (U_ u_)) x, ()), fun (x : ((ByteArray × ByteArray × Int × Int × Unit) × Unit)) => (dD (U_ k_)) x.1, iY, fun y => y, fun y => y, tW n⟩
def d5 (a0 : ByteArray) (a1 : ByteArray) : Option Bool := if ((a0.size : Int) != (a1.size : Int)) then (some false) else ((tW n (a0, a1, (a1.size : Int), 0)).bind fun y5 => ((Sum.elim (fun (z6 : (eJ × Unit)) => (some z6.1.1)) (fun (z7 : ng) => (some true))) y5))
def EP : FS := ⟨⟨[.val .str, .val .str], []⟩, ⟨[.val .bool], []⟩, Bool, fun y => ((y, ()), ()), fun o => o.1.1, fun x => d5 n x.1.1 x.1.2.1⟩
theorem HJ : ∀ F x, dH (Nb n) 14 144 0 4 (Ak n) F x = (dZ q_) (nS n F) x := fun F x => by kernel_rfl
def tX : Cx := Cx.addLoop (Nb n) 144 4 (Ak n)
theorem HK : Good (tX n) := Good.loop (Qv n) 14 0 (by kernel_rfl) (HJ n) n (fun _ => rfl) (fun _ => rfl) (fun _ => rfl) rfl
theorem Nc : dA (tX n) 14 144 0 (EP n) := fun x => by kernel_rfl
def Nd : Cx := (Cx.bare (tX n)).addSpec 144 (EP n)
theorem Qw : Good (Nd n) := Good.fn (HK n) 14 0 (Nc n) (fun _ => rfl) rfl
def f8 (n : Nat) (a0 : jo) (a1 : ByteArray) : Option ByteArray := if decide (a1.size + a1.size ≤ 140737488351232) then (some (a1 ++ a1)) else none
def mS : FS := ⟨⟨[.val ig, .val .str], []⟩, ⟨[.val .str], []⟩, ByteArray, fun y => ((y, ()), ()), fun o => o.1.1, fun x => f8 n x.1.1 x.1.2.1⟩
theorem vH : dA (Nd n) 14 171 0 (mS n) := fun x => by kernel_rfl
def Nf : Cx := (Cx.bare (Nd n)).addSpec 171 (mS n)
theorem Qx : Good (Nf n) := Good.fn (Qw n) 14 0 (vH n) (fun _ => rfl) rfl
def f9 (n : Nat) (a0 : jo) (a1 : ByteArray) : Option ByteArray := if (decide (0 ≤ 1) && decide (1 ≤ (a1.size : Int))) then (if (decide (0 ≤ 1) && decide (1 ≤ (a1.size : Int))) then (if decide ((a1.extract 1 a1.size).size + (a1.extract 0 1).size ≤ 140737488351232) then (some ((a1.extract 1 a1.size) ++ (a1.extract 0 1))) else none) else none) else none
def mT : FS := ⟨⟨[.val ig, .val .str], []⟩, ⟨[.val .str], []⟩, ByteArray, fun y => ((y, ()), ()), fun o => o.1.1, fun x => f9 n x.1.1 x.1.2.1⟩
theorem vI : dA (Nf n) 14 172 0 (mT n) := fun x => by kernel_rfl
def Ng : Cx := (Cx.bare (Nf n)).addSpec 172 (mT n)
theorem Qy : Good (Ng n) := Good.fn (Qx n) 14 0 (vI n) (fun _ => rfl) rfl
def jV (n : Nat) (a0 : jo) (a1 : ByteArray) : Option ByteArray := if (a0.2.1 == 11) then (some (ByteArray.mk #[98])) else (if (a0.2.1 == 12) then (some (ByteArray.mk #[98])) else (some (ByteArray.mk #[105])))
def tY : FS := ⟨⟨[.val ig, .val .str], []⟩, ⟨[.val .str], []⟩, ByteArray, fun y => ((y, ()), ()), fun o => o.1.1, fun x => jV n x.1.1 x.1.2.1⟩
theorem Eb : dA (Ng n) 14 173 0 (tY n) := fun x => by kernel_rfl
def Nh : Cx := (Cx.bare (Ng n)).addSpec 173 (tY n)
theorem Qz : Good (Nh n) := Good.fn (Qy n) 14 0 (Eb n) (fun _ => rfl) rfl
def ki (a0 : jo) (a1 : ByteArray) : Option ByteArray := if ((a0.1 == 1) || ((a0.1 == 11) || ((a0.1 == 13) || ((a0.1 == 15) || ((a0.1 == 17) || false))))) then ((dd n (a0.1, (a0.2.1, a0.2.2))).bind fun y1 => (if (!y1) then (some (ByteArray.mk #[])) else ((d5 n a1 (ByteArray.mk #[])).bind fun y2 => (if (!y2) then (some (ByteArray.mk #[])) else (some (ByteArray.mk #[105])))))) else (if ((a0.1 == 12) || ((a0.1 == 14) || ((a0.1 == 16) || ((a0.1 == 18) || false)))) then ((dd n (a0.1, (a0.2.1, a0.2.2))).bind fun y3 => (if (!y3) then (some (ByteArray.mk #[])) else ((d5 n a1 (ByteArray.mk #[105])).bind fun y4 => (if (!y4) then (some (ByteArray.mk #[])) else (some (ByteArray.mk #[])))))) else (if ((a0.1 == 2) || false) then ((dd n (a0.1, (a0.2.1, a0.2.2))).bind fun y5 => (if (!y5) then (some (ByteArray.mk #[])) else ((d5 n a1 (ByteArray.mk #[32])).bind fun y6 => (if (!y6) then (some (ByteArray.mk #[])) else (some (ByteArray.mk #[])))))) else (if ((a0.1 == 3) || false) then ((dd n (a0.1, (a0.2.1, a0.2.2))).bind fun y7 => (if (!y7) then (some (ByteArray.mk #[])) else ((d5 n a1 (ByteArray.mk #[32])).bind fun y8 => (if (!y8) then (some (ByteArray.mk #[])) else ((f8 n (a0.1, (a0.2.1, a0.2.2)) a1).bind fun y9 => (some y9)))))) else (if ((a0.1 == 4) || false) then ((dd n (a0.1, (a0.2.1, a0.2.2))).bind fun y10 => (if (!y10) then (some (ByteArray.mk #[])) else ((d5 n a1 (ByteArray.mk #[32, 32])).bind fun y11 => (if (!y11) then (some (ByteArray.mk #[])) else ((f9 n (a0.1, (a0.2.1, a0.2.2)) a1).bind fun y12 => (some y12)))))) else (if ((a0.1 == 5) || false) then ((dd n (a0.1, (a0.2.1, a0.2.2))).bind fun y13 => (if (!y13) then (some (ByteArray.mk #[])) else ((d5 n a1 (ByteArray.mk #[105, 105])).bind fun y14 => (if (!y14) then (some (ByteArray.mk #[])) else ((jV n (a0.1, (a0.2.1, a0.2.2)) a1).bind fun y15 => (some y15)))))) else (if ((a0.1 == 6) || false) then ((dd n (a0.1, (a0.2.1, a0.2.2))).bind fun y16 => (if (!y16) then (some (ByteArray.mk #[])) else ((d5 n a1 (ByteArray.mk #[105])).bind fun y17 => (if (!y17) then (some (ByteArray.mk #[])) else (some (ByteArray.mk #[105])))))) else (if ((a0.1 == 7) || false) then ((dd n (a0.1, (a0.2.1, a0.2.2))).bind fun y18 => (if (!y18) then (some (ByteArray.mk #[])) else ((d5 n a1 (ByteArray.mk #[98])).bind fun y19 => (if (!y19) then (some (ByteArray.mk #[])) else (some (ByteArray.mk #[98])))))) else (if ((a0.1 == 8) || ((a0.1 == 9) || false)) then ((dd n (a0.1, (a0.2.1, a0.2.2))).bind fun y20 => (if (!y20) then (some (ByteArray.mk #[])) else ((d5 n a1 (ByteArray.mk #[98, 98])).bind fun y21 => (if (!y21) then (some (ByteArray.mk #[])) else (some (ByteArray.mk #[98])))))) else (if ((a0.1 == 10) || false) then ((dd n (a0.1, (a0.2.1, a0.2.2))).bind fun y22 => (if (!y22) then (some (ByteArray.mk #[])) else ((d5 n a1 (ByteArray.mk #[98])).bind fun y23 => (if (!y23) then (some (ByteArray.mk #[])) else (some (ByteArray.mk #[105])))))) else (if ((a0.1 == 20) || false) then ((dd n (a0.1, (a0.2.1, a0.2.2))).bind fun y24 => (if (!y24) then (some (ByteArray.mk #[])) else ((d5 n a1 (ByteArray.mk #[98])).bind fun y25 => (if (!y25) then (some (ByteArray.mk #[])) else (some (ByteArray.mk #[])))))) else (some (ByteArray.mk #[]))))))))))))
def pR : FS := ⟨⟨[.val ig, .val .str], []⟩, ⟨[.val .str], []⟩, ByteArray, fun y => ((y, ()), ()), fun o => o.1.1, fun x => ki n x.1.1 x.1.2.1⟩
theorem Bc : dA (Nh n) 14 145 0 (pR n) := fun x => by kernel_rfl
def Ni : Cx := (Cx.bare (Nh n)).addSpec 145 (pR n)
theorem QA : Good (Ni n) := Good.fn (Qz n) 14 0 (Bc n) (fun _ => rfl) rfl
def iG (a0 : jo) (a1 : ByteArray) : Option (ByteArray × Int) := (iF n (a0.1, (a0.2.1, a0.2.2))).bind fun y1 => (if (decide ((wrap .i64 ((a1.size : Int) - (y1.size : Int))) < 0)) then (some ((ByteArray.mk #[]), 9)) else (if (decide (0 ≤ (wrap .i64 ((a1.size : Int) - (y1.size : Int)))) && decide ((wrap .i64 ((a1.size : Int) - (y1.size : Int))) ≤ (a1.size : Int))) then ((iF n (a0.1, (a0.2.1, a0.2.2))).bind fun y2 => ((d5 n (a1.extract ((wrap .i64 ((a1.size : Int) - (y1.size : Int)))).toNat a1.size) y2).bind fun y3 => (if (!y3) then (some ((ByteArray.mk #[]), 10)) else (if (decide (0 ≤ (wrap .i64 ((a1.size : Int) - (y1.size : Int)))) && decide ((wrap .i64 ((a1.size : Int) - (y1.size : Int))) ≤ (a1.size : Int))) then (if (decide (0 ≤ (wrap .i64 ((a1.size : Int) - (y1.size : Int)))) && decide ((wrap .i64 ((a1.size : Int) - (y1.size : Int))) ≤ (a1.size : Int))) then ((ki n (a0.1, (a0.2.1, a0.2.2)) (a1.extract ((wrap .i64 ((a1.size : Int) - (y1.size : Int)))).toNat a1.size)).bind fun y4 => (if decide ((a1.extract 0 ((wrap .i64 ((a1.size : Int) - (y1.size : Int)))).toNat).size + y4.size ≤ 140737488351232) then (if (decide (((((a1.extract 0 ((wrap .i64 ((a1.size : Int) - (y1.size : Int)))).toNat) ++ y4).size : Nat) : Int) > 16)) then (some ((ByteArray.mk #[]), 9)) else (some (((a1.extract 0 ((wrap .i64 ((a1.size : Int) - (y1.size : Int)))).toNat) ++ y4), 0))) else none)) else none) else none)))) else none))
def pS : FS := ⟨⟨[.val ig, .val .str], []⟩, ⟨[.val .str, .val cZ], []⟩, (ByteArray × Int), fun y => ((U_ u_) y, ()), fun o => (o.1.1, o.1.2.1), fun x => iG n x.1.1 x.1.2.1⟩
theorem Bd : dA (Ni n) 14 118 0 (pS n) := fun x => by kernel_rfl
def Nj : Cx := (Cx.bare (Ni n)).addSpec 118 (pS n)
theorem QB : Good (Nj n) := Good.fn (QA n) 14 0 (Bd n) (fun _ => rfl) rfl
def jW (n : Nat) (v3 : Int) (v4 : ByteArray) (v5 : (List ByteArray)) (v6 v7 : (List Bool)) : Option (JQ) := if (decide (0 ≤ v3) && decide (v3 < (v6.length : Int))) then (if (v6.getD v3.toNat false) then (if (decide (0 ≤ v3) && decide (v3 < (v5.length : Int))) then (if (!((v5.getD v3.toNat ByteArray.empty).toList == v4.toList)) then (if (decide (0 ≤ v3) && decide (v3 < (v7.length : Int))) then (some (v3, v4, v5, v6, (v7.set v3.toNat true))) else none) else (some (v3, v4, v5, v6, v7))) else none) else (some (v3, v4, v5, v6, v7))) else none
def wM : Loop := ⟨⟨dm 43 0 [(0, .obj 0), (1, .val cZ), (2, .val .str)], [wa]⟩, [(.norm, ⟨dm 43 0 [(0, .obj 0), (1, .val cZ), (2, .val .str)], [wa]⟩)], JQ, fun x => ((U_ v_) x, (dD u_) x.2.2, ()), fun (x : ((Int × ByteArray × Unit) × (se × Unit))) => (J_ j_) x.1 ((dD k_) x.2.1), JQ, fun y => ((U_ v_) y, (dD u_) y.2.2, ()), fun (o : ((Int × ByteArray × Unit) × (se × Unit))) => (J_ j_) o.1 ((dD k_) o.2.1), (dZ (C_ q_)) (jW n)⟩
def CK (n : Nat) (v16 : Int) (v17 : (List Int)) (v18 : ByteArray) (v19 : (List ByteArray)) (v20 v21 : (List Bool)) (v22 v23 v24 : Int) : Option (((gA × (se × rl × Unit)) ⊕ CD)) := if (decide (0 ≤ v16) && decide (v16 < (v20.length : Int))) then (if (!(v20.getD v16.toNat false)) then (some (.inl ((8, ()), ((v19, v20, v21, ()), (v22, v23, v24, ()), ())))) else (if (decide (0 ≤ v16) && decide (v16 < (v21.length : Int))) then (if (v21.getD v16.toNat false) then (some (.inl ((10, ()), ((v19, v20, v21, ()), (v22, v23, v24, ()), ())))) else (if (v22 == 22) then (if (decide (0 ≤ v16) && decide (v16 < (v17.length : Int))) then (if (decide (0 ≤ (v17.getD v16.toNat 0)) && decide ((v17.getD v16.toNat 0) < (v19.length : Int))) then (if (!((v19.getD ((v17.getD v16.toNat 0)).toNat ByteArray.empty).toList == v18.toList)) then (some (.inl ((10, ()), ((v19, v20, v21, ()), (v22, v23, v24, ()), ())))) else (some (.inr ((v16, v18, ()), ((v19, v20, v21, ()), (v22, v23, v24, ()), ()))))) else none) else none) else (some (.inr ((v16, v18, ()), ((v19, v20, v21, ()), (v22, v23, v24, ()), ())))))) else none)) else none
def wN : Loop := ⟨⟨dm 91 0 [(0, .obj 0), (1, .val cZ), (3, .val dy), (6, .obj 1), (9, .val .str)], [wa, lL]⟩, [(.ret, ⟨dm 91 0 [(8, .val cZ)], [wa, lL]⟩), (.norm, ⟨dm 91 0 [(0, .obj 0), (1, .val cZ), (6, .obj 1), (9, .val .str)], [wa, lL]⟩)], (Int × (List Int) × ByteArray × (List ByteArray) × (List Bool) × (List Bool) × Int × Int × Int), fun x => ((dD v_) x, (dD v_) x.2.2.2, (dD u_) x.2.2.2.2.2.2, ()), fun (x : ((Int × (List Int) × ByteArray × Unit) × (se × rl × Unit))) => (fv j_) x.1 ((fv j_) x.2.1 ((dD k_) x.2.2.1)), ((gA × (se × rl × Unit)) ⊕ CD), fun y => y, fun y => y, (eo (dZ (C_ q_))) (CK n)⟩
def yn (v20 : Int) (v21 : ByteArray) (v22 : (List ByteArray)) (v23 v24 : (List Bool)) (v25 v26 v27 : Int) : Option (JN) := if (v25 != 19) then (if (v25 != 25) then ((jW n (wrap .i64 (v20 + 1)) v21 v22 v23 v24).bind fun y28 => (if (decide (0 ≤ y28.1) && decide (y28.1 < (y28.2.2.2.1.length : Int))) then (if (decide (0 ≤ y28.1) && decide (y28.1 < (y28.2.2.1.length : Int))) then (some (v20, v21, (y28.2.2.1.set y28.1.toNat y28.2.1), (y28.2.2.2.1.set y28.1.toNat true), y28.2.2.2.2, v25, v26, v27)) else none) else none)) else (some (v20, v21, v22, v23, v24, v25, v26, v27))) else (some (v20, v21, v22, v23, v24, v25, v26, v27))
def wO : Loop := ⟨⟨dm 91 0 [(0, .obj 0), (1, .val cZ), (6, .obj 1), (10, .val .str)], [wa, lL]⟩, [(.norm, ⟨dm 91 0 [(0, .obj 0), (1, .val cZ), (6, .obj 1), (10, .val .str)], [wa, lL]⟩)], JN, fun x => ((U_ v_) x, (dD v_) x.2.2, (dD u_) x.2.2.2.2.2, ()), fun (x : CD) => (J_ j_) x.1 ((fv j_) x.2.1 ((dD k_) x.2.2.1)), JN, fun y => ((U_ v_) y, (dD v_) y.2.2, (dD u_) y.2.2.2.2.2, ()), fun (o : CD) => (J_ j_) o.1 ((fv j_) o.2.1 ((dD k_) o.2.2.1)), (eo (dZ q_)) (yn n)⟩
def mU (F : JO → Option (F3)) (v9 : (List Int)) (v10 : dp) (v11 v12 : Int) (v13 : (List ByteArray)) (v14 v15 : (List Bool)) : Option (F3) := if (decide (v12 < v11)) then (if (decide (0 ≤ v12) && decide (v12 < (v10.length : Int))) then (if (decide (0 ≤ v12) && decide (v12 < (v13.length : Int))) then ((CK n v12 v9 (v13.getD v12.toNat ByteArray.empty) v13 v14 v15 ((v10.getD v12.toNat (0, (0, 0))).1) ((v10.getD v12.toNat (0, (0, 0))).2.1) ((v10.getD v12.toNat (0, (0, 0))).2.2)).bind fun y16 => ((Sum.elim (fun (z17 : (gA × (se × rl × Unit))) => (if (z17.1.1 != 0) then (some (.inl (([], z17.1.1, ()), ((z17.2.1.1, z17.2.1.2.1, z17.2.1.2.2.1, ()), ())))) else (F (v9, v10, v11, (wrap .i64 (v12 + 1)), z17.2.1.1, z17.2.1.2.1, z17.2.1.2.2.1)))) (fun (z18 : CD) => ((iG n (z18.2.2.1.1, (z18.2.2.1.2.1, z18.2.2.1.2.2.1)) z18.1.2.1).bind fun y19 => (if (y19.2 != 0) then (if (y19.2 != 0) then (some (.inl (([], y19.2, ()), ((z18.2.1.1, z18.2.1.2.1, z18.2.1.2.2.1, ()), ())))) else (F (v9, v10, v11, (wrap .i64 (v12 + 1)), z18.2.1.1, z18.2.1.2.1, z18.2.1.2.2.1))) else ((yn n z18.1.1 y19.1 z18.2.1.1 z18.2.1.2.1 z18.2.1.2.2.1 z18.2.2.1.1 z18.2.2.1.2.1 z18.2.2.1.2.2.1).bind fun y20 => (if (y20.2.2.2.2.2.1 == 19) then ((jW n (wrap .i64 ((wrap .i64 (y20.1 + 1)) + y20.2.2.2.2.2.2.1)) y20.2.1 y20.2.2.1 y20.2.2.2.1 y20.2.2.2.2.1).bind fun y21 => (if (decide (0 ≤ y21.1) && decide (y21.1 < (y21.2.2.2.1.length : Int))) then (if (decide (0 ≤ y21.1) && decide (y21.1 < (y21.2.2.1.length : Int))) then (F (v9, v10, v11, (wrap .i64 (v12 + 1)), (y21.2.2.1.set y21.1.toNat y21.2.1), (y21.2.2.2.1.set y21.1.toNat true), y21.2.2.2.2)) else none) else none)) else (if (y20.2.2.2.2.2.1 == 20) then ((jW n (wrap .i64 ((wrap .i64 (y20.1 + 1)) + y20.2.2.2.2.2.2.1)) y20.2.1 y20.2.2.1 y20.2.2.2.1 y20.2.2.2.2.1).bind fun y22 => (if (decide (0 ≤ y22.1) && decide (y22.1 < (y22.2.2.2.1.length : Int))) then (if (decide (0 ≤ y22.1) && decide (y22.1 < (y22.2.2.1.length : Int))) then (F (v9, v10, v11, (wrap .i64 (v12 + 1)), (y22.2.2.1.set y22.1.toNat y22.2.1), (y22.2.2.2.1.set y22.1.toNat true), y22.2.2.2.2)) else none) else none)) else (F (v9, v10, v11, (wrap .i64 (v12 + 1)), y20.2.2.1, y20.2.2.2.1, y20.2.2.2.2.1))))))))) y16)) else none) else none) else (some (.inr ((), ((v13, v14, v15, ()), ()))))
def l7 : JO → Option (F3) := it (fun F => (eo (C_ q_)) (mU n F)) n
def CL : Loop := ⟨⟨dm 54 0 [(5, .val dy), (7, .obj 0), (34, .val eI), (35, .val cZ), (36, .val cZ)], [wa]⟩, [(.ret, ⟨dm 54 0 [(2, .row 9 .str), (3, .val cZ)], [wa]⟩), (.exit 0, ⟨dm 54 0 [(7, .obj 0)], [wa]⟩)], JO, fun x => ((dD (U_ v_)) x, (dD u_) x.2.2.2.2, ()), fun (x : (((List Int) × dp × Int × Int × Unit) × (se × Unit))) => (fv (J_ j_)) x.1 ((dD k_) x.2.1), F3, fun y => y, fun y => y, l7 n⟩
def rt (a0 : dp) : Option ((List ByteArray) × Int) := (tM n a0).bind fun y1 => (if (y1 != 0) then (some ([], y1)) else ((ij n a0).bind fun y2 => (if (decide (0 ≤ (a0.length : Int)) && ((a0.length : Int) == (a0.length : Int)) && decide ((a0.length : Int) * (16 : Int) ≤ 140737488355328) && decide (1 ≤ 16)) then (if (decide (0 ≤ (a0.length : Int)) && ((a0.length : Int) == (a0.length : Int)) && decide ((a0.length : Int) * (1 : Int) ≤ 140737488355328) && decide (1 ≤ 1)) then (if (decide (0 ≤ (a0.length : Int)) && ((a0.length : Int) == (a0.length : Int)) && decide ((a0.length : Int) * (1 : Int) ≤ 140737488355328) && decide (1 ≤ 1)) then ((jW n 0 (ByteArray.mk #[]) (List.replicate ((a0.length : Int)).toNat ByteArray.empty) (List.replicate ((a0.length : Int)).toNat false) (List.replicate ((a0.length : Int)).toNat false)).bind fun y3 => (if (decide (0 ≤ y3.1) && decide (y3.1 < (y3.2.2.2.1.length : Int))) then (if (decide (0 ≤ y3.1) && decide (y3.1 < (y3.2.2.1.length : Int))) then ((l7 n (y2.1, a0, (a0.length : Int), 0, (y3.2.2.1.set y3.1.toNat y3.2.1), (y3.2.2.2.1.set y3.1.toNat true), y3.2.2.2.2)).bind fun y4 => ((Sum.elim (fun (z5 : (((List ByteArray) × Int × Unit) × (se × Unit))) => (some (z5.1.1, z5.1.2.1))) (fun (z6 : (Unit × (se × Unit))) => (some (z6.2.1.1, 0)))) y4)) else none) else none)) else none) else none) else none)))
def HL : FS := ⟨⟨[.val eI], []⟩, ⟨[.val (.sl .str), .val cZ], []⟩, ((List ByteArray) × Int), fun y => ((U_ u_) y, ()), fun o => (o.1.1, o.1.2.1), fun x => rt n x.1.1⟩
theorem JZ : ∀ x, jl (Nj n) 14 64 0 1000002 (wM n) x = (wM n).fn x := fun x => by kernel_rfl
def wP : Cx := Cx.addLoop (Nj n) 64 1000002 (wM n)
theorem J0 : Good (wP n) := gJ (QB n) 14 0 (by kernel_rfl) (JZ n) (fun _ => rfl) (fun _ => rfl) rfl
theorem J1 : ∀ x, jl (wP n) 14 65 0 1000007 (wN n) x = (wN n).fn x := fun x => by kernel_rfl
def wQ : Cx := Cx.addLoop (wP n) 65 1000007 (wN n)
theorem J2 : Good (wQ n) := gJ (J0 n) 14 0 (by kernel_rfl) (J1 n) (fun _ => rfl) (fun _ => rfl) rfl
theorem J3 : ∀ x, jl (wQ n) 14 65 0 1000012 (wO n) x = (wO n).fn x := fun x => by kernel_rfl
def wR : Cx := Cx.addLoop (wQ n) 65 1000012 (wO n)
theorem J4 : Good (wR n) := gJ (J2 n) 14 0 (by kernel_rfl) (J3 n) (fun _ => rfl) (fun _ => rfl) rfl
theorem J5 : ∀ F x, dH (wR n) 14 43 0 8 (CL n) F x = (eo (C_ q_)) (mU n F) x := fun F x => by kernel_rfl
def wS : Cx := Cx.addLoop (wR n) 43 8 (CL n)
theorem J6 : Good (wS n) := Good.loop (J4 n) 14 0 (by kernel_rfl) (J5 n) n (fun _ => rfl) (fun _ => rfl) (fun _ => rfl) rfl
theorem O6 : dA (wS n) 14 43 0 (HL n) := fun x => by kernel_rfl
def Nk : Cx := (Cx.bare (wS n)).addSpec 43 (HL n)
theorem QC : Good (Nk n) := Good.fn (J6 n) 14 0 (O6 n) (fun _ => rfl) rfl
def fy (n : Nat) (a0 : Int) (a1 : Int) : Option Int := some (if 1048577 < (wrap .i64 (a0 + a1)) then 1048577 else (wrap .i64 (a0 + a1)))
def wg : FS := ⟨⟨om, []⟩, ⟨[.val cZ], []⟩, Int, fun y => ((y, ()), ()), fun o => o.1.1, fun x => fy n x.1.1 x.1.2.1⟩
theorem Gb : dA (Nk n) 14 93 0 (wg n) := fun x => by kernel_rfl
def Nl : Cx := (Cx.bare (Nk n)).addSpec 93 (wg n)
theorem QD : Good (Nl n) := Good.fn (QC n) 14 0 (Gb n) (fun _ => rfl) rfl
def fw (n : Nat) (a0 : Int) (a1 : Int) : Option Int := some (if a1 > a0 then a1 else a0)
def tZ : FS := ⟨⟨om, []⟩, ⟨[.val cZ], []⟩, Int, fun y => ((y, ()), ()), fun o => o.1.1, fun x => fw n x.1.1 x.1.2.1⟩
theorem Ec : dA (Nl n) 14 48 0 (tZ n) := fun x => by kernel_rfl
def Nm : Cx := (Cx.bare (Nl n)).addSpec 48 (tZ n)
theorem QE : Good (Nm n) := Good.fn (QD n) 14 0 (Ec n) (fun _ => rfl) rfl
end Go.Proofs.Dk
