/- A part of the proofs: Families: a new member; functions that work on members. -/
import Derived.Test.YtipefepnkpoiaaaGreatMB2
import Derived.Below
import Derived.Orders
import Derived.Deep.Draws
import Derived.Test.YtipefepnkpoiaaaGreatProg
import Derived.Tactics2
import Derived.RowKit
import Derived.KernelRfl
import Derived.Maps.OwnSet
import Derived.BigFrame
import Derived.WideLaws
import Derived.WalkKit
import Derived.RowKit3
import Derived.OwnWalk
import Derived.OrdersHeld
import Derived.Maps.AppendAt
import Derived.Lib.ConvBytes
import Derived.Lib.AppendStr
import Derived.Laws.Slices
import Derived.Laws.Rows
import Derived.Laws.OwnMore
import Derived.Laws.MakeOwn
import Derived.Laws.IdiomCopy
import Derived.Laws.BytesArg
import Derived.Laws.BitsLemmas
import Derived.Deep.RegionHeld3
import Derived.Deep.QuietTactic
import Derived.Deep.OwnRows
import Derived.Deep.LoopGhost
import Derived.Deep.DeepCutAuto
import Derived.Deep.CutBlock
import Derived.Deep.AppendLies
import Derived.BigQuiet
import Derived.ArgAppend
import Derived.Scope
set_option linter.unusedVariables false
set_option linter.unusedSimpArgs false
noncomputable section
namespace Go.Proofs.Dk
open Go Go.RowKit
theorem Dc {I0 I4 : In} {w w' : World} {H4 : Heap} {j q : Nat} {t : TypeId} {k : List EK} {xs : List (dT k)} {x : dT k} {u : List Nat} {l : List DV} {us : List Value} {v : Value} {B0 : Nat → Nat → Prop}
  (he : Ext I0 w I4 w') (h4 : HR I4 w' H4) (hj : H4 j = some (.fam t k xs)) (ha : nV k q H4 = some (x, u)) (hq : I0.ι q = none) (hl : LR I4 w' l us) (hv : VR I4 w' (.ptr q 0 []) v) (hj0 : I0.ι j = some (.fam t B0)) :
  ∃ I6, HR I6 w' ((oQ q u H4).set j (some (.fam t k (xs ++ [x])))) ∧ LR I6 w' (.fp t (xs.length + 1) :: tm q u l) (v :: us) ∧ Ext I0 w I6 w' := by
 obtain ⟨b, B5, I5, e1, hm, h5, hl5, hR5, sub, same, hB5, rows⟩ := sH h4 ha hl
 obtain ⟨B, g1, g2, g3, g4, g5⟩ := h4.fam j t k xs hj
 have hjq : j ≠ q := by rintro rfl; rw [e1] at g1; cases g1
 have hju : j ∉ u := fun h => by
  obtain ⟨sz, v, h1⟩ := rows j h
  rw [g1] at h1
  cases h1
 have i5j : I5.ι j = some (.fam t B) := (same j hjq hju).trans g1
 let B6 : Nat → Nat → Prop := fun a c => B a c ∨ (a = xs.length ∧ B5 c)
 let I6 : In := ⟨fun m => if m = j then some (.fam t B6) else I5.ι m, ⟨I4.R.r, fun s => if s = t then I4.R.fam t ++ [b] else I4.R.fam s⟩⟩
 have i6j : I6.ι j = some (.fam t B6) := by show (if j = j then some (Ent.fam t B6) else _) = _; rw [if_pos rfl]
 have i6 : ∀ m, m ≠ j → I6.ι m = I5.ι m := fun m h => by show (if m = j then some (Ent.fam t B6) else I5.ι m) = _; rw [if_neg h]
 have f6 : I6.R.fam t = I4.R.fam t ++ [b] := by show (if t = t then _ else _) = _; rw [if_pos rfl]
 have f6' : ∀ s, s ≠ t → I6.R.fam s = I4.R.fam s := fun s h => by show (if s = t then _ else _) = _; rw [if_neg h]
 have hk : Keeps I4.R I6.R w' w' := by
  refine ⟨fun _ h => h, fun _ _ => rfl, fun s i c h => ?_⟩
  by_cases hs : s = t
  ·subst hs
   rw [f6, aw (List.getElem?_eq_some_iff.1 h).1]
   exact h
  ·rw [f6' s hs]; exact h
 have key : ∀ n e, n ≠ j → I5.ι n = some e → I6.ι n = some e := fun n e h1 h => by rw [i6 n h1]; exact h
 have hs : Same I5 I6 w' w' := ⟨by rw [hR5]; exact hk, fun n c h => key n _ (by rintro rfl; rw [i5j] at h; cases h) h, fun n sz v h => key n _ (by rintro rfl; rw [i5j] at h; cases h) h⟩
 have org : ∀ m e, I6.ι m = some e → (m = j ∧ e = .fam t B6) ∨ (m ≠ j ∧ I5.ι m = some e) := fun m e h => by
  by_cases h1 : m = j
  ·subst h1
   rw [i6j] at h
   exact .inl ⟨rfl, (ae h).symm⟩
  ·rw [i6 m h1] at h
   exact .inr ⟨h1, h⟩
 have sep : ∀ a c m e, B6 a c → m ≠ j → I5.ι m = some e → ¬ e.has c := fun a c m e hc hmj hm hec => by
  obtain ⟨m1, m2, m3⟩ := sub m e hm
  rcases hc with hc | ⟨_, hc⟩
  ·exact hmj (h4.inj m j e _ c m1 g1 hec ⟨a, hc⟩)
  ·obtain ⟨n, e', n1, n2, n3⟩ := hB5 c hc
   have := h4.inj m n e e' c m1 n2 hec n3
   subst this
   rcases n1 with n1 | n1
   ·exact m2 n1
   ·exact m3 n1
 have lt6 : ∀ a c, B6 a c → (∃ n e, I4.ι n = some e ∧ e.has c) := fun a c hc => by
  rcases hc with hc | ⟨_, hc⟩
  ·exact ⟨j, _, g1, a, hc⟩
  ·obtain ⟨n, e', n1, n2, n3⟩ := hB5 c hc
   exact ⟨n, e', n2, n3⟩
 refine ⟨I6, HR.of (fun m bk hm' => ?_) (fun m hm' => ?_) (fun m e c h hc => ?_) (fun m m' e e' c h h' hc hc' => ?_) h4.rlt (fun m m' s C C' h h' => ?_), .cons _ _ _ _ (.fp t _ v ?_) (LR.keep hs hl5),
  ⟨fun n c h => ?_, he.ro, fun c hc hn => he.same c hc hn, fun n e c h hc => ?_, he.newR, he.size, he.os, he.tape, he.output, fun s i c h => hk.fam s i c (he.fam s i c h), fun s hs' => ?_⟩⟩
 ·by_cases h1 : m = j
  ·subst h1
   rw [cD] at hm'
   simp only [aa] at hm'
   subst hm'
   refine ⟨B6, i6j, by rw [f6, aB, g2]; simp, fun a y c hy hc => ?_, fun a a' c hc hc' => ?_, fun a c hc => ?_⟩
   ·rw [f6] at hc
    rcases aF a xs.length with h1 | h1
    ·rw [aw h1] at hy
     rw [aw (by omega)] at hc
     obtain ⟨ι, q1, q2, q3, q4, q5, q6, q7⟩ := (g3 a y c hy hc).keep hk (fun _ _ => rfl)
     exact ⟨ι, q1, q2, q3, q4, q5, fun n e d h1 h2 => .inl (q6 n e d h1 h2), q7⟩
    ·have hla := (List.getElem?_eq_some_iff.1 hy).1
     have : a = xs.length := by simp at hla; omega
     subst this
     rw [aD (ag _), bL] at hy
     rw [aD (by omega), g2, bL] at hc
     simp only [aQ, aa] at hy hc
     subst hy hc
     obtain ⟨ι, q1, q2, q3, q4, q5, q6, q7⟩ := hm.keep hk (fun _ _ => rfl)
     exact ⟨ι, q1, q2, q3, q4, q5, fun n e d h1 h2 => .inr ⟨rfl, q6 n e d h1 h2⟩, q7⟩
   ·have no : ∀ a, B a c → ¬ B5 c := fun a h1 h2 => by
     obtain ⟨n, e', n1, n2, n3⟩ := hB5 c h2
     have := h4.inj m n _ e' c g1 n2 ⟨a, h1⟩ n3
     subst this
     rcases n1 with n1 | n1
     ·exact hjq n1
     ·exact hju n1
    rcases hc with hc | ⟨h1, hc⟩
    ·rcases hc' with hc' | ⟨h1', hc'⟩
     ·exact g4 a a' c hc hc'
     ·exact absurd hc' (no a hc)
    ·rcases hc' with hc' | ⟨h1', hc'⟩
     ·exact absurd hc (no a' hc')
     ·rw [h1, h1']
   ·rw [aB]
    rcases hc with hc | ⟨h1, _⟩
    ·have := g5 a c hc
     simp only [ay, bw]
     omega
    ·subst h1; simp
  ·rw [cQ h1] at hm'
   refine (h5.br hm').keep hs (fun s C h => ⟨key m _ h1 h, ?_⟩) (fun _ _ _ _ => rfl)
   rw [hR5]
   exact f6' s (by rintro rfl; exact h1 (h5.one m j s C B h i5j))
 ·by_cases h1 : m = j
  ·subst h1; rw [cD] at hm'; cases hm'
  ·rw [cQ h1] at hm'
   rw [i6 m h1]
   exact h5.dom m hm'
 ·rcases org m e h with ⟨rfl, rfl⟩ | ⟨h1, h2⟩
  ·obtain ⟨a, hc⟩ := hc
   obtain ⟨n, e', n1, n2⟩ := lt6 a c hc
   exact h4.lt n e' c n1 n2
  ·exact h4.lt m e c (sub m e h2).1 hc
 ·rcases org m e h with ⟨rfl, rfl⟩ | ⟨h1, h2⟩
  ·rcases org m' e' h' with ⟨rfl, rfl⟩ | ⟨h1', h2'⟩
   ·rfl
   ·obtain ⟨a, hc⟩ := hc
    exact absurd hc' (sep a c m' e' hc h1' h2')
  ·rcases org m' e' h' with ⟨rfl, rfl⟩ | ⟨h1', h2'⟩
   ·obtain ⟨a, hc'⟩ := hc'
    exact absurd hc (sep a c m e hc' h1 h2)
   ·exact h5.inj m m' e e' c h2 h2' hc hc'
 ·have hp : ∀ m s C, I6.ι m = some (.fam s C) → ∃ C', I5.ι m = some (.fam s C') := fun m s C h => by
   rcases org m _ h with ⟨rfl, e⟩ | ⟨h1, h2⟩
   ·simp only [Ent.fam.injEq] at e
    obtain ⟨rfl, _⟩ := e
    exact ⟨B, i5j⟩
   ·exact ⟨C, h2⟩
  obtain ⟨D, h1⟩ := hp m s C h
  obtain ⟨D', h2⟩ := hp m' s C' h'
  exact h5.one m m' s D D' h1 h2
 ·cases hv with | ptr _ _ _ b' q1 q2 =>
  rw [e1] at q1
  simp only [aa, Ent.obj.injEq] at q1
  subst q1
  refine .inr ⟨xs.length, b, rfl, ?_, rfl⟩
  rw [f6, aD (by omega), g2, bL]
  rfl
 ·have h1 := he.obj n c h
  have hnj : n ≠ j := by rintro rfl; rw [g1] at h1; cases h1
  have hnq : n ≠ q := by rintro rfl; rw [hq] at h; cases h
  have hnu : n ∉ u := fun hu => by
   obtain ⟨sz, v, h2⟩ := rows n hu
   rw [h1] at h2
   cases h2
  rw [i6 n hnj, same n hnq hnu]
  exact h1
 ·rcases org n e h with ⟨rfl, rfl⟩ | ⟨h1, h2⟩
  ·obtain ⟨a, hc⟩ := hc
   obtain ⟨m, e', n1, n2⟩ := lt6 a c hc
   exact he.own m e' c n1 n2
  ·exact he.own n e c (sub n e h2).1 hc
 ·have hst : s ≠ t := by rintro rfl; exact hs' j B0 hj0
  obtain ⟨p1, p2⟩ := he.famE s hs'
  refine ⟨(f6' s hst).trans p1, fun m C h => ?_⟩
  rcases org m _ h with ⟨_, e⟩ | ⟨_, h2⟩
  ·simp only [Ent.fam.injEq] at e
   exact hst e.1
  ·exact p2 m C (sub m _ h2).1
def fF {α β : Type} (xs : List α) : Nat → (α → Option β) → Option β
 | 0, _ => none
 | n + 1, k => match xs[n]? with | some x => k x | none => none
def By {α : Type} (rcv : Bool) (j : Nat) (t : TypeId) (k : List EK) (T : List DV) (H : Heap) (κ : List (dT k) → Option Nat → List DV → Heap → Option α) : Option α :=
 match oB t k (H j) with
 | some xs => match rcv with
  | true => match T with
   | .fp t' n :: r => if t' = t then fF xs n fun x => κ xs (some (n - 1)) (.ptr j 0 [] :: r) (tp j k x H) else none
   | _ => none
  | false => κ xs none T (H.set j none)
 | none => none
def Sh.cnt : Sh → Nat
 | .pair a b => a.cnt + b.cnt
 | _ => 1
def ui : List EK → List DV → List Nat
 | .val (.sl _) :: ks, d :: T => qC d ++ ui ks T
 | .val s :: ks, T => ui ks (T.drop s.cnt)
 | .any :: ks, _ :: T => ui ks T
 | .row _ _ :: ks, _ :: T => ui ks T
 | _, _ => []
def Bz (k : List EK) (n : Nat) (H : Heap) : List Nat := match H n with
 | some (.obj cs) => ui k cs
 | _ => []
def uj (S : FS) (l : List DV) (H : Heap) : Option S.R := match S.tout.pr (fL S.tin.os.length) l H with
 | some (z, _) => some (S.inn z)
 | none => none
def uk (S : FS) (j : Nat) (t : TypeId) (k : List EK) (pub : Bool) (xs : List (dT k)) (l : List DV) (H : Heap) : Option S.R := match H j with
 | some _ => none
 | none => match pub with
  | true => match l with
   | .ptr q 0 [] :: r => (match fK (Bz k q H) (.ptr q 0 [] :: r) [] (H.set j (some (.fam t k xs))) with
    | (.ptr q 0 [] :: r, _, H) => if (S.tin.names nam0).contains q = true then none else (match nV k q H with
     | some (x, u) => (match oB t k (H j) with
      | some xs => uj S (.fp t (xs.length + 1) :: tm q u r) ((oQ q u H).set j (some (.fam t k (xs ++ [x]))))
      | none => none)
     | none => none)
    | _ => none)
   | l => uj S l (H.set j (some (.fam t k xs)))
  | false => uj S l (H.set j (some (.fam t k xs)))
def zf (S : FS) (j : Nat) (t : TypeId) (k : List EK) (pub : Bool) (xs : List (dT k)) (i : Option Nat) (v : DV) (H : Heap) : Option S.R := match tj S.tout.ks.length v with
 | some l => match (if dX S.tout.ks = true then fC l [] H else (l, [], H)) with
  | (l, _, H) => match i with
   | some i => (match fK (Bz k j H) l [] H with
    | (l, _, H) => (match nV k j H with
     | some (x, u) => uk S j t k pub (xs.set i x) (tm j u l) (oQ j u H)
     | none => none))
   | none => uk S j t k pub xs l H
 | none => none
def iz (cx : Cx) (fuel f d : Nat) (S : FS) (rcv : Bool) (j : Nat) (t : TypeId) (k : List EK) (pub : Bool) : Prop := ∀ X, By rcv j t k (S.tin.T nam0 X) (S.tin.H nam0 X fun _ => none) (fun xs i T H => dD cx fuel d f T H fun v H _ => zf S j t k pub xs i v H) = S.fn X
theorem vu {α β : Type} {xs : List α} {n : Nat} {k : α → Option β} {r : β} (h : fF xs n k = some r) : ∃ m x, n = m + 1 ∧ xs[m]? = some x ∧ k x = some r := by
 cases n with
 | zero => cases h
 | succ m =>
  simp only [fF] at h
  split at h
  ·rename_i x hx
   exact ⟨m, x, rfl, hx, h⟩
  ·cases h
def zg (S : FS) (I0 : In) (w : World) (w' : World) (us : List Value) (z : S.tout.Ty) : Prop := ∃ I4 H4 l m, Ext I0 w I4 w' ∧ HR I4 w' H4 ∧ LR I4 w' l us ∧ S.tout.pr (fL S.tin.os.length) l H4 = some (z, m)
theorem rN {S : FS} {I0 I4 : In} {w w' : World} {H4 : Heap} {l : List DV} {us : List Value} {r : S.R} (hoi : ∀ o, S.out (S.inn o) = o) (he : Ext I0 w I4 w') (h4 : HR I4 w' H4) (hl : LR I4 w' l us) (h : uj S l H4 = some r) : zg S I0 w w' us (S.out r) := by
 unfold uj at h
 split at h
 ·rename_i z m hz
  simp only [aa] at h
  subst h
  rw [hoi]
  exact ⟨I4, H4, l, m, he, h4, hl, hz⟩
 ·cases h
theorem nW {I : In} {w : World} {H H' : Heap} {r : List Nat} {l l' T' : List DV} {us : List Value} (hH : HR I w H) (hl : LR I w l us) (h : fK r l [] H = (l', T', H')) : ∃ I', HR I' w H' ∧ Ext I w I' w ∧ LR I' w l' us := by
 obtain ⟨I', q1, q2, _, q4⟩ := e9 (a := ⟨#[], []⟩) hH ⟨ag _, fun i => .undef _, rfl⟩ hl h
 exact ⟨I', q1, q2, q4⟩
theorem vY {S : FS} {I0 I4 : In} {w w' : World} {H3 : Heap} {j : Nat} {t : TypeId} {k : List EK} {pub : Bool} {xs : List (dT k)} {l : List DV} {us : List Value} {r : S.R} {B0 : Nat → Nat → Prop} (hoi : ∀ o, S.out (S.inn o) = o) (hout : ∀ n, n ∉ S.tin.names nam0 → I0.ι n = none) (hj0 : I0.ι j = some (.fam t B0)) (hj3 : H3 j = none)
  (he : Ext I0 w I4 w') (h4 : HR I4 w' (H3.set j (some (.fam t k xs)))) (hl : LR I4 w' l us) (h : uk S j t k pub xs l H3 = some r) : zg S I0 w w' us (S.out r) := by
 unfold uk at h
 rw [hj3] at h
 simp only at h
 split at h
 ·split at h
  ·rename_i q r0
   split at h
   ·rename_i q' r1 T1 H5 hsol
    obtain ⟨I5, h5, he5, hl5⟩ := nW h4 hl hsol
    split at h
    ·cases h
    ·rename_i hq
     split at h
     ·rename_i x u hx
      split at h
      ·rename_i xs5 hf
       cases hl5 with | cons _ _ v us' hv hr =>
       have hq0 : I0.ι q' = none := hout q' (by
        intro hm
        exact hq (by simpa using hm))
       obtain ⟨I6, p1, p2, p3⟩ := Dc (he.trans he5) h5 (jq hf) hx hq0 hr hv hj0
       exact rN hoi p3 p1 p2 h
      ·cases h
     ·cases h
   ·cases h
  ·exact rN hoi he h4 hl h
 ·exact rN hoi he h4 hl h
theorem A9 {cx : Cx} {fuel f d : Nat} {S : FS} {rcv pub : Bool} {j : Nat} {t : TypeId} {k : List EK} (hg : Good cx) (heq : iz cx fuel f d S rcv j t k pub) (hoi : ∀ o, S.out (S.inn o) = o) (hnam : S.tin.free nam0 (fun _ => none) = true) (hj : j < 100000) (hfr : dE (ct nam0 1000 (k.map cF)) (S.tin.names nam0) = true) : ez cx.P f S := by
 intro α I w H A args ρ κ r X m hH hA hx hρ h
 obtain ⟨Y, hY, hk⟩ := Option.bind_eq_some_iff.1 h
 obtain ⟨⟨I0, hL0⟩, hlen, _⟩ := fc (ρ := nam0) hH rfl hx (vals := fun i => args.getD i undef) (fun i => hA.getD i) (en I w S.tin nam0 m) hnam
 have hAl : A.length = S.tin.ks.length := by
  unfold Tmpl.pr at hx
  split at hx
  ·rename_i x1 m1 h1
   exact fv h1
  ·cases hx
 have hT0 : (S.tin.T nam0 X).length = S.tin.ks.length := by unfold Tmpl.T; rw [dG]
 have hA0 : LR I0 w (S.tin.T nam0 X) args := LR.of (by rw [hT0, ← hAl, hA.length]) hL0.val
 have hH0 := hL0.hr
 have hout : ∀ n, n ∉ S.tin.names nam0 → I0.ι n = none := fun n hn => hL0.out n hn
 have hfree : ∀ n ∈ ct nam0 1000 (k.map cF), S.tin.H nam0 X (fun _ => none) n = none := fun n hn => by
  rw [l6 (disjB_iff.1 hfr n hn)]
 have hrl : ∀ b, I0.R b → b < w.heap.size := hH0.rlt
 have hq := heq X
 rw [hY] at hq
 unfold By at hq
 split at hq
 rotate_left
 ·cases hq
 rename_i xs hxs
 have hfj := jq hxs
 obtain ⟨B, hB, _⟩ := hH0.fam j t k xs hfj
 -- the end, told under the names of the frame around
 have fin : ∀ {w' : World} {us : List Value}, us.length = S.tout.ks.length → zg S I0 w w' us (S.out Y) → ∀ z, (∀ {I' : In} {l' : List DV}, LR I' w' l' us → VR I' w' (em l') z) → ∃ I' v H' u, κ v H' u = some r ∧ Ext I w I' w' ∧ HR I' w' H' ∧ VR I' w' v z ∧ ws u I I' := by
  rintro w' us hul ⟨I4, H4, l, m1, he, h4, hl, hz⟩ z hzz
  split at hk
  ·rename_i hfree
   obtain ⟨I7, g1, g2, g3, g4, g5⟩ := oO hH hL0 he h4 hz (vals := fun i => us.getD i undef) (fun i => hl.getD i) hρ hfree
   refine ⟨I7, _, _, _, hk, g3, g1, hzz (LR.of ?_ g2), fun l hl n sz v hn hi => ?_⟩
   ·unfold Tmpl.T
    rw [dG, hul]
   ·simp only [aa] at hl
    subst hl
    exact g4 n sz v hn hi
  ·cases hk
 split at hq
 ·-- a member is worked on
  split at hq
  ·rename_i t' n r0 hT
   split at hq
   ·rename_i ht
    subst ht
    obtain ⟨i, x, rfl, hxi, hq⟩ := vu hq
    simp only [Nat.add_sub_cancel] at hq
    obtain ⟨b, J, hb, hHJ, hRJ, hJj, hsJ, hnoJ, hkJ, hoJ⟩ := Bx hH0 hfj hB hxi hj hfree
    rw [hT] at hA0
    cases hA0 with | cons _ _ u0 us0 hu0 Bt =>
    have hu : u0 = .pointer (some ⟨b, 0, none⟩) := by
     cases hu0 with | fp _ _ _ hk0 =>
     rcases hk0 with ⟨e, _⟩ | ⟨i', b', e, hb', e2⟩
     ·cases e
     ·simp only [Nat.add_right_cancel_iff] at e
      subst e
      rw [hb] at hb'
      simp only [aa] at hb'
      subst hb'
      simpa using e2
    subst hu
    have hAJ : LR J w (.ptr j 0 [] :: r0) (.pointer (some ⟨b, 0, none⟩) :: us0) := .cons _ _ _ _ (.ptr j 0 [] b hJj trivial) (LR.keep hsJ Bt)
    obtain ⟨_, hc⟩ := eE hg fuel d hHJ hAJ hq
    refine Calls.mono hc ?_
    rintro e w' he
    cases e with
    | returned z =>
     obtain ⟨I2, v, H2, u2, h1, h2, h3, h4, _⟩ := he
     unfold zf at h1
     split at h1
     ·rename_i l hl
      split at h1
      rename_i A1 T1 H1 hs
      obtain ⟨us, u1, u2', u3⟩ := mj h4 hl
      obtain ⟨I3, h3', h2', u2⟩ : ∃ I1, HR I1 w' H1 ∧ Ext I2 w' I1 w' ∧ LR I1 w' A1 us := by
       split at hs
       ·exact nW h3 u2' hs
       ·simp only [ab] at hs
        obtain ⟨rfl, rfl, rfl⟩ := hs
        exact ⟨I2, h3, Ext.refl _ _, u2'⟩
      simp only at h1
      generalize hs2 : fK (Bz k j H1) A1 [] H1 = q2 at h1
      obtain ⟨A2, T2, H5⟩ := q2
      simp only at h1
      obtain ⟨I5, h5, he5, u5⟩ := nW h3' u2 hs2
      split at h1
      ·rename_i x' u' hx'
       have heJ := (h2.trans h2').trans he5
       obtain ⟨b', B1, I6, e1, hm, h6, hl6, hR6, sub, same, hB5, rows⟩ := sH h5 hx' u5
       have hbb : b' = b := by
        have := heJ.obj j b hJj
        rw [e1] at this
        simpa using this
       subst hbb
       have hj6 : oQ j u' H5 j = none := by simp [oQ, Heap.subO]
       obtain ⟨I7, p1, p2, p3, p4, p5⟩ := vX (ys := xs.set i x') (i := some i) (B1 := B1) hH0 hfj hB hRJ hrl hnoJ hkJ (fun n e hn => (hoJ n e hn).imp (fun h => ⟨i, rfl, h.1, h.2⟩) id) heJ h6 hR6 (fun m e h => (sub m e h).1) (fun m b hmj h => by
         rw [same m hmj fun hu => by
          obtain ⟨sz, v, h1⟩ := rows m hu
          rw [h] at h1
          cases h1]
         exact h) hj6 (by simp) (fun a ha => by
         rw [List.getElem?_set_ne]
         rintro rfl
         exact ha rfl) (fun a y c ha hy hc => by
         simp only [aa] at ha
         subst ha
         have hi := (List.getElem?_eq_some_iff.1 hxi).1
         rw [List.getElem?_set_self hi] at hy
         simp only [aa] at hy
         subst hy
         rw [hb] at hc
         simp only [aa] at hc
         subst hc
         exact hm) (fun c hc => by
         obtain ⟨m, e, n1, n2, n3⟩ := hB5 c hc
         refine ⟨⟨m, e, n2, n3, h5.lt m e c n2 n3⟩, fun m' e' hm' hec => ?_⟩
         obtain ⟨k1, k2, k3⟩ := sub m' e' hm'
         have := h5.inj m m' e e' c n2 k1 n3 hec
         subst this
         rcases n1 with n1 | n1
         ·exact k2 n1
         ·exact k3 n1)
       exact fin u1 (vY hoi hout hB hj6 p4 p1 (LR.keep p5 hl6) h1) z u3
      ·cases h1
     ·cases h1
    | _ => exact he.elim
   ·cases hq
  ·cases hq
 ·obtain ⟨J, hHJ, hRJ, hJj, hsJ, hnoJ, hkJ, hoJ⟩ := Db hH0 hB
  obtain ⟨_, hc⟩ := eE hg fuel d hHJ (LR.keep hsJ hA0) hq
  refine Calls.mono hc ?_
  rintro e w' he
  cases e with
  | returned z =>
   obtain ⟨I2, v, H2, u2, h1, h2, h3, h4, _⟩ := he
   unfold zf at h1
   split at h1
   ·rename_i l hl
    split at h1
    rename_i A1 T1 H1 hs
    obtain ⟨us, u1, u2', u3⟩ := mj h4 hl
    obtain ⟨I3, h3', h2', u2⟩ : ∃ I1, HR I1 w' H1 ∧ Ext I2 w' I1 w' ∧ LR I1 w' A1 us := by
     split at hs
     ·exact nW h3 u2' hs
     ·simp only [ab] at hs
      obtain ⟨rfl, rfl, rfl⟩ := hs
      exact ⟨I2, h3, Ext.refl _ _, u2'⟩
    simp only at h1
    have hj3 : H1 j = none := by
     unfold uk at h1
     split at h1
     ·cases h1
     ·assumption
    obtain ⟨I7, p1, p2, p3, p4, p5⟩ := vX (ys := xs) (i := none) (B1 := fun _ => False) hH0 hfj hB hRJ hrl hnoJ hkJ (fun n e hn => .inr (hoJ n e hn)) (h2.trans h2') h3' rfl (fun m e h => h) (fun m b hmj h => h) hj3 rfl (fun a ha => rfl) (fun a y c ha => by cases ha) (fun c hc => hc.elim)
    exact fin u1 (vY hoi hout hB hj3 p4 p1 (LR.keep p5 u2) h1) z u3
   ·cases h1
  | _ => exact he.elim
theorem fe {cx : Cx} (h : Good cx) (fuel d : Nat) {f : FuncId} {S : FS} (rcv : Bool) (j : Nat) (t : TypeId) (k : List EK) (pub : Bool) (heq : iz cx fuel f d S rcv j t k pub) (hoi : ∀ o, S.out (S.inn o) = o) (hnam : S.tin.free nam0 (fun _ => none) = true) (hj : j < 100000) (hfr : dE (ct nam0 1000 (k.map cF)) (S.tin.names nam0) = true) : Good (cx.bare.addSpec f S) :=
 h.bare.addSpec (A9 h heq hoi hnam hj hfr)
def Sh.flat : Sh → Bool
 | .int _ | .bool | .str => true
 | .pair a b => a.flat && b.flat
 | .arr _ e => e.flat
 | _ => false
theorem Sh.K_flat {R R' : RO} {w : World} : ∀ {s : Sh} {x : s.T} {cs : List Value}, s.flat = true → s.K R w x cs → s.K R' w x cs
 | .int _, _, _, _, h => h
 | .bool, _, _, _, h => h
 | .str, _, _, _, h => h
 | .pair a b, x, _, hf, ⟨c1, c2, e, h1, h2⟩ => by
  simp only [Sh.flat, af] at hf
  exact ⟨c1, c2, e, K_flat hf.1 h1, K_flat hf.2 h2⟩
 | .sl e, _, _, hf, _ => by cases hf
 | .fp t, _, _, hf, _ => by cases hf
 | .arr n e, xs, _, hf, ⟨h1, h2, h3⟩ => ⟨h1, h2, fun i x hx => K_flat (s := e) hf (h3 i x hx)⟩
def jQ : (k : List EK) → dn (k.map cF) → List DV
 | [], _ => []
 | .any :: r, x => jQ r x
 | .val s :: r, x => s.enc x.1 ++ jQ r x.2
 | .row _ s :: r, x => .vs s x.1 :: jQ r x.2
def tq : List EK → Bool
 | [] => true
 | .any :: _ => false
 | _ :: r => tq r
theorem mo : ∀ (k : List EK) (x : dn (k.map cF)), ∀ d ∈ jQ k x, d.imm = true
 | [], x, d, h => by simp [jQ] at h
 | .any :: r, x, d, h => mo r x d h
 | .val s :: r, x, d, h => by
  simp only [jQ, ai] at h
  rcases h with h | h
  ·exact Sh.enc_imm s _ d h
  ·exact mo r _ d h
 | .row E s :: r, x, d, h => by
  simp only [jQ, aj] at h
  rcases h with rfl | h
  ·rfl
  ·exact mo r _ d h
section
variable {I : In} {w : World} {H : Heap}
theorem zh {n : Nat} {E : TypeId} {s : Sh} {xs : List s.T} {sz : Nat} {v : Value} (hH : HR I w H) (h : H n = some (.row E s xs)) (hi : I.ι n = some (.row sz v)) : (Sh.sl s).K ⟨fun b => b < w.heap.size, I.R.fam⟩ w xs [v] := by
 obtain ⟨v', cs, h1, h2, h3⟩ := hH.row n E s xs h
 rw [hi] at h1
 simp only [aa, Ent.row.injEq] at h1
 obtain ⟨rfl, rfl⟩ := h1
 have hk : Keeps I.R ⟨fun b => b < w.heap.size, I.R.fam⟩ w w := ⟨hH.rlt, fun _ _ => rfl, fun _ _ _ h => h⟩
 rcases h2.2 with ⟨rfl, h0⟩ | ⟨g, cap, cur, rfl, _, hh, hc, _⟩
 ·have : xs = [] := bj h0
  subst this
  exact ⟨none, 0, rfl, ag _, fun h => absurd rfl h⟩
 ·obtain ⟨_, _, cs', k1, k2, k3⟩ := fU hH h hi
  refine ⟨_, cap, rfl, hc, fun hne => ⟨_, rfl, rfl, (hH.lt n _ g hi rfl).1, fun i x hx => ?_⟩⟩
  have hi := (List.getElem?_eq_some_iff.1 hx).1
  have hkk := k1.2.2 i x hx
  have hl : i * s.sz + s.sz ≤ xs.length * s.sz := by rw [← ao]; exact aA _ hi
  refine ⟨_, Sh.K_len hkk, Sh.K_keep hk hkk, fun j u hu => ?_⟩
  rw [Addr.add_mid, bl]
  refine k3 _ u ?_
  rw [av] at hu
  split at hu
  ·rw [az] at hu
   exact hu
  ·cases hu
theorem ul (hH : HR I w H) : ∀ {k : List EK} {c : Nat} {x : dn (k.map cF)} {cs : List Value}, tq k = true → (∀ n E s xs, dc nam0 c (k.map cF) x (fun _ => none) n = some (.row E s xs) → H n = some (.row E s xs)) → CR I w (ey nam0 c (k.map cF) x) cs → CR ⟨fun _ => none, ⟨fun b => b < w.heap.size, I.R.fam⟩⟩ w (jQ k x) cs
 | [], c, x, cs, hn, hr, h => by cases h; exact .nil
 | .any :: r, c, x, cs, hn, hr, h => by cases hn
 | .val s :: r, c, x, cs, hn, hr, h => by
  have hk : Keeps I.R ⟨fun b => b < w.heap.size, I.R.fam⟩ w w := ⟨hH.rlt, fun _ _ => rfl, fun _ _ _ h => h⟩
  have h' : CR I w (s.enc x.1 ++ ey nam0 (c + 1) (r.map cF) x.2) cs := h
  obtain ⟨c1, c2, rfl, k1, k2⟩ := Sh.dec_ok (Sh.dec_enc s x.1 _) h'
  exact CR.append (Sh.enc_ok (Sh.K_keep hk k1)) (ul hH (k := r) (c := c + 1) hn hr k2)
 | .row E s :: r, c, x, cs, hn, hr, h => by
  have h' : CR I w (.rw (nam0.r c) :: ey nam0 (c + 1) (r.map cF) x.2) cs := h
  have hnin : nam0.r c ∉ ct nam0 (c + 1) (r.map cF) := fun h => by
   have := ev h
   have : 100000 + (c + 1) ≤ 100000 + c := this
   omega
  cases h' with | one _ _ u us hv hu hrr =>
  cases hv with | rw _ sz _ h1 h2 =>
  have hrow := hr (nam0.r c) E s x.1 (by
   show dc nam0 (c + 1) (r.map cF) x.2 (Heap.set (fun _ => none) (nam0.r c) (some (.row E s x.1))) (nam0.r c) = _
   rw [dh hnin, cD])
  have hkk := zh hH hrow h1
  refine .one _ _ _ _ (.vs s x.1 _ hkk) hu (ul hH (k := r) (c := c + 1) hn (fun n E' s' xs' hn' => hr n E' s' xs' ?_) hrr)
  have hm : n ∈ ct nam0 (c + 1) (r.map cF) := Decidable.byContradiction fun hm => by
   rw [dh hm] at hn'
   cases hn'
  show dc nam0 (c + 1) (r.map cF) x.2 (Heap.set (fun _ => none) (nam0.r c) (some (.row E s x.1))) n = _
  rw [dN (H' := fun _ => none) (.inl hm)]
  exact hn'
end
def BA (E : TypeId) (s : Sh) (v : DV) (H : Heap) : Option (List s.T) := match eU H E s v with
 | some (xs, _) => some xs
 | none => none
def wI (cx : Cx) (fuel f d : Nat) (k : List EK) (E : TypeId) (s : Sh) (fn : (jO k).Ty → Option (List s.T)) : Prop := ∀ X, eV cx (dD cx fuel (d + 1)) f d [.pi (jQ k X.2.1)] (fun _ => none) (BA E s) = fn X
theorem BC {cx : Cx} {fuel f d : Nat} {k : List EK} {E : TypeId} {s : Sh} {fn : (jO k).Ty → Option (List s.T)} (hg : Good cx) (heq : wI cx fuel f d k E s fn) (hany : tq k = true) (hflat : s.flat = true) : nI cx.P f ⟨jO k, E, s, fn⟩ := by
 intro I w H A args X m Y hH hA hx hY
 obtain ⟨⟨I0, hL0⟩, hlen, _⟩ := fc (ρ := nam0) hH rfl hx (vals := fun i => args.getD i undef) (fun i => hA.getD i) (en I w (jO k) nam0 m) (uh k)
 have hAl : 1 ≤ args.length := by rw [← hA.length]; exact hlen
 have hH0 : ∀ q, (jO k).H nam0 X (fun _ => none) q = dc nam0 1000 (k.map cF) X.2.1 (Heap.set (fun _ => none) 0 (some (.obj (ey nam0 1000 (k.map cF) X.2.1)))) q := by
  intro q
  show dc nam0 1000 (k.map cF) X.2.1 (Heap.set (fun _ => none) 0 (some (lK nam0 1000 (k.map cF) X.2.1))) q = _
  rw [pP ug]
 have h00 : (0 : Nat) ∉ ct nam0 1000 (k.map cF) := fun h => by have := ev h; omega
 obtain ⟨b, c, t, k1, k2, k3⟩ := hL0.hr.obj 0 (ey nam0 1000 (k.map cF) X.2.1) (by rw [hH0, dh h00, cD])
 have hv0 : args.getD 0 undef = .pointer (some ⟨b, 0, none⟩) := by
  have h0 : VR I0 w (.ptr 0 0 []) (args.getD 0 undef) := hL0.val 0
  generalize args.getD 0 undef = v at h0
  cases h0 with | ptr _ _ _ b' h1 h2 =>
  rw [k1] at h1
  simp only [aa, Ent.obj.injEq] at h1
  subst h1
  rfl
 have hfz := ul hL0.hr (k := k) (c := 1000) (x := X.2.1) hany (fun n E s xs hn => by
  have hm : n ∈ ct nam0 1000 (k.map cF) := Decidable.byContradiction fun hm => by
   rw [dh hm] at hn
   cases hn
  rw [hH0, dN (H' := fun _ => none) (.inl hm)]
  exact hn) k3
 have hH1 : HR ⟨fun _ => none, ⟨fun b => b < w.heap.size, I0.R.fam⟩⟩ w fun _ => none := ⟨fun n cs h => (by cases h), fun n E s xs h => (by cases h), fun n ks vs h => (by cases h), fun n t k xs h => (by cases h), fun n h => rfl, fun n e b h => (by cases h), fun n m e e' b h => (by cases h), fun b h => h, fun n m t B B' h => (by cases h)⟩
 have hpi : VR ⟨fun _ => none, ⟨fun b => b < w.heap.size, I0.R.fam⟩⟩ w (.pi (jQ k X.2.1)) (args.getD 0 undef) := by
  rw [hv0]
  refine .pi _ ⟨b, 0, none⟩ _ rfl (hL0.hr.lt 0 _ b k1 rfl).1 (mo k X.2.1) hfz fun j u hu => ?_
  rw [Addr.add_mid, bl, lO k2]
  exact hu
 refine Calls.mono (jK hg (eE hg fuel (d + 1)) hH1 (A := [.pi (jQ k X.2.1)]) (by simpa using hAl) (fun i => by
  cases i with
  | zero => exact hpi
  | succ i => exact .undef _) ((heq X).trans hY)) ?_
 rintro e w' he
 cases e with
 | returned z =>
  obtain ⟨I2, v, H2, h1, h2, h3, h4⟩ := he
  unfold BA at h1
  split at h1
  ·rename_i xs u hu
   simp only [aa] at h1
   subst h1
   obtain ⟨cs, g1, g2, g3, g4⟩ := t9 h3 h4 hu
   refine ⟨GrowW.of (fun n => rfl) h2, g3, ⟨cs, g1, fun R => Sh.K_flat (s := .arr _ s) hflat g2⟩, fun b hb => ?_⟩
   rcases g4 with ⟨_, h5⟩ | ⟨n, sz, v0, _, h5, h6⟩
   ·rw [h5] at hb; cases hb
   ·rw [h6] at hb
    rcases h2.own n _ b h5 hb with ⟨m, e', h7, _⟩ | h7
    ·cases h7
    ·exact h7
  ·cases h1
 | _ => exact he.elim
def Cx.addQR (cx : Cx) (f : FuncId) (S : QR) : Cx := ⟨cx.P, cx.loops, cx.specs, cx.tabs, cx.qs, fun g => if Nat.beq g f then S :: cx.qr g else cx.qr g⟩
theorem xV {cx : Cx} (h : Good cx) (fuel d : Nat) {f : FuncId} (k : List EK) (E : TypeId) (s : Sh) (fn : (jO k).Ty → Option (List s.T)) (heq : wI cx fuel f d k E s fn) (hany : tq k = true) (hflat : s.flat = true) : Good (cx.bare.addQR f ⟨jO k, E, s, fn⟩) := by
 have hb := h.bare
 refine ⟨hb.specs, hb.loops, hb.pures, hb.tabs, hb.qs, fun g S' hm => ?_⟩
 simp only [Cx.addQR] at hm
 split at hm
 ·rename_i hgf
  have := bb hgf
  subst this
  rcases aj.1 hm with rfl | hm
  ·intro I w H A args X m Y hH hA hX hY
   exact BC h heq hany hflat hH hA hX hY
  ·intro I w H A args X m Y hH hA hX hY
   exact h.qr g S' hm hH hA hX hY
 ·intro I w H A args X m Y hH hA hX hY
  exact h.qr g S' hm hH hA hX hY
def um (fs : List (TypeId × List EK)) : Heap := fun n => match fs[n]? with
 | some e => some (.fam e.1 e.2 [])
 | none => none
def Sh.nofp : Sh → Bool
 | .int _ | .bool | .str => true
 | .pair a b => a.nofp && b.nofp
 | .sl e => e.nofp
 | .arr _ e => e.nofp
 | .fp _ => false
theorem Sh.K_nofp {R R' : RO} {w w' : World} (hs : ∀ b, R b → R' b) (hw : ∀ b, R b → w'.heap[b]? = w.heap[b]?) : ∀ {s : Sh} {x : s.T} {cs : List Value}, s.nofp = true → s.K R w x cs → s.K R' w' x cs
 | .int _, _, _, _, h => h
 | .bool, _, _, _, h => h
 | .str, _, _, _, h => h
 | .pair a b, x, _, hf, ⟨c1, c2, e, h1, h2⟩ => by
  simp only [Sh.nofp, af] at hf
  exact ⟨c1, c2, e, K_nofp hs hw hf.1 h1, K_nofp hs hw hf.2 h2⟩
 | .sl e, xs, _, hf, ⟨A, cap, h1, h2, h3⟩ => ⟨A, cap, h1, h2, fun hn => by
   obtain ⟨a, e1, e2, e3, e4⟩ := h3 hn
   refine ⟨a, e1, e2, hs _ e3, fun i x hx => ?_⟩
   obtain ⟨c, g1, g2, g3⟩ := e4 i x hx
   exact ⟨c, g1, K_nofp hs hw (s := e) hf g2, fun j u hu => (fT (by rw [d4]; exact hw _ e3)).trans (g3 j u hu)⟩⟩
 | .fp t, _, _, hf, _ => by cases hf
 | .arr n e, xs, _, hf, ⟨h1, h2, h3⟩ => ⟨h1, h2, fun i x hx => K_nofp hs hw (s := e) hf (h3 i x hx)⟩
def mq : List IK → Bool
 | [] => true
 | .val s :: r => s.nofp && mq r
 | _ => false
theorem Dd {I I' : In} {w w' : World} (hs : ∀ b, I.R b → I'.R b) (hw : ∀ b, I.R b → w'.heap[b]? = w.heap[b]?) {s : Sh} {x : s.T} {v : Value} (hf : s.nofp = true) (h : VR I w (s.val x) v) : VR I' w' (s.val x) v := by
 unfold Sh.val at h ⊢
 split at h
 ·cases h with | agg _ cs hc =>
  obtain ⟨c1, c2, e, k1, k2⟩ := Sh.dec_ok (Sh.dec_enc s x []) (by rw [aE]; exact hc)
  cases k2
  rw [aE] at e
  subst e
  rename_i hm
  rw [if_pos hm]
  exact .agg _ _ (Sh.enc_ok (Sh.K_nofp hs hw hf k1))
 ·rename_i hm
  rw [if_neg hm]
  cases s with
  | int k => cases h with | sc _ h => exact .sc _ h
  | bool => cases h with | sc _ h => exact .sc _ h
  | str => cases h with | sc _ h => exact .sc _ h
  | sl e => cases h with | vs _ _ _ h => exact .vs e x v (Sh.K_nofp hs hw (s := .sl e) hf h)
  | fp t => cases hf
  | pair a b => exact absurd rfl hm
  | arr n e => exact absurd rfl hm
theorem un {I I' : In} {w w' : World} (hs : ∀ b, I.R b → I'.R b) (hw : ∀ b, I.R b → w'.heap[b]? = w.heap[b]?) {ρ : Nam} : ∀ {ks : List IK} {c : Nat} {x : dn ks} {vals : Nat → Value}, mq ks = true → (∀ i, VR I w ((ew ρ c ks x).getD i .undef) (vals i)) → ∀ i, VR I' w' ((ew ρ c ks x).getD i .undef) (vals i)
 | [], c, x, vals, hk, h, i => .undef _
 | .val s :: r, c, x, vals, hk, h, i => by
  simp only [mq, af] at hk
  cases i with
  | zero => exact Dd hs hw hk.1 (h 0)
  | succ i => exact un hs hw (ks := r) (c := c + 1) (vals := fun i => vals (i + 1)) hk.2 (fun i => h (i + 1)) i
 | .any :: r, c, x, vals, hk, h, i => by cases hk
 | .row E s :: r, c, x, vals, hk, h, i => by cases hk
 | .agf s F :: r, c, x, vals, hk, h, i => by cases hk
 | .obj j :: r, c, x, vals, hk, h, i => by cases hk
 | .inn j o :: r, c, x, vals, hk, h, i => by cases hk
 | .clo F is :: r, c, x, vals, hk, h, i => by cases hk
 | .tab ks vs :: r, c, x, vals, hk, h, i => by cases hk
 | .fam t k :: r, c, x, vals, hk, h, i => by cases hk
theorem mr : ∀ {ks : List IK}, mq ks = true → dX ks = true
 | [], _ => rfl
 | .val s :: r, h => by
  simp only [mq, af] at h
  exact mr (ks := r) h.2
 | .any :: r, h => by cases h
 | .row E s :: r, h => by cases h
 | .agf s F :: r, h => by cases h
 | .obj j :: r, h => by cases h
 | .inn j o :: r, h => by cases h
 | .clo F is :: r, h => by cases h
 | .tab ks vs :: r, h => by cases h
 | .fam t k :: r, h => by cases h
def sI (fs : List (TypeId × List EK)) (r : Nat → Prop) : In := ⟨fun n => match fs[n]? with
 | some e => some (.fam e.1 fun _ _ => False)
 | none => none, ⟨r, fun _ => []⟩⟩
theorem Du {fs : List (TypeId × List EK)} (hd : (fs.map (·.1)).Nodup) (w : World) {r : Nat → Prop} (hr : ∀ b, r b → b < w.heap.size) : HR (sI fs r) w (um fs) := by
 have hh : ∀ n b, um fs n = some b → ∃ e, fs[n]? = some e ∧ b = .fam e.1 e.2 [] := fun n b h => by
  simp only [um] at h
  split at h
  ·rename_i e he
   exact ⟨e, he, (ae h).symm⟩
  ·cases h
 have hi : ∀ n e, (sI fs r).ι n = some e → ∃ q, fs[n]? = some q ∧ e = .fam q.1 fun _ _ => False := fun n e h => by
  simp only [sI] at h
  split at h
  ·rename_i q hq
   exact ⟨q, hq, (ae h).symm⟩
  ·cases h
 refine HR.of (fun n b h => ?_) (fun n h => ?_) (fun n e b h hb => ?_) (fun n m e e' b h h' hb hb' => ?_) hr (fun n m t B B' h h' => ?_)
 ·obtain ⟨e, he, rfl⟩ := hh n b h
  refine ⟨fun _ _ => False, by simp [sI, he], rfl, fun i x b hx => by simp at hx, fun i j c h => h.elim, fun i c h => h.elim⟩
 ·simp only [um] at h
  split at h
  ·cases h
  ·rename_i he
   simp [sI, he]
 ·obtain ⟨q, _, rfl⟩ := hi n e h
  obtain ⟨i, hb⟩ := hb
  exact hb.elim
 ·obtain ⟨q, _, rfl⟩ := hi n e h
  obtain ⟨i, hb⟩ := hb
  exact hb.elim
 ·obtain ⟨q, hq, e⟩ := hi n _ h
  obtain ⟨q', hq', e'⟩ := hi m _ h'
  simp only [Ent.fam.injEq] at e e'
  have h1 : (fs.map (·.1))[n]? = some t := by rw [bz, hq, e.1]; rfl
  have h2 : (fs.map (·.1))[m]? = some t := by rw [bz, hq', e'.1]; rfl
  have hn := (List.getElem?_eq_some_iff.1 h1).1
  exact (List.getElem?_inj hn hd).1 (h1.trans h2.symm)
def wJ (cx : Cx) (fuel f d : Nat) (S : FS) (fs : List (TypeId × List EK)) : Prop := ∀ x, eV cx (dD cx fuel (d + 1)) f d (S.tin.T nam0 x) (um fs) (wC S) = S.fn x
theorem vZ {cx : Cx} {fuel f d : Nat} {S : FS} {fs : List (TypeId × List EK)} (hg : Good cx) (heq : wJ cx fuel f d S fs) (hoi : ∀ o, S.out (S.inn o) = o) (hd : (fs.map (·.1)).Nodup) (h1 : mq S.tin.ks = true) (h2 : S.tin.os.isEmpty = true) (h3 : mq S.tout.ks = true) (h4 : S.tout.os.isEmpty = true) : ez cx.P f S := by
 obtain ⟨⟨ks, os⟩, ⟨oks, oos⟩, R, out, inn, fn⟩ := S
 simp only [List.isEmpty_iff] at h2 h4
 subst h2 h4
 have hnames : ∀ (t : List IK) (y : dn t) (ρ : Nam), dX t = true → Tmpl.names ⟨t, []⟩ ρ = [] := by
  intro t y ρ hp
  unfold Tmpl.names
  simp only [dU, aE]
  exact (eJ (ρ := ρ) (c := 0) (x := y) (H := fun _ => none) hp).2
 have hfree : ∀ (t : List IK) (y : dn t) (ρ : Nam) (H : Heap), dX t = true → Tmpl.free ⟨t, []⟩ ρ H = true := by
  intro t y ρ H hp
  unfold Tmpl.free
  rw [hnames t y ρ hp]
  rfl
 have hHn : ∀ (t : List IK) (y : dn t × jA []) (ρ : Nam) (H0 : Heap), dX t = true → Tmpl.H ⟨t, []⟩ ρ y H0 = H0 := fun t y ρ H0 hp => by
  unfold Tmpl.H
  simp only [mE]
  exact (eJ hp).1
 have p1 := mr h1
 have p3 := mr h3
 intro α I w H A args ρ κ r X m hH hA hx hρ h
 obtain ⟨Y, hY, hk⟩ := Option.bind_eq_some_iff.1 h
 obtain rfl : m = ⟨[], []⟩ := by
  unfold Tmpl.pr at hx
  split at hx
  ·rename_i x m1 hx1
   obtain ⟨rfl, _⟩ := hZ p1 hx1
   simp only [jB] at hx
   split at hx
   ·simp only [aa, ab] at hx
    exact hx.2.symm
   ·cases hx
  ·cases hx
 obtain ⟨⟨I0, hL0⟩, hlen, _⟩ := fc (ρ := nam0) hH rfl hx (vals := fun i => args.getD i undef) (fun i => hA.getD i) (en I w ⟨ks, []⟩ nam0 ⟨[], []⟩) (hfree ks X.1 nam0 _ p1)
 have hle : (Tmpl.T ⟨ks, []⟩ nam0 X).length ≤ args.length := by
  unfold Tmpl.T
  rw [dG, ← hA.length]
  exact hlen
 have hV : ∀ i, VR (sI fs I.R.r) w ((Tmpl.T ⟨ks, []⟩ nam0 X).getD i .undef) (args.getD i undef) := un (I := I0) (fun b hb => by rw [hL0.R] at hb; exact hb) (fun b _ => rfl) h1 hL0.val
 have hb := (heq X).trans hY
 refine Calls.mono (jK hg (eE hg fuel (d + 1)) (Du hd w hH.rlt) hle hV hb) ?_
 rintro e w' he
 cases e with
 | returned z =>
  obtain ⟨I', v, H', g1, g2, g3, g4⟩ := he
  have hnb : ∀ n e c, (sI fs I.R.r).ι n = some e → ¬ e.has c := fun n e c hn => by
   simp only [sI] at hn
   split at hn
   ·simp only [aa] at hn
    subst hn
    rintro ⟨i, h⟩
    exact h
   ·cases hn
  have gw : GrowW w w' := ⟨g2.size, fun b hb => g2.same b hb fun n e hn => hnb n e b hn, g2.os, g2.tape, g2.output⟩
  unfold wC at g1
  split at g1
  ·rename_i l hl
   have p3' : dX (FS.mk ⟨ks, []⟩ ⟨oks, []⟩ R out inn fn).tout.ks = true := p3
   rw [if_pos p3'] at g1
   generalize hs : fC l [] H' = q at g1
   obtain ⟨A1, T1, H1⟩ := q
   simp only at g1
   obtain ⟨us, u1, u2', u3⟩ := mj g4 hl
   obtain ⟨I3, h3', h2', u2⟩ := nW g3 u2' hs
   split at g1
   ·rename_i zz m1 hz
    simp only [aa] at g1
    rw [← g1, hoi] at hk
    have he3 := g2.trans h2'
    obtain ⟨⟨I2, hL2⟩, _, _⟩ := fc (ρ := nam0) h3' rfl hz (vals := fun i => us.getD i undef) (fun i => u2.getD i) (en I3 w' ⟨oks, []⟩ nam0 m1) (hfree oks zz.1 nam0 _ p3)
    split at hk
    ·have e1 : Tmpl.H ⟨oks, []⟩ ρ zz ((cC [] H).away ⟨[], []⟩) = H := by
      rw [hHn oks zz ρ _ p3]
      rfl
     rw [e1] at hk
     have hT : Tmpl.T ⟨oks, []⟩ ρ zz = Tmpl.T ⟨oks, []⟩ nam0 zz := h9 p3
     rw [hT] at hk
     obtain ⟨q1, q2⟩ := gw.hr hH
     refine ⟨I.grow w w', _, _, _, hk, gw.ext I, q1, u3 (LR.of ?_ (un (I := I2) (fun b hb => ?_) (fun b _ => rfl) h3 hL2.val)), fun l hl n sz v _ hi => hi⟩
     ·unfold Tmpl.T
      rw [dG, u1]
     ·rw [hL2.R] at hb
      rcases he3.newR b hb with h5 | ⟨n, e, h5, h6⟩ | h5
      ·exact .inl h5
      ·exact absurd h6 (hnb n e b h5)
      ·exact .inr ⟨h5, h3'.rlt b hb⟩
    ·cases hk
   ·cases g1
  ·cases g1
 | _ => exact he.elim
end Go.Proofs.Dk
namespace Go.Proofs.YtipefepnkpoiaaaGreatH
open Go
def cnt (S : Nat → Bool) : Nat → Nat
 | 0 => 0
 | n + 1 => cnt S n + (if S n then 0 else 1)
def don (S : Nat → Bool) (i : Nat) : Nat → Bool := fun j => if j = i then true else S j
theorem cnt_le (S : Nat → Bool) (i : Nat) : ∀ n, n ≤ i → cnt (don S i) n = cnt S n
 | 0, _ => rfl
 | n + 1, h => by
  simp only [cnt]
  rw [cnt_le S i n (by omega)]
  simp [don, show n ≠ i by omega]
theorem cnt_don (S : Nat → Bool) (i : Nat) (hi : S i = false) : ∀ n, i < n → cnt S n = cnt (don S i) n + 1
 | 0, h => by omega
 | n + 1, h => by
  simp only [cnt]
  by_cases e : n = i
  ·subst e
   rw [cnt_le S n n (Nat.le_refl _)]
   simp [don, hi]
  ·rw [cnt_don S i hi n (by omega)]
   simp [don, e]
   omega
theorem jJ (S : Nat → Bool) : ∀ n, cnt S n = 0 → ∀ i, i < n → S i = true
 | 0, _, i, hi => by omega
 | n + 1, h, i, hi => by
  simp only [cnt] at h
  by_cases e : i = n
  ·subst e
   cases hs : S i with
   | true => rfl
   | false => rw [hs] at h; simp at h
  ·exact jJ S n (by omega) i (by omega)
section
variable {P : Program} {ops : Array Oper} {Q : Exit → Act → World → Prop}
theorem mem_ready' {listed : Array Bool} (hs : listed.size = ops.size) {i : Nat} : i ∈ Region.ready .any ops listed ↔ listed.getD i false = false ∧ ∃ o, ops[i]? = some o ∧ ∀ e ∈ o.after, Region.binds .any e = true → listed.getD e.on false = true := by
 rw [mem_ready]
 constructor
 ·rintro ⟨h, o, ho, ha⟩
  have hlt : i < listed.size := by rw [hs]; exact (Array.getElem?_eq_some_iff.1 ho).1
  exact ⟨by simpa [hlt] using h, o, ho, ha⟩
 ·rintro ⟨h, o, ho, ha⟩
  have hlt : i < listed.size := by rw [hs]; exact (Array.getElem?_eq_some_iff.1 ho).1
  exact ⟨by simpa [hlt] using h, o, ho, ha⟩
theorem all_done (hback : ∀ (i : Nat) (o : Oper), ops[i]? = some o → ∀ e ∈ o.after, e.on < i) (listed : Array Bool) (hs : listed.size = ops.size) (h : Region.ready .any ops listed = []) : ∀ i, i < ops.size → listed.getD i false = true := by
 intro i
 induction i using Nat.strongRecOn with
 | _ i ih =>
  intro hi
  cases hl : listed.getD i false with
  | true => rfl
  | false =>
   exfalso
   have hm : i ∈ Region.ready .any ops listed := by
    rw [mem_ready' hs]
    refine ⟨hl, ops[i], by simp [hi], fun e he _ => ?_⟩
    have hlt := hback i ops[i] (by simp [hi]) e he
    exact ih e.on hlt (by omega)
   rw [h] at hm
   cases hm
theorem wpAny_inv (I : (Nat → Bool) → Act → World → Prop) (hback : ∀ (i : Nat) (o : Oper), ops[i]? = some o → ∀ e ∈ o.after, e.on < i)
  (hstep : ∀ S i o a w, ops[i]? = some o → S i = false → (∀ e ∈ o.after, Region.binds .any e = true → S e.on = true) → I S a w → wpOp P ops Q i (I (don S i)) a w)
  (hend : ∀ S a w, (∀ i, i < ops.size → S i = true) → I S a w → Q .normal a w) :
  ∀ (fuel : Nat) (listed : Array Bool) (a : Act) (w : World), listed.size = ops.size → cnt (fun i => listed.getD i false) ops.size ≤ fuel → I (fun i => listed.getD i false) a w → wpAny P .any ops Q fuel listed a w
 | 0, listed, a, w, hs, hc, hI => by
  have hall := jJ _ _ (Nat.le_zero.1 hc)
  refine ⟨?_, hend _ a w hall hI⟩
  cases hr : Region.ready .any ops listed with
  | nil => rfl
  | cons i rs =>
   have hm : i ∈ Region.ready .any ops listed := by rw [hr]; exact List.mem_cons_self
   rw [mem_ready' hs] at hm
   obtain ⟨h1, o, ho, _⟩ := hm
   have := hall i (Array.getElem?_eq_some_iff.1 ho).1
   rw [this] at h1
   cases h1
 | fuel + 1, listed, a, w, hs, hc, hI => by
  refine ⟨fun hr => hend _ a w (all_done hback listed hs hr) hI, fun i hm => ?_⟩
  rw [mem_ready' hs] at hm
  obtain ⟨h1, o, ho, ha⟩ := hm
  have hlt : i < ops.size := (Array.getElem?_eq_some_iff.1 ho).1
  have hS : (fun j => (listed.setIfInBounds i true).getD j false) = don (fun j => listed.getD j false) i := by
   funext j
   simp only [don]
   by_cases e : j = i
   ·subst e
    simp [hs, hlt]
   ·rw [if_neg e, getD_set_ne false (Ne.symm e)]
  refine wpOp_mono (fun a' w' h => ?_) (hstep _ i o a w ho h1 ha hI)
  refine wpAny_inv I hback hstep hend fuel _ a' w' (by simp [hs]) ?_ ?_
  ·rw [hS]
   have := cnt_don (fun j => listed.getD j false) i h1 ops.size hlt
   omega
  ·rw [hS]
   exact h
theorem wp_region_inv {id : Nat} {a : Act} {w : World} (hm : P.follows .mixedOrders = true) (I : (Nat → Bool) → Act → World → Prop) (hback : ∀ (i : Nat) (o : Oper), ops[i]? = some o → ∀ e ∈ o.after, e.on < i)
  (hstep : ∀ S i o a w, ops[i]? = some o → S i = false → (∀ e ∈ o.after, Region.binds .any e = true → S e.on = true) → I S a w → wpOp P ops Q i (I (don S i)) a w)
  (hend : ∀ S a w, (∀ i, i < ops.size → S i = true) → I S a w → Q .normal a w) (h0 : I (fun _ => false) a w.drew) : (Code.region id ops true).wp P Q a w := by
 refine wp_region_any hm (wpAny_inv I hback hstep hend ops.size _ a _ (by simp) ?_ ?_)
 ·have : ∀ (S : Nat → Bool) n, cnt S n ≤ n := by
   intro S n
   induction n with
   | zero => exact Nat.le_refl _
   | succ n ih => simp only [cnt]; split <;> omega
  exact this _ _
 ·have e : (fun i => (Array.replicate ops.size false).getD i false) = fun _ => false := by
   funext i
   by_cases hi : i < ops.size <;> simp [hi]
  rw [e]
  exact h0
end
def backB (ops : Array Oper) : Bool := (List.range ops.size).all fun i => match ops[i]? with | some o => o.after.all (fun e => decide (e.on < i)) | none => true
theorem back_of {ops : Array Oper} (h : backB ops = true) : ∀ (i : Nat) (o : Oper), ops[i]? = some o → ∀ e ∈ o.after, e.on < i := by
 intro i o ho e he
 have hlt : i < ops.size := (Array.getElem?_eq_some_iff.1 ho).1
 have h1 := List.all_eq_true.1 h i (List.mem_range.2 hlt)
 rw [ho] at h1
 have h2 := Array.all_eq_true_iff_forall_mem.1 h1 e he
 exact of_decide_eq_true h2
end Go.Proofs.YtipefepnkpoiaaaGreatH
namespace Go.Proofs.YtipefepnkpoiaaaGreat.E
open Go.RowKit Go.Proofs.YtipefepnkpoiaaaGreatH
theorem blk_cell {w : World} {g : Nat} {t : TypeId} {cs : Array Value} (h : w.heap[g]? = some (.cells cs t (0, 0))) (i : Nat) : w.cell? ⟨g, i, none⟩ = cs[i]? := cell_of_row w g i cs t (0, 0) h
theorem run_store_func {P : Program} {w : World} {a : Addr} {m : Mode} (f : Fn) (x y : Array Value) : (store a (.func f x y) m).run P w = stored P w a (.func f x y) m := run_store P w a _ m rfl
attribute [local go_sem] run_store_func
inductive GK | al (s : ByteArray) | dup | swp | two
def gk (k : Int) : Option (ByteArray × GK) :=
 if k = 1 ∨ k = 11 ∨ k = 13 ∨ k = 15 ∨ k = 17 then some (⟨#[]⟩, .al ⟨#[105]⟩)
 else if k = 12 ∨ k = 14 ∨ k = 16 ∨ k = 18 then some (⟨#[105]⟩, .al ⟨#[]⟩)
 else if k = 2 then some (⟨#[32]⟩, .al ⟨#[]⟩)
 else if k = 3 then some (⟨#[32]⟩, .dup)
 else if k = 4 then some (⟨#[32, 32]⟩, .swp)
 else if k = 5 then some (⟨#[105, 105]⟩, .two)
 else if k = 6 then some (⟨#[105]⟩, .al ⟨#[105]⟩)
 else if k = 7 then some (⟨#[98]⟩, .al ⟨#[98]⟩)
 else if k = 8 ∨ k = 9 then some (⟨#[98, 98]⟩, .al ⟨#[98]⟩)
 else if k = 10 then some (⟨#[98]⟩, .al ⟨#[105]⟩)
 else if k = 20 then some (⟨#[98]⟩, .al ⟨#[]⟩)
 else none
def gfn (BB : Nat) (w : World) (f : Value) : GK → Prop
 | .al s => ∃ p : Nat, BB ≤ p ∧ f = .func (.func 176) #[] #[.pointer (some ⟨p, 0, none⟩)] ∧ w.heap[p]? = some (.cells #[.string s] 9 (0, 0))
 | .dup => f = .func (.func 171) #[] #[]
 | .swp => f = .func (.func 172) #[] #[]
 | .two => f = .func (.func 173) #[] #[]
def Good (BB : Nat) (w : World) (k : Int) (v : Value) : Prop := ∃ t g f, gk k = some (t, g) ∧ v = .agg #[.string t, f] ∧ gfn BB w f g
def KeepC (w w' : World) : Prop := ∀ (k : Nat) (cs : Array Value) (t : TypeId) (sh : Nat × Nat), w.heap[k]? = some (.cells cs t sh) → w'.heap[k]? = some (.cells cs t sh)
theorem KeepC.refl (w : World) : KeepC w w := fun _ _ _ _ h => h
theorem KeepC.trans {a b c : World} (h : KeepC a b) (h2 : KeepC b c) : KeepC a c := fun k cs t sh hk => h2 k cs t sh (h k cs t sh hk)
theorem KeepC.alloc (w : World) (o : Obj) : KeepC w (w.alloc o) := fun k cs t sh hk => by
 have hlt : k < w.heap.size := (Array.getElem?_eq_some_iff.1 hk).1
 rw [Below.heap_alloc _ _ _ hlt]
 exact hk
theorem KeepC.below {w w' : World} (h : Below w.heap.size w w') : KeepC w w' := fun k cs t sh hk => by
 have hlt : k < w.heap.size := (Array.getElem?_eq_some_iff.1 hk).1
 rw [h.block k hlt]
 exact hk
theorem KeepC.map {w w' : World} {b : Nat} {es : Array MapEntry} {c : Nat} (hb : w.heap[b]? = some (.map es c)) (hg : w.grownBy w' (some b)) : KeepC w w' := fun k cs t sh hk => by
 have hlt : k < w.heap.size := (Array.getElem?_eq_some_iff.1 hk).1
 rw [hg.block k hlt (fun e => by injection e with e; subst e; rw [hb] at hk; cases hk)]
 exact hk
theorem gfn_keep {BB : Nat} {w w' : World} (h : KeepC w w') {f : Value} : ∀ {g : GK}, gfn BB w f g → gfn BB w' f g
 | .al s, ⟨p, e0, e, hp⟩ => ⟨p, e0, e, h _ _ _ _ hp⟩
 | .dup, e => e
 | .swp, e => e
 | .two, e => e
theorem Good.keep {BB : Nat} {w w' : World} (h : KeepC w w') {k : Int} {v : Value} : Good BB w k v → Good BB w' k v
 | ⟨t, g, f, e, e2, hg⟩ => ⟨t, g, f, e, e2, gfn_keep h hg⟩
def vp (BB : Nat) : Nat → Option (Nat × (World → Value → Prop))
 | 1 => some (11, (fun W v => Good BB W 1 v))
 | 3 => some (12, (fun W v => Good BB W 11 v))
 | 5 => some (13, (fun W v => Good BB W 13 v))
 | 7 => some (14, (fun W v => Good BB W 15 v))
 | 9 => some (15, (fun W v => Good BB W 17 v))
 | 11 => some (16, (fun W v => Good BB W 12 v))
 | 13 => some (17, (fun W v => Good BB W 14 v))
 | 15 => some (18, (fun W v => Good BB W 16 v))
 | 17 => some (19, (fun W v => Good BB W 18 v))
 | 19 => some (20, (fun W v => gfn BB W v (.al ⟨#[]⟩)))
 | 20 => some (21, (fun W v => Good BB W 2 v))
 | 22 => some (22, (fun W v => Good BB W 3 v))
 | 24 => some (23, (fun W v => Good BB W 4 v))
 | 26 => some (24, (fun W v => Good BB W 5 v))
 | 28 => some (25, (fun W v => gfn BB W v (.al ⟨#[105]⟩)))
 | 29 => some (26, (fun W v => Good BB W 6 v))
 | 31 => some (27, (fun W v => gfn BB W v (.al ⟨#[98]⟩)))
 | 32 => some (28, (fun W v => Good BB W 7 v))
 | 34 => some (29, (fun W v => Good BB W 8 v))
 | 36 => some (30, (fun W v => Good BB W 9 v))
 | 38 => some (31, (fun W v => gfn BB W v (.al ⟨#[105]⟩)))
 | 39 => some (32, (fun W v => Good BB W 10 v))
 | 41 => some (33, (fun W v => gfn BB W v (.al ⟨#[]⟩)))
 | 42 => some (34, (fun W v => Good BB W 20 v))
 | _ => none
def ins : Nat → Option Int
 | 2 => some 1
 | 4 => some 11
 | 6 => some 13
 | 8 => some 15
 | 10 => some 17
 | 12 => some 12
 | 14 => some 14
 | 16 => some 16
 | 18 => some 18
 | 21 => some 2
 | 23 => some 3
 | 25 => some 4
 | 27 => some 5
 | 30 => some 6
 | 33 => some 7
 | 35 => some 8
 | 37 => some 9
 | 40 => some 10
 | 43 => some 20
 | _ => none
def vidx : Nat → Nat
 | 11 => 1
 | 12 => 3
 | 13 => 5
 | 14 => 7
 | 15 => 9
 | 16 => 11
 | 17 => 13
 | 18 => 15
 | 19 => 17
 | 20 => 19
 | 21 => 20
 | 22 => 22
 | 23 => 24
 | 24 => 26
 | 25 => 28
 | 26 => 29
 | 27 => 31
 | 28 => 32
 | 29 => 34
 | 30 => 36
 | 31 => 38
 | 32 => 39
 | 33 => 41
 | 34 => 42
 | _ => 0
def iidx (k : Int) : Nat := if k = 1 then 2 else if k = 11 then 4 else if k = 13 then 6 else if k = 15 then 8 else if k = 17 then 10 else if k = 12 then 12 else if k = 14 then 14 else if k = 16 then 16 else if k = 18 then 18 else if k = 2 then 21 else if k = 3 then 23 else if k = 4 then 25 else if k = 5 then 27 else if k = 6 then 30 else if k = 7 then 33 else if k = 8 then 35 else if k = 9 then 37 else if k = 10 then 40 else if k = 20 then 43 else 0
def RV (v : Value) : Option (DataW Value × List MemPlace) := some (.held v, [])
structure Inv (BB : Nat) (W0 : World) (B1 B2 B3 : Nat) (S : Nat → Bool) (a : Act) (W : World) : Prop where
 base : BB ≤ W0.heap.size
 size : a.tmps.size = 36
 defs : a.defers = []
 keep : KeepC W0 W
 below : Below W0.heap.size W0 W
 s1 : a.eval (.tmp 1) = .pointer (some ⟨B1, 0, none⟩)
 s2 : a.eval (.tmp 2) = .pointer (some ⟨B2, 0, none⟩)
 s3 : a.eval (.tmp 3) = .pointer (some ⟨B3, 0, none⟩)
 vals : ∀ j t p, vp BB j = some (t, p) → S j = true → p W (a.eval (.tmp t))
 made : ∀ j k, ins j = some k → S j = true → S 0 = true
 map : S 0 = true → ∃ (b n : Nat) (D : DataW Value), a.eval (.tmp 10) = .map (some b) ∧ W0.heap.size ≤ b ∧ W.ownsMap Tryz.prog 3 RV b n D ∧ n + cnt S 46 ≤ 46 ∧ ∀ k : Int, (Lit.int .i64 k).wf = true → ((∃ v, (∀ zd, D.atKey (.int .i64 k) zd = .held v) ∧ Good BB W k v ∧ ∃ j, ins j = some k ∧ S j = true) ∨ ((∀ zd, D.atKey (.int .i64 k) zd = zd) ∧ ∀ j, ins j = some k → S j = false))
 mv : S 44 = true → S 0 = true ∧ a.eval (.tmp 35) = a.eval (.tmp 10)
 rs : S 45 = true → S 44 = true ∧ a.eval (.tmp 0) = a.eval (.tmp 35)
theorem eval_put_ne (a : Act) (d t : Nat) (v : Value) (h : d ≠ t) : (a.put (some d) v).eval (.tmp t) = a.eval (.tmp t) := Act.eval_put (fun d' e e2 => by cases e; cases e2; exact h rfl)
theorem eval_put_eq (a : Act) (d : Nat) (v : Value) (h : d < a.tmps.size) : (a.put (some d) v).eval (.tmp d) = v := by
 simp [Act.put, Act.eval, h]
theorem vp_keep {BB : Nat} {w w' : World} (h : KeepC w w') {j t : Nat} {p : World → Value → Prop} (hv : vp BB j = some (t, p)) {v : Value} (hp : p w v) : p w' v := by
 unfold vp at hv
 split at hv <;> first
  | (injection hv with hv; injection hv with h1 h2; subst h2; exact Good.keep h hp)
  | (injection hv with hv; injection hv with h1 h2; subst h2; exact gfn_keep h hp)
  | cases hv
theorem vp_tmp {BB : Nat} {j t : Nat} {p : World → Value → Prop} (hv : vp BB j = some (t, p)) : 11 ≤ t ∧ t ≤ 34 ∧ vidx t = j ∧ 0 < j ∧ j < 44 ∧ ins j = none := by
 unfold vp at hv
 split at hv <;> first
  | (injection hv with hv; injection hv with h1 h2; subst h1; decide)
  | cases hv
theorem ins_idx {BB : Nat} {j : Nat} {k : Int} (hv : ins j = some k) : iidx k = j ∧ 0 < j ∧ j < 44 ∧ vp BB j = none ∧ (Lit.int .i64 k).wf = true := by
 unfold ins at hv
 split at hv <;> first
  | (injection hv with hv; subst hv; exact ⟨by decide, by decide, by decide, rfl, by decide⟩)
  | cases hv
theorem don_ne {S : Nat → Bool} {i j : Nat} (h : i ≠ j) : don S j i = S i := by simp [don, h]
theorem don_eq {S : Nat → Bool} {j : Nat} : don S j j = true := by simp [don]
section
variable {BB : Nat} {W0 W W' : World} {B1 B2 B3 : Nat} {S : Nat → Bool} {a : Act}
theorem Inv.value (h : Inv BB W0 B1 B2 B3 S a W) {j t : Nat} {p : World → Value → Prop} {v : Value} (hv : vp BB j = some (t, p)) (hS : S j = false) (hk : KeepC W W') (hb : Below W0.heap.size W0 W') (hm : ∀ b n D, W.ownsMap Tryz.prog 3 RV b n D → W'.ownsMap Tryz.prog 3 RV b n D) (hp : p W' v) : Inv BB W0 B1 B2 B3 (don S j) (a.put (some t) v) W' := by
 obtain ⟨t1, t2, t3, t4, t5, t6⟩ := vp_tmp hv
 have hne : ∀ x : Nat, x < 11 ∨ 34 < x → (a.put (some t) v).eval (.tmp x) = a.eval (.tmp x) := fun x hx => eval_put_ne a t x v (by omega)
 refine ⟨h.base, by simpa [Act.put] using h.size, h.defs, h.keep.trans hk, hb, (hne 1 (by omega)).trans h.s1, (hne 2 (by omega)).trans h.s2, (hne 3 (by omega)).trans h.s3, ?_, ?_, ?_, ?_, ?_⟩
 ·intro j' t' p' hv' hS'
  by_cases e : j' = j
  ·subst e
   rw [hv] at hv'
   injection hv' with hv'
   injection hv' with e1 e2
   subst e1
   subst e2
   rw [eval_put_eq a t v (by have := h.size; omega)]
   exact hp
  ·rw [don_ne e] at hS'
   rw [eval_put_ne a t t' v (fun e2 => by subst e2; exact e ((vp_tmp hv').2.2.1.symm.trans t3))]
   exact vp_keep hk hv' (h.vals j' t' p' hv' hS')
 ·intro j' k hi hS'
  have e : j' ≠ j := fun e => by subst e; rw [t6] at hi; cases hi
  rw [don_ne e] at hS'
  rw [don_ne (by omega)]
  exact h.made j' k hi hS'
 ·intro h0
  rw [don_ne (by omega)] at h0
  obtain ⟨b, n, D, g1, g2, g3, g4, g5⟩ := h.map h0
  refine ⟨b, n, D, (hne 10 (by omega)).trans g1, g2, hm _ _ _ g3, ?_, fun k hw => ?_⟩
  ·have := cnt_don S j hS 46 (by omega)
   omega
  ·rcases g5 k hw with ⟨x, x1, x2, j', x3, x4⟩ | ⟨x1, x2⟩
   ·exact .inl ⟨x, x1, x2.keep hk, j', x3, by rw [don_ne (fun e => by subst e; rw [t6] at x3; cases x3)]; exact x4⟩
   ·exact .inr ⟨x1, fun j' x3 => by rw [don_ne (fun e => by subst e; rw [t6] at x3; cases x3)]; exact x2 j' x3⟩
 ·intro h0
  rw [don_ne (by omega)] at h0
  rw [don_ne (by omega), hne 35 (by omega), hne 10 (by omega)]
  exact h.mv h0
 ·intro h0
  rw [don_ne (by omega)] at h0
  rw [don_ne (by omega), hne 0 (by omega), hne 35 (by omega)]
  exact h.rs h0
theorem Inv.insert (h : Inv BB W0 B1 B2 B3 S a W) {j : Nat} {k : Int} {v : Value} {b n : Nat} {D : DataW Value} (hi : ins j = some k) (hS : S j = false) (hS0 : S 0 = true) (g1 : a.eval (.tmp 10) = .map (some b)) (g2 : W0.heap.size ≤ b) (g3 : W.ownsMap Tryz.prog 3 RV b n D) (g4 : n + cnt S 46 ≤ 46) (g5 : ∀ k : Int, (Lit.int .i64 k).wf = true → ((∃ v, (∀ zd, D.atKey (.int .i64 k) zd = .held v) ∧ Good BB W k v ∧ ∃ j, ins j = some k ∧ S j = true) ∨ ((∀ zd, D.atKey (.int .i64 k) zd = zd) ∧ ∀ j, ins j = some k → S j = false))) (hg : Good BB W k v)
  (hm : W'.ownsMap Tryz.prog 3 RV b (n + 1) (D.put (.int .i64 k) (.held v))) (hgr : W.grownBy W' (some b)) : Inv BB W0 B1 B2 B3 (don S j) a W' := by
 obtain ⟨t1, t2, t3, t4, t5⟩ := ins_idx (BB := BB) hi
 have hk : KeepC W W' := by
  obtain ⟨es, c, hb, _⟩ := g3
  exact KeepC.map hb hgr
 have hD : Maps.IsMap D := by
  obtain ⟨es, c, hb, _, _, e⟩ := g3
  exact ⟨_, e⟩
 refine ⟨h.base, h.size, h.defs, h.keep.trans hk, h.below.grown hgr h.below.size (fun j hj => by cases hj; exact g2), h.s1, h.s2, h.s3, ?_, ?_, ?_, ?_, ?_⟩
 ·intro j' t' p' hv' hS'
  rw [don_ne (fun e => by subst e; rw [t4] at hv'; cases hv')] at hS'
  exact vp_keep hk hv' (h.vals j' t' p' hv' hS')
 ·intro j' k' hi' hS'
  rw [don_ne (by omega)]
  exact hS0
 ·intro _
  refine ⟨b, n + 1, _, g1, g2, hm, ?_, fun k' hw => ?_⟩
  ·have := cnt_don S j hS 46 (by omega)
   omega
  ·by_cases e : k' = k
   ·subst e
    exact .inl ⟨v, fun zd => Maps.atKey_put_same hD (by first | exact trivial | simp [WideAt.IsKeyLit]) _ zd, hg.keep hk, j, hi, don_eq⟩
   ·have hne : (Lit.int IntKind.i64 k') ≠ .int .i64 k := fun e2 => e (by injection e2)
    rcases g5 k' hw with ⟨x, x1, x2, j', x3, x4⟩ | ⟨x1, x2⟩
    ·refine .inl ⟨x, fun zd => (Maps.atKey_put_other hne _ zd).trans (x1 zd), x2.keep hk, j', x3, ?_⟩
     rw [don_ne (fun e2 => by subst e2; rw [hi] at x3; injection x3 with x3; exact e x3.symm)]
     exact x4
    ·refine .inr ⟨fun zd => (Maps.atKey_put_other hne _ zd).trans (x1 zd), fun j' x3 => ?_⟩
     rw [don_ne (fun e2 => by subst e2; rw [hi] at x3; injection x3 with x3; exact e x3.symm)]
     exact x2 j' x3
 ·intro h0
  rw [don_ne (by omega)] at h0 ⊢
  exact h.mv h0
 ·intro h0
  rw [don_ne (by omega)] at h0 ⊢
  exact h.rs h0
end
theorem wpOp_of {P : Program} {ops : Array Oper} {Q : Exit → Act → World → Prop} {i : Nat} {o : Oper} {a : Act} {w : World} {K : Act → World → Prop} (ho : ops[i]? = some o) (hg : o.guard = none) (h : o.wp P a w K Q) : wpOp P ops Q i K a w := by
 unfold wpOp
 rw [ho]
 have hw : Region.wanted o (yielded ops a.tmps) = true := by simp [Region.wanted, hg]
 simp only [hw, if_true]
 exact .inl h
set_option maxHeartbeats 8000000 in
set_option maxRecDepth 100000 in
theorem always_calls (s : ByteArray) (w : World) : Calls Tryz.prog 170 #[.string s] w fun e w' => e = .returned (.func (.func 176) #[] #[.pointer (some ⟨w.heap.size, 0, none⟩)]) ∧ w' = w.alloc (.cells #[.string s] 9) := by
 go_enter Tryz.func170, Tryz.ntmps170
 go_wp2
 go_ret
 exact ⟨rfl, rfl⟩
section
variable {BB : Nat} {W0 W : World} {B1 B2 B3 : Nat} {S : Nat → Bool} {a : Act} {ops : Array Oper} {o : Oper} {Q : Exit → Act → World → Prop}
theorem st_load {j t s B : Nat} {k : Int} {x y : Value} (h : Inv BB W0 B1 B2 B3 S a W) (ho : ops[j]? = some o) (hop : o.op = .load 196 (.tmp s)) (hd : o.dst = some t) (hg : o.guard = none) (hs : a.eval (.tmp s) = .pointer (some ⟨B, 0, none⟩)) (hB : W0.heap[B]? = some (.cells #[x, y] 196 (0, 0))) (hv : vp BB j = some (t, fun W v => Good BB W k v)) (hS : S j = false) (hgd : Good BB W0 k (.agg #[x, y])) : wpOp Tryz.prog ops Q j (Inv BB W0 B1 B2 B3 (don S j)) a W := by
 have hBW := h.keep B _ _ _ hB
 have hx0 : W.cell? ⟨B, 0, none⟩ = some x := (blk_cell hBW 0).trans rfl
 have hx1 : W.cell? ⟨B, 1, none⟩ = some y := (blk_cell hBW 1).trans rfl
 have hu := Tryz.underlying196
 have hI := h.value hv hS (KeepC.refl W) h.below (fun _ _ _ hm => hm) (hgd.keep h.keep)
 refine wpOp_of ho hg ?_
 unfold Oper.wp
 simp only [execOp, hop, hs, hd]
 go_simp
 first | exact hI | trace_state
theorem st_call {j t : Nat} {s : ByteArray} (h : Inv BB W0 B1 B2 B3 S a W) (ho : ops[j]? = some o) (hop : o.op = .call { callee := .value (.func 170), args := #[.const (.string s)], argTypes := #[9] }) (hd : o.dst = some t) (hg : o.guard = none) (hv : vp BB j = some (t, fun W v => gfn BB W v (.al s))) (hS : S j = false) : wpOp Tryz.prog ops Q j (Inv BB W0 B1 B2 B3 (don S j)) a W := by
 refine wpOp_of ho hg ?_
 unfold Oper.wp
 have hrun : (execOp a.eval o).run Tryz.prog W = .ok (.enter 170 #[.string s]) W := by
  simp only [execOp, hop]
  go_simp
 rw [hrun]
 refine (always_calls s W).mono ?_
 rintro e w' ⟨rfl, rfl⟩
 rw [hd]
 exact h.value hv hS (KeepC.alloc W _) (h.below.alloc h.below.size _) (fun _ _ _ hm => hm.alloc _) ⟨W.heap.size, Nat.le_trans h.base h.below.size, rfl, Go.heap_alloc_new W _⟩
theorem st_build {j t : Nat} {k : Int} {F : Fn} {xs ys : Array Value} {x : Operand} {tk : ByteArray} (h : Inv BB W0 B1 B2 B3 S a W) (ho : ops[j]? = some o) (hop : o.op = .build 196 #[(0, .const (.string tk)), (1, x)]) (hd : o.dst = some t) (hg : o.guard = none) (hx : a.eval x = .func F xs ys) (hv : vp BB j = some (t, fun W v => Good BB W k v)) (hS : S j = false) (hgd : Good BB W k (.agg #[.string tk, .func F xs ys])) : wpOp Tryz.prog ops Q j (Inv BB W0 B1 B2 B3 (don S j)) a W := by
 have hu := Tryz.underlying196
 have hI := h.value hv hS (KeepC.refl W) h.below (fun _ _ _ hm => hm) hgd
 refine wpOp_of ho hg ?_
 unfold Oper.wp
 have hrun : (execOp a.eval o).run Tryz.prog W = .ok (.value (.agg #[.string tk, .func F xs ys])) W := by
  have hc : ∀ v, a.eval (.const v) = v := fun _ => rfl
  generalize a.eval = ρ at hx hc
  simp only [execOp, hop]
  go_simp
 rw [hrun]
 show Inv BB W0 B1 B2 B3 (don S j) (a.put o.dst _) W
 rw [hd]
 exact hI
theorem st_ins {j t jv : Nat} {k : Int} (h : Inv BB W0 B1 B2 B3 S a W) (ho : ops[j]? = some o) (hop : o.op = .insert 197 (.tmp 10) (.const (.int .i64 k)) (.tmp t)) (hd : o.dst = none) (hg : o.guard = none) (hi : ins j = some k) (hS : S j = false) (hS0 : S 0 = true) (hv : vp BB jv = some (t, fun W v => Good BB W k v)) (hSv : S jv = true) : wpOp Tryz.prog ops Q j (Inv BB W0 B1 B2 B3 (don S j)) a W := by
 obtain ⟨b, n, D, g1, g2, g3, g4, g5⟩ := h.map hS0
 have hgd := h.vals jv t _ hv hSv
 obtain ⟨t1, t2, t3, t4, t5⟩ := ins_idx (BB := BB) hi
 have hkey : keyOf Tryz.prog 3 (.int .i64 k) = some (.int .i64 k) := Maps.keyOf_int_mk Tryz.underlying3 t5
 obtain ⟨w', hrun, r1, r2⟩ := g3.update (Maps.int_keyed Tryz.underlying3) Tryz.underlying197 (by unfold maxLen; omega) hkey (val := a.eval (.tmp t)) (ps := []) rfl
 refine wpOp_of ho hg ?_
 unfold Oper.wp
 simp [execOp, hop, g1, hrun, Result.andThen, BigFrame.eval_const]
 show Inv BB W0 B1 B2 B3 (don S j) (a.put o.dst undef) w'
 rw [hd]
 exact h.insert hi hS hS0 g1 g2 g3 g4 g5 hgd r1 r2
end
theorem cnt_max (S : Nat → Bool) : ∀ n, cnt S n ≤ n
 | 0 => Nat.le_refl _
 | n + 1 => by
  have := cnt_max S n
  simp only [cnt]
  split <;> omega
theorem gk_ins {k : Int} (h : gk k ≠ none) : ∃ j, ins j = some k := by
 unfold gk at h
 repeat' split at h
 all_goals first
  | exact absurd rfl h
  | (rename_i hk; rcases hk with rfl | rfl | rfl | rfl | rfl <;> first | exact ⟨2, rfl⟩ | exact ⟨4, rfl⟩ | exact ⟨6, rfl⟩ | exact ⟨8, rfl⟩ | exact ⟨10, rfl⟩)
  | (rename_i hk; rcases hk with rfl | rfl | rfl | rfl <;> first | exact ⟨12, rfl⟩ | exact ⟨14, rfl⟩ | exact ⟨16, rfl⟩ | exact ⟨18, rfl⟩)
  | (rename_i hk; rcases hk with rfl | rfl <;> first | exact ⟨35, rfl⟩ | exact ⟨37, rfl⟩)
  | (rename_i hk; subst hk; first | exact ⟨21, rfl⟩ | exact ⟨23, rfl⟩ | exact ⟨25, rfl⟩ | exact ⟨27, rfl⟩ | exact ⟨30, rfl⟩ | exact ⟨33, rfl⟩ | exact ⟨40, rfl⟩ | exact ⟨43, rfl⟩)
section
variable {BB : Nat} {W0 W : World} {B1 B2 B3 : Nat} {S : Nat → Bool} {a : Act} {ops : Array Oper} {o : Oper} {Q : Exit → Act → World → Prop}
theorem st_make (h : Inv BB W0 B1 B2 B3 S a W) (ho : ops[0]? = some o) (hop : o.op = .makeMap 197 none) (hd : o.dst = some 10) (hg : o.guard = none) (hS : S 0 = false) : wpOp Tryz.prog ops Q 0 (Inv BB W0 B1 B2 B3 (don S 0)) a W := by
 have hmm := @run_makeMap Tryz.prog
 refine wpOp_of ho hg ?_
 have hrun : (execOp a.eval o).run Tryz.prog W = .ok (.value (.map (some W.heap.size))) (W.alloc (.map #[] 0)) := by
  simp only [execOp, hop]
  go_simp
 unfold Oper.wp
 rw [hrun]
 show Inv BB W0 B1 B2 B3 (don S 0) (a.put o.dst _) _
 rw [hd]
 have hno : ∀ j k, ins j = some k → S j = false := fun j k hi => by
  cases hj : S j with
  | false => rfl
  | true => have := h.made j k hi hj; rw [hS] at this; cases this
 have h44 : S 44 = false := by
  cases hj : S 44 with
  | false => rfl
  | true => have := (h.mv hj).1; rw [hS] at this; cases this
 have h45 : S 45 = false := by
  cases hj : S 45 with
  | false => rfl
  | true => have := (h.rs hj).1; rw [h44] at this; cases this
 have hne : ∀ x : Nat, x ≠ 10 → (a.put (some 10) (.map (some W.heap.size))).eval (.tmp x) = a.eval (.tmp x) := fun x hx => eval_put_ne a 10 x _ (by omega)
 refine ⟨h.base, by simpa [Act.put] using h.size, h.defs, h.keep.trans (KeepC.alloc W _), h.below.alloc h.below.size _, (hne 1 (by omega)).trans h.s1, (hne 2 (by omega)).trans h.s2, (hne 3 (by omega)).trans h.s3, ?_, ?_, ?_, ?_, ?_⟩
 ·intro j t p hv hSj
  obtain ⟨t1, t2, t3, t4, t5, t6⟩ := vp_tmp hv
  rw [don_ne (by omega)] at hSj
  rw [hne t (by omega)]
  exact vp_keep (KeepC.alloc W _) hv (h.vals j t p hv hSj)
 ·intro j k hi hSj
  exact don_eq
 ·intro _
  refine ⟨W.heap.size, 0, .map [], eval_put_eq a 10 _ (by have := h.size; omega), h.below.size, World.ownsMap_made _ _ _ _, by have := cnt_max (don S 0) 46; omega, fun k hw => .inr ⟨fun zd => rfl, fun j hi => ?_⟩⟩
  rw [don_ne (by have := ins_idx (BB := BB) hi; omega)]
  exact hno j k hi
 ·intro h0
  rw [don_ne (by omega), h44] at h0
  cases h0
 ·intro h0
  rw [don_ne (by omega), h45] at h0
  cases h0
theorem st_move (h : Inv BB W0 B1 B2 B3 S a W) (ho : ops[44]? = some o) (hop : o.op = .move (.tmp 10)) (hd : o.dst = some 35) (hg : o.guard = none) (hS : S 44 = false) (hS0 : S 0 = true) : wpOp Tryz.prog ops Q 44 (Inv BB W0 B1 B2 B3 (don S 44)) a W := by
 refine wpOp_of ho hg ?_
 have hrun : (execOp a.eval o).run Tryz.prog W = .ok (.value (a.eval (.tmp 10))) W := by
  simp only [execOp, hop]
  go_simp
 unfold Oper.wp
 rw [hrun]
 show Inv BB W0 B1 B2 B3 (don S 44) (a.put o.dst _) _
 rw [hd]
 have h45 : S 45 = false := by
  cases hj : S 45 with
  | false => rfl
  | true => have := (h.rs hj).1; rw [hS] at this; cases this
 have hne : ∀ x : Nat, x ≠ 35 → (a.put (some 35) (a.eval (.tmp 10))).eval (.tmp x) = a.eval (.tmp x) := fun x hx => eval_put_ne a 35 x _ (by omega)
 refine ⟨h.base, by simpa [Act.put] using h.size, h.defs, h.keep, h.below, (hne 1 (by omega)).trans h.s1, (hne 2 (by omega)).trans h.s2, (hne 3 (by omega)).trans h.s3, ?_, ?_, ?_, ?_, ?_⟩
 ·intro j t p hv hSj
  obtain ⟨t1, t2, t3, t4, t5, t6⟩ := vp_tmp hv
  rw [don_ne (by omega)] at hSj
  rw [hne t (by omega)]
  exact h.vals j t p hv hSj
 ·intro j k hi hSj
  rw [don_ne (by omega)]
  exact hS0
 ·intro h0
  obtain ⟨b, n, D, g1, g2, g3, g4, g5⟩ := h.map hS0
  refine ⟨b, n, D, (hne 10 (by omega)).trans g1, g2, g3, by have := cnt_don S 44 hS 46 (by omega); omega, fun k hw => ?_⟩
  rcases g5 k hw with ⟨x, x1, x2, j', x3, x4⟩ | ⟨x1, x2⟩
  ·exact .inl ⟨x, x1, x2, j', x3, by rw [don_ne (by have := ins_idx (BB := BB) x3; omega)]; exact x4⟩
  ·exact .inr ⟨x1, fun j' x3 => by rw [don_ne (by have := ins_idx (BB := BB) x3; omega)]; exact x2 j' x3⟩
 ·intro _
  rw [don_ne (by omega)]
  exact ⟨hS0, by rw [eval_put_eq a 35 _ (by have := h.size; omega), hne 10 (by omega)]⟩
 ·intro h0
  rw [don_ne (by omega), h45] at h0
  cases h0
theorem st_res (h : Inv BB W0 B1 B2 B3 S a W) (ho : ops[45]? = some o) (hop : o.op = .assign (.tmp 35)) (hd : o.dst = some 0) (hg : o.guard = none) (hS : S 45 = false) (hS44 : S 44 = true) : wpOp Tryz.prog ops Q 45 (Inv BB W0 B1 B2 B3 (don S 45)) a W := by
 refine wpOp_of ho hg ?_
 have hrun : (execOp a.eval o).run Tryz.prog W = .ok (.value (a.eval (.tmp 35))) W := by
  simp only [execOp, hop]
  go_simp
 unfold Oper.wp
 rw [hrun]
 show Inv BB W0 B1 B2 B3 (don S 45) (a.put o.dst _) _
 rw [hd]
 have hS0 := (h.mv hS44).1
 have hne : ∀ x : Nat, x ≠ 0 → (a.put (some 0) (a.eval (.tmp 35))).eval (.tmp x) = a.eval (.tmp x) := fun x hx => eval_put_ne a 0 x _ (by omega)
 refine ⟨h.base, by simpa [Act.put] using h.size, h.defs, h.keep, h.below, (hne 1 (by omega)).trans h.s1, (hne 2 (by omega)).trans h.s2, (hne 3 (by omega)).trans h.s3, ?_, ?_, ?_, ?_, ?_⟩
 ·intro j t p hv hSj
  obtain ⟨t1, t2, t3, t4, t5, t6⟩ := vp_tmp hv
  rw [don_ne (by omega)] at hSj
  rw [hne t (by omega)]
  exact h.vals j t p hv hSj
 ·intro j k hi hSj
  rw [don_ne (by omega)]
  exact hS0
 ·intro h0
  obtain ⟨b, n, D, g1, g2, g3, g4, g5⟩ := h.map hS0
  refine ⟨b, n, D, (hne 10 (by omega)).trans g1, g2, g3, by have := cnt_don S 45 hS 46 (by omega); omega, fun k hw => ?_⟩
  rcases g5 k hw with ⟨x, x1, x2, j', x3, x4⟩ | ⟨x1, x2⟩
  ·exact .inl ⟨x, x1, x2, j', x3, by rw [don_ne (by have := ins_idx (BB := BB) x3; omega)]; exact x4⟩
  ·exact .inr ⟨x1, fun j' x3 => by rw [don_ne (by have := ins_idx (BB := BB) x3; omega)]; exact x2 j' x3⟩
 ·intro _
  rw [don_ne (by omega), hne 35 (by omega), hne 10 (by omega)]
  exact h.mv hS44
 ·intro _
  rw [don_ne (by omega)]
  exact ⟨hS44, by rw [eval_put_eq a 0 _ (by have := h.size; omega), hne 35 (by omega)]⟩
end
end Go.Proofs.YtipefepnkpoiaaaGreat.E
namespace Go.Proofs.YtipefepnkpoiaaaGreat.E
open Go.RowKit Go.Proofs.YtipefepnkpoiaaaGreatH
attribute [local go_sem] run_store_func
theorem below_alloc {w W : World} (h : Below w.heap.size w W) (o : Obj) : Below w.heap.size w (W.alloc o) := h.alloc h.size o
theorem below_drew {B : Nat} {w W : World} (h : Below B w W) : Below B w W.drew := h.drew
theorem alloc_at {w W : World} {o : Obj} {n : Nat} (hn : W.heap.size = n) : (W.alloc o).heap[n]? = some o := by
 subst hn
 exact Go.heap_alloc_new W o
theorem alloc_sz {W : World} {o : Obj} {n : Nat} (hn : W.heap.size = n) : (W.alloc o).heap.size = n + 1 := by rw [World.size_alloc, hn]
theorem alloc_old {W : World} {o o2 : Obj} {n m : Nat} (hn : W.heap.size = n) (hm : m < n) (h : W.heap[m]? = some o2) : (W.alloc o).heap[m]? = some o2 := by
 rw [Below.heap_alloc _ _ _ (by omega)]
 exact h
theorem alloc6 (w : World) (o0 o1 o2 o3 o4 o5 : Obj) (W0 : World) (e : W0 = (((((w.alloc o0).alloc o1).alloc o2).alloc o3).alloc o4).alloc o5) : W0.heap[w.heap.size]? = some o0 ∧ W0.heap[w.heap.size + 1]? = some o1 ∧ W0.heap[w.heap.size + 1 + 1]? = some o2 ∧ W0.heap[w.heap.size + 1 + 1 + 1]? = some o3 ∧ W0.heap[w.heap.size + 1 + 1 + 1 + 1]? = some o4 ∧ W0.heap[w.heap.size + 1 + 1 + 1 + 1 + 1]? = some o5 := by
 subst e
 have e0 : w.heap.size = w.heap.size := rfl
 have e1 := alloc_sz (o := o0) e0
 have e2 := alloc_sz (o := o1) e1
 have e3 := alloc_sz (o := o2) e2
 have e4 := alloc_sz (o := o3) e3
 have e5 := alloc_sz (o := o4) e4
 refine ⟨?_, ?_, ?_, ?_, ?_, Go.Proofs.YtipefepnkpoiaaaGreat.E.alloc_at (w := w) e5⟩
 ·exact alloc_old e5 (by omega) (alloc_old e4 (by omega) (alloc_old e3 (by omega) (alloc_old e2 (by omega) (alloc_old e1 (by omega) (alloc_at (w := w) e0)))))
 ·exact alloc_old e5 (by omega) (alloc_old e4 (by omega) (alloc_old e3 (by omega) (alloc_old e2 (by omega) (alloc_at (w := w) e1))))
 ·exact alloc_old e5 (by omega) (alloc_old e4 (by omega) (alloc_old e3 (by omega) (alloc_at (w := w) e2)))
 ·exact alloc_old e5 (by omega) (alloc_old e4 (by omega) (alloc_at (w := w) e3))
 ·exact alloc_old e5 (by omega) (alloc_at (w := w) e4)
set_option maxHeartbeats 8000000 in
set_option maxRecDepth 100000 in
theorem effects_calls (w : World) : Calls Tryz.prog 154 #[] w fun e w' => ∃ (b n : Nat) (D : DataW Value), e = .returned (.map (some b)) ∧ w.heap.size ≤ b ∧ Below w.heap.size w w' ∧ w'.ownsMap Tryz.prog 3 RV b n D ∧ ∀ k : Int, (Lit.int .i64 k).wf = true → ((∃ v, (∀ zd, D.atKey (.int .i64 k) zd = .held v) ∧ Good w.heap.size w' k v) ∨ (gk k = none ∧ ∀ zd, D.atKey (.int .i64 k) zd = zd)) := by
 have hu196 := Tryz.underlying196
 go_enter Tryz.func154, Tryz.ntmps154
 go_wp2
 have HW : ∀ W0 : World, W0 = ((((((w.alloc (.cells #[.string ⟨#[105]⟩] 9)).alloc (.cells #[.string ⟨#[]⟩] 9)).alloc (.cells #[.string ⟨#[]⟩, .func (.func 176) #[] #[.pointer (some ⟨w.heap.size, 0, none⟩)]] 196)).alloc (.cells #[.string ⟨#[105]⟩, .func (.func 176) #[] #[.pointer (some ⟨w.heap.size + 1, 0, none⟩)]] 196)).alloc (.cells #[.string ⟨#[98]⟩] 9)).alloc (.cells #[.string ⟨#[98, 98]⟩, .func (.func 176) #[] #[.pointer (some ⟨w.heap.size + 1 + 1 + 1 + 1, 0, none⟩)]] 196)) → Below w.heap.size w W0 ∧ W0.heap[w.heap.size]? = some (.cells #[.string ⟨#[105]⟩] 9 (0, 0)) ∧ W0.heap[w.heap.size + 1]? = some (.cells #[.string ⟨#[]⟩] 9 (0, 0)) ∧ W0.heap[w.heap.size + 1 + 1]? = some (.cells #[.string ⟨#[]⟩, .func (.func 176) #[] #[.pointer (some ⟨w.heap.size, 0, none⟩)]] 196 (0, 0)) ∧ W0.heap[w.heap.size + 1 + 1 + 1]? = some (.cells #[.string ⟨#[105]⟩, .func (.func 176) #[] #[.pointer (some ⟨w.heap.size + 1, 0, none⟩)]] 196 (0, 0)) ∧ W0.heap[w.heap.size + 1 + 1 + 1 + 1]? = some (.cells #[.string ⟨#[98]⟩] 9 (0, 0)) ∧ W0.heap[w.heap.size + 1 + 1 + 1 + 1 + 1]? = some (.cells #[.string ⟨#[98, 98]⟩, .func (.func 176) #[] #[.pointer (some ⟨w.heap.size + 1 + 1 + 1 + 1, 0, none⟩)]] 196 (0, 0)) := by
  rintro W0 e
  refine ⟨?_, alloc6 w _ _ _ _ _ _ W0 e⟩
  subst e
  repeat (first | exact Below.refl _ _ | refine below_alloc ?_ _)
 obtain ⟨qb, q0, q1, q2, q3, q4, q5⟩ := HW _ rfl
 clear HW
 generalize ((((((w.alloc (.cells #[.string ⟨#[105]⟩] 9)).alloc (.cells #[.string ⟨#[]⟩] 9)).alloc (.cells #[.string ⟨#[]⟩, .func (.func 176) #[] #[.pointer (some ⟨w.heap.size, 0, none⟩)]] 196)).alloc (.cells #[.string ⟨#[105]⟩, .func (.func 176) #[] #[.pointer (some ⟨w.heap.size + 1, 0, none⟩)]] 196)).alloc (.cells #[.string ⟨#[98]⟩] 9)).alloc (.cells #[.string ⟨#[98, 98]⟩, .func (.func 176) #[] #[.pointer (some ⟨w.heap.size + 1 + 1 + 1 + 1, 0, none⟩)]] 196)) = W0 at *
 refine wp_region_inv (by kernel_rfl) (Inv w.heap.size W0 (w.heap.size + 1 + 1) (w.heap.size + 1 + 1 + 1) (w.heap.size + 1 + 1 + 1 + 1 + 1)) ?_ ?_ ?_ ?_
 ·exact back_of (by kernel_rfl)
 ·intro S i o a W ho hS ha hI
  have hlt : i < 46 := (Array.getElem?_eq_some_iff.1 ho).1
  have hcs : i = 0 ∨ i = 1 ∨ i = 2 ∨ i = 3 ∨ i = 4 ∨ i = 5 ∨ i = 6 ∨ i = 7 ∨ i = 8 ∨ i = 9 ∨ i = 10 ∨ i = 11 ∨ i = 12 ∨ i = 13 ∨ i = 14 ∨ i = 15 ∨ i = 16 ∨ i = 17 ∨ i = 18 ∨ i = 19 ∨ i = 20 ∨ i = 21 ∨ i = 22 ∨ i = 23 ∨ i = 24 ∨ i = 25 ∨ i = 26 ∨ i = 27 ∨ i = 28 ∨ i = 29 ∨ i = 30 ∨ i = 31 ∨ i = 32 ∨ i = 33 ∨ i = 34 ∨ i = 35 ∨ i = 36 ∨ i = 37 ∨ i = 38 ∨ i = 39 ∨ i = 40 ∨ i = 41 ∨ i = 42 ∨ i = 43 ∨ i = 44 ∨ i = 45 := by omega
  rcases hcs with rfl | rfl | rfl | rfl | rfl | rfl | rfl | rfl | rfl | rfl | rfl | rfl | rfl | rfl | rfl | rfl | rfl | rfl | rfl | rfl | rfl | rfl | rfl | rfl | rfl | rfl | rfl | rfl | rfl | rfl | rfl | rfl | rfl | rfl | rfl | rfl | rfl | rfl | rfl | rfl | rfl | rfl | rfl | rfl | rfl | rfl
  ·obtain rfl := Option.some.inj ho
   exact st_make hI ho rfl rfl rfl hS
  ·obtain rfl := Option.some.inj ho
   exact st_load hI ho rfl rfl rfl hI.s1 q2 rfl hS ⟨_, _, _, rfl, rfl, ⟨_, Nat.le_refl _, rfl, q0⟩⟩
  ·obtain rfl := Option.some.inj ho
   exact st_ins hI ho rfl rfl rfl rfl hS (ha ⟨0, .data⟩ (by simp) rfl) (jv := 1) rfl (ha ⟨1, .data⟩ (by simp) rfl)
  ·obtain rfl := Option.some.inj ho
   exact st_load hI ho rfl rfl rfl hI.s1 q2 rfl hS ⟨_, _, _, rfl, rfl, ⟨_, Nat.le_refl _, rfl, q0⟩⟩
  ·obtain rfl := Option.some.inj ho
   exact st_ins hI ho rfl rfl rfl rfl hS (ha ⟨0, .data⟩ (by simp) rfl) (jv := 3) rfl (ha ⟨3, .data⟩ (by simp) rfl)
  ·obtain rfl := Option.some.inj ho
   exact st_load hI ho rfl rfl rfl hI.s1 q2 rfl hS ⟨_, _, _, rfl, rfl, ⟨_, Nat.le_refl _, rfl, q0⟩⟩
  ·obtain rfl := Option.some.inj ho
   exact st_ins hI ho rfl rfl rfl rfl hS (ha ⟨0, .data⟩ (by simp) rfl) (jv := 5) rfl (ha ⟨5, .data⟩ (by simp) rfl)
  ·obtain rfl := Option.some.inj ho
   exact st_load hI ho rfl rfl rfl hI.s1 q2 rfl hS ⟨_, _, _, rfl, rfl, ⟨_, Nat.le_refl _, rfl, q0⟩⟩
  ·obtain rfl := Option.some.inj ho
   exact st_ins hI ho rfl rfl rfl rfl hS (ha ⟨0, .data⟩ (by simp) rfl) (jv := 7) rfl (ha ⟨7, .data⟩ (by simp) rfl)
  ·obtain rfl := Option.some.inj ho
   exact st_load hI ho rfl rfl rfl hI.s1 q2 rfl hS ⟨_, _, _, rfl, rfl, ⟨_, Nat.le_refl _, rfl, q0⟩⟩
  ·obtain rfl := Option.some.inj ho
   exact st_ins hI ho rfl rfl rfl rfl hS (ha ⟨0, .data⟩ (by simp) rfl) (jv := 9) rfl (ha ⟨9, .data⟩ (by simp) rfl)
  ·obtain rfl := Option.some.inj ho
   exact st_load hI ho rfl rfl rfl hI.s2 q3 rfl hS ⟨_, _, _, rfl, rfl, ⟨_, by omega, rfl, q1⟩⟩
  ·obtain rfl := Option.some.inj ho
   exact st_ins hI ho rfl rfl rfl rfl hS (ha ⟨0, .data⟩ (by simp) rfl) (jv := 11) rfl (ha ⟨11, .data⟩ (by simp) rfl)
  ·obtain rfl := Option.some.inj ho
   exact st_load hI ho rfl rfl rfl hI.s2 q3 rfl hS ⟨_, _, _, rfl, rfl, ⟨_, by omega, rfl, q1⟩⟩
  ·obtain rfl := Option.some.inj ho
   exact st_ins hI ho rfl rfl rfl rfl hS (ha ⟨0, .data⟩ (by simp) rfl) (jv := 13) rfl (ha ⟨13, .data⟩ (by simp) rfl)
  ·obtain rfl := Option.some.inj ho
   exact st_load hI ho rfl rfl rfl hI.s2 q3 rfl hS ⟨_, _, _, rfl, rfl, ⟨_, by omega, rfl, q1⟩⟩
  ·obtain rfl := Option.some.inj ho
   exact st_ins hI ho rfl rfl rfl rfl hS (ha ⟨0, .data⟩ (by simp) rfl) (jv := 15) rfl (ha ⟨15, .data⟩ (by simp) rfl)
  ·obtain rfl := Option.some.inj ho
   exact st_load hI ho rfl rfl rfl hI.s2 q3 rfl hS ⟨_, _, _, rfl, rfl, ⟨_, by omega, rfl, q1⟩⟩
  ·obtain rfl := Option.some.inj ho
   exact st_ins hI ho rfl rfl rfl rfl hS (ha ⟨0, .data⟩ (by simp) rfl) (jv := 17) rfl (ha ⟨17, .data⟩ (by simp) rfl)
  ·obtain rfl := Option.some.inj ho
   exact st_call hI ho rfl rfl rfl rfl hS
  ·obtain rfl := Option.some.inj ho
   obtain ⟨p, hpB, hp, hc⟩ := hI.vals 19 20 _ rfl (ha ⟨19, .data⟩ (by simp) rfl); exact st_build hI ho rfl rfl rfl hp rfl hS ⟨_, _, _, rfl, rfl, ⟨p, hpB, rfl, hc⟩⟩
  ·obtain rfl := Option.some.inj ho
   exact st_ins hI ho rfl rfl rfl rfl hS (ha ⟨0, .data⟩ (by simp) rfl) (jv := 20) rfl (ha ⟨20, .data⟩ (by simp) rfl)
  ·obtain rfl := Option.some.inj ho
   exact st_build hI ho rfl rfl rfl rfl rfl hS ⟨_, _, _, rfl, rfl, rfl⟩
  ·obtain rfl := Option.some.inj ho
   exact st_ins hI ho rfl rfl rfl rfl hS (ha ⟨0, .data⟩ (by simp) rfl) (jv := 22) rfl (ha ⟨22, .data⟩ (by simp) rfl)
  ·obtain rfl := Option.some.inj ho
   exact st_build hI ho rfl rfl rfl rfl rfl hS ⟨_, _, _, rfl, rfl, rfl⟩
  ·obtain rfl := Option.some.inj ho
   exact st_ins hI ho rfl rfl rfl rfl hS (ha ⟨0, .data⟩ (by simp) rfl) (jv := 24) rfl (ha ⟨24, .data⟩ (by simp) rfl)
  ·obtain rfl := Option.some.inj ho
   exact st_build hI ho rfl rfl rfl rfl rfl hS ⟨_, _, _, rfl, rfl, rfl⟩
  ·obtain rfl := Option.some.inj ho
   exact st_ins hI ho rfl rfl rfl rfl hS (ha ⟨0, .data⟩ (by simp) rfl) (jv := 26) rfl (ha ⟨26, .data⟩ (by simp) rfl)
  ·obtain rfl := Option.some.inj ho
   exact st_call hI ho rfl rfl rfl rfl hS
  ·obtain rfl := Option.some.inj ho
   obtain ⟨p, hpB, hp, hc⟩ := hI.vals 28 25 _ rfl (ha ⟨28, .data⟩ (by simp) rfl); exact st_build hI ho rfl rfl rfl hp rfl hS ⟨_, _, _, rfl, rfl, ⟨p, hpB, rfl, hc⟩⟩
  ·obtain rfl := Option.some.inj ho
   exact st_ins hI ho rfl rfl rfl rfl hS (ha ⟨0, .data⟩ (by simp) rfl) (jv := 29) rfl (ha ⟨29, .data⟩ (by simp) rfl)
  ·obtain rfl := Option.some.inj ho
   exact st_call hI ho rfl rfl rfl rfl hS
  ·obtain rfl := Option.some.inj ho
   obtain ⟨p, hpB, hp, hc⟩ := hI.vals 31 27 _ rfl (ha ⟨31, .data⟩ (by simp) rfl); exact st_build hI ho rfl rfl rfl hp rfl hS ⟨_, _, _, rfl, rfl, ⟨p, hpB, rfl, hc⟩⟩
  ·obtain rfl := Option.some.inj ho
   exact st_ins hI ho rfl rfl rfl rfl hS (ha ⟨0, .data⟩ (by simp) rfl) (jv := 32) rfl (ha ⟨32, .data⟩ (by simp) rfl)
  ·obtain rfl := Option.some.inj ho
   exact st_load hI ho rfl rfl rfl hI.s3 q5 rfl hS ⟨_, _, _, rfl, rfl, ⟨_, by omega, rfl, q4⟩⟩
  ·obtain rfl := Option.some.inj ho
   exact st_ins hI ho rfl rfl rfl rfl hS (ha ⟨0, .data⟩ (by simp) rfl) (jv := 34) rfl (ha ⟨34, .data⟩ (by simp) rfl)
  ·obtain rfl := Option.some.inj ho
   exact st_load hI ho rfl rfl rfl hI.s3 q5 rfl hS ⟨_, _, _, rfl, rfl, ⟨_, by omega, rfl, q4⟩⟩
  ·obtain rfl := Option.some.inj ho
   exact st_ins hI ho rfl rfl rfl rfl hS (ha ⟨0, .data⟩ (by simp) rfl) (jv := 36) rfl (ha ⟨36, .data⟩ (by simp) rfl)
  ·obtain rfl := Option.some.inj ho
   exact st_call hI ho rfl rfl rfl rfl hS
  ·obtain rfl := Option.some.inj ho
   obtain ⟨p, hpB, hp, hc⟩ := hI.vals 38 31 _ rfl (ha ⟨38, .data⟩ (by simp) rfl); exact st_build hI ho rfl rfl rfl hp rfl hS ⟨_, _, _, rfl, rfl, ⟨p, hpB, rfl, hc⟩⟩
  ·obtain rfl := Option.some.inj ho
   exact st_ins hI ho rfl rfl rfl rfl hS (ha ⟨0, .data⟩ (by simp) rfl) (jv := 39) rfl (ha ⟨39, .data⟩ (by simp) rfl)
  ·obtain rfl := Option.some.inj ho
   exact st_call hI ho rfl rfl rfl rfl hS
  ·obtain rfl := Option.some.inj ho
   obtain ⟨p, hpB, hp, hc⟩ := hI.vals 41 33 _ rfl (ha ⟨41, .data⟩ (by simp) rfl); exact st_build hI ho rfl rfl rfl hp rfl hS ⟨_, _, _, rfl, rfl, ⟨p, hpB, rfl, hc⟩⟩
  ·obtain rfl := Option.some.inj ho
   exact st_ins hI ho rfl rfl rfl rfl hS (ha ⟨0, .data⟩ (by simp) rfl) (jv := 42) rfl (ha ⟨42, .data⟩ (by simp) rfl)
  ·obtain rfl := Option.some.inj ho
   exact st_move hI ho rfl rfl rfl hS (ha ⟨0, .data⟩ (by simp) rfl)
  ·obtain rfl := Option.some.inj ho
   exact st_res hI ho rfl rfl rfl hS (ha ⟨44, .data⟩ (by simp) rfl)
 ·intro S a W hall hI
  have hi : ∀ i, i < 46 → S i = true := hall
  obtain ⟨b, n, D, g1, g2, g3, g4, g5⟩ := hI.map (hi 0 (by omega))
  have hr : a.eval (.tmp 0) = .map (some b) := by rw [(hI.rs (hi 45 (by omega))).2, (hI.mv (hi 44 (by omega))).2, g1]
  have hdf := hI.defs
  have hB : Below w.heap.size w W := qb.trans (Below.mono hI.below qb.size)
  have hfin : ∀ k : Int, (Lit.int .i64 k).wf = true → ((∃ v, (∀ zd, D.atKey (.int .i64 k) zd = .held v) ∧ Good w.heap.size W k v) ∨ (gk k = none ∧ ∀ zd, D.atKey (.int .i64 k) zd = zd)) := fun k hw => by
   rcases g5 k hw with ⟨v, x1, x2, _⟩ | ⟨x1, x2⟩
   ·exact .inl ⟨v, x1, x2⟩
   ·refine .inr ⟨Classical.byContradiction fun hne => ?_, x1⟩
    obtain ⟨j, hj⟩ := gk_ins hne
    have h1 := x2 j hj
    rw [hi j (by have := ins_idx (BB := 0) hj; omega)] at h1
    cases h1
  rename_i hK
  refine hK a W ?_
  refine wp_ret ?_
  show bodyPost Tryz.prog Tryz.f154 _ .ret a W
  refine bodyPost_ret (results_tmp (show Tryz.f154.results = #[.tmp 0] from rfl) _ _ _) hdf ?_
  exact ⟨b, n, D, congrArg Ending.returned hr, Nat.le_trans qb.size g2, hB, g3, hfin⟩
 ·refine ⟨qb.size, rfl, rfl, KeepC.below (below_drew (Below.refl _ _)), below_drew (Below.refl _ _), rfl, rfl, rfl, fun _ _ _ _ h => (Bool.noConfusion h), fun _ _ _ h => (Bool.noConfusion h), fun h => (Bool.noConfusion h), fun h => (Bool.noConfusion h), fun h => (Bool.noConfusion h)⟩
end Go.Proofs.YtipefepnkpoiaaaGreat.E
namespace Go.Proofs.Dk
open Go Go.RowKit
abbrev BD := Go.Proofs.YtipefepnkpoiaaaGreat.E.GK
abbrev rh := Go.Proofs.YtipefepnkpoiaaaGreat.E.gk
def Dv : BD → DV
 | .al s => .fn (.func 176) [] [.pi [.sc (.string s)]]
 | .dup => .fn (.func 171) [] []
 | .swp => .fn (.func 172) [] []
 | .two => .fn (.func 173) [] []
def gp (p : ByteArray × BD) : DV := .agg [.sc (.string p.1), Dv p.2]
def oR : List (List Int) := [[1, 11, 13, 15, 17], [12, 14, 16, 18], [2], [3], [4], [5], [6], [7], [8, 9], [10], [20]]
def oS : List DV := [gp (⟨#[]⟩, .al ⟨#[105]⟩), gp (⟨#[105]⟩, .al ⟨#[]⟩), gp (⟨#[32]⟩, .al ⟨#[]⟩), gp (⟨#[32]⟩, .dup), gp (⟨#[32, 32]⟩, .swp), gp (⟨#[105, 105]⟩, .two), gp (⟨#[105]⟩, .al ⟨#[105]⟩), gp (⟨#[98]⟩, .al ⟨#[98]⟩), gp (⟨#[98, 98]⟩, .al ⟨#[98]⟩), gp (⟨#[98]⟩, .al ⟨#[105]⟩), gp (⟨#[98]⟩, .al ⟨#[]⟩)]
theorem ms (n : Int) : cX oR oS n = (rh n).map gp := by
 unfold rh Go.Proofs.YtipefepnkpoiaaaGreat.E.gk
 simp only [oR, oS, cX, List.any_cons, List.any_nil, bx, aY, am, apply_ite (Option.map gp), aX, Option.map_none]
theorem xW {n : Int} (h : rh n ≠ none) : (Lit.int .i64 n).wf = true := by
 obtain ⟨j, hj⟩ := Go.Proofs.YtipefepnkpoiaaaGreat.E.gk_ins h
 exact (Go.Proofs.YtipefepnkpoiaaaGreat.E.ins_idx (BB := 0) hj).2.2.2.2
theorem Ba {w : World} {B b n : Nat} {D : DataW Value} (h : w.ownsMap Tryz.prog 3 Go.Proofs.YtipefepnkpoiaaaGreat.E.RV b n D) (hk : ∀ k : Int, (Lit.int .i64 k).wf = true → ((∃ v, (∀ zd, D.atKey (.int .i64 k) zd = .held v) ∧ Go.Proofs.YtipefepnkpoiaaaGreat.E.Good B w k v) ∨ (rh k = none ∧ ∀ zd, D.atKey (.int .i64 k) zd = zd))) :
  ∃ es clock val, w.heap[b]? = some (.map es clock) ∧ TabE oR oS val es.toList ∧ ∀ n d, cX oR oS n = some d → Go.Proofs.YtipefepnkpoiaaaGreat.E.Good B w n (val n) := by
 obtain ⟨es, clock, hb, F, _, rfl⟩ := h
 have hu := Tryz.underlying3
 have key : ∀ e ∈ es.toList, ∃ n, e.key = .int .i64 n ∧ (Lit.int .i64 n).wf = true := by
  intro e he
  obtain ⟨y, hy⟩ := F.reads e he
  have h1 := WideElems.rd_key hy
  revert h1
  generalize e.key = q
  intro h1
  cases q <;> simp [keyOf, hu, mapKey] at h1
  obtain ⟨⟨rfl, h2⟩, _⟩ := h1
  exact ⟨_, rfl, h2⟩
 have one : ∀ e ∈ es.toList, ∀ e' ∈ es.toList, e.key = e'.key → e = e' := by
  have hs := ((MapKept.stamped_iff es clock).1 F.stamped).2.2
  intro e he e' he' hee
  obtain ⟨i, hi, rfl⟩ := List.getElem_of_mem he
  obtain ⟨j, hj, rfl⟩ := List.getElem_of_mem he'
  rw [List.pairwise_iff_getElem] at hs
  rcases Nat.lt_trichotomy i j with h | h | h
  ·exact absurd hee (hs i j hi hj h)
  ·subst h; rfl
  ·exact absurd hee.symm (hs j i hj hi h)
 have at_ : ∀ n, (Lit.int .i64 n).wf = true → ((∃ e ∈ es.toList, e.key = .int .i64 n ∧ Go.Proofs.YtipefepnkpoiaaaGreat.E.Good B w n e.val) ∨ (rh n = none ∧ ∀ e ∈ es.toList, e.key ≠ .int .i64 n)) := by
  intro n hn
  have hkey : keyOf Tryz.prog 3 (.int .i64 n) = some (.int .i64 n) := Maps.keyOf_int_mk hu hn
  have hz0 : (jl Tryz.prog 196).isSome = true := by kernel_rfl
  obtain ⟨its, hits⟩ := Option.isSome_iff_exists.1 hz0
  obtain ⟨it, z, hit, hz1, _⟩ := lU (I := ⟨fun _ => none, ⟨fun _ => False, fun _ => []⟩⟩) (w := w) hits
  have hz : (zeroValue 196).run Tryz.prog w = .ok z w := by simp [zeroValue, typeInfo, Sem.run_bind, hit, hz1]
  rcases Maps.fit_look false (Maps.int_keyed hu) Tryz.underlying197 hz hb F hkey with ⟨_, h2, h3⟩ | ⟨e0, y, h1, h2, _, h4, h5, _⟩
  ·rcases hk n hn with ⟨v, g1, g2⟩ | ⟨g1, g2⟩
   ·have := (h3 (.lit (.bool true))).symm.trans (g1 _)
    cases this
   ·exact .inr ⟨g1, h2⟩
  ·rcases hk n hn with ⟨v, g1, g2⟩ | ⟨g1, g2⟩
   ·refine .inl ⟨e0, h1, h2, ?_⟩
    have h6 := (h5 (.lit (.bool true))).symm.trans (g1 _)
    simp only [Go.Proofs.YtipefepnkpoiaaaGreat.E.RV, aa] at h4
    rw [← h4] at h6
    simp only [DataW.held.injEq] at h6
    rw [h6]
    exact g2
   ·have h6 := (h5 (.lit (.bool true))).symm.trans (g2 _)
    simp only [Go.Proofs.YtipefepnkpoiaaaGreat.E.RV, aa] at h4
    rw [← h4] at h6
    cases h6
 have hex : ∀ n : Int, ∃ v : Value, ∀ e ∈ es.toList, e.key = .int .i64 n → v = e.val := by
  intro n
  by_cases h : ∃ e ∈ es.toList, e.key = .int .i64 n
  ·obtain ⟨e, he, hen⟩ := h
   exact ⟨e.val, fun e' he' hen' => by rw [one e he e' he' (hen.trans hen'.symm)]⟩
  ·exact ⟨default, fun e he hen => absurd ⟨e, he, hen⟩ h⟩
 obtain ⟨val, hval⟩ := Classical.axiomOfChoice hex
 refine ⟨es, clock, val, hb, ⟨fun e he => ?_, fun e he n hn => ⟨hval n e he hn, ?_⟩, fun n hn => ?_⟩, fun n d hd => ?_⟩
 ·obtain ⟨n, hn, _⟩ := key e he
  exact ⟨n, hn⟩
 ·obtain ⟨n', hn', hw⟩ := key e he
  rw [hn] at hn'
  cases hn'
  rcases at_ n hw with ⟨e', _, _, t, g, f, hg, _⟩ | ⟨_, h2⟩
  ·rw [ms, show rh n = _ from hg]; rfl
  ·exact absurd hn (h2 e he)
 ·have hne : rh n ≠ none := by
   rw [ms] at hn
   intro h0
   rw [h0] at hn
   cases hn
  rcases at_ n (xW hne) with ⟨e, h1, h2, _⟩ | ⟨h1, _⟩
  ·exact ⟨e, h1, h2⟩
  ·exact absurd h1 hne
 ·have hne : rh n ≠ none := by
   rw [ms] at hd
   intro h0
   rw [h0] at hd
   cases hd
  rcases at_ n (xW hne) with ⟨e, h1, h2, h3⟩ | ⟨h1, _⟩
  ·rw [hval n e h1 h2]; exact h3
  ·exact absurd h1 hne
def wK : FS := ⟨⟨[], []⟩, ⟨[.tab oR oS], []⟩, Unit, fun _ => ((), ()), fun _ => (), fun _ => some ()⟩
theorem BE {I : In} {w : World} {B : Nat} {p : ByteArray × BD} {v f : Value} (hv : v = .agg #[.string p.1, f]) (hg : Go.Proofs.YtipefepnkpoiaaaGreat.E.gfn B w f p.2) (hI : ∀ q, B ≤ q → q < w.heap.size → I.R q) : VR I w (gp p) v := by
 obtain ⟨t, g⟩ := p
 subst hv
 refine .agg _ _ (.one _ _ _ _ (.sc _ rfl) rfl ?_)
 have fin : ∀ {d : DV}, VR I w d f → f.oneCell' = true → CR I w [d] [f] := fun hd ho => .one _ _ _ _ hd ho .nil
 cases g with
 | al s =>
  obtain ⟨q, hqB, rfl, hq⟩ := hg
  refine fin (.fn _ _ _ _ _ .nil (.cons _ _ _ _ (.pi _ ⟨q, 0, none⟩ [.string s] rfl (hI q hqB (Array.getElem?_eq_some_iff.1 hq).1) (fun d hd => ?_) (.one _ _ _ _ (.sc _ rfl) rfl .nil) (fun j u hu => ?_)) .nil)) rfl
  ·simp only [aM] at hd
   subst hd
   rfl
  ·cases j with
   | zero =>
    simp only [aQ, aa] at hu
    subst hu
    exact (Go.Proofs.YtipefepnkpoiaaaGreat.E.blk_cell hq 0).trans rfl
   | succ j => simp at hu
 | dup => subst hg; exact fin (.fn _ _ _ _ _ .nil .nil) rfl
 | swp => subst hg; exact fin (.fn _ _ _ _ _ .nil .nil) rfl
 | two => subst hg; exact fin (.fn _ _ _ _ _ .nil .nil) rfl
theorem wL : ez Tryz.prog 154 wK := by
 intro α I w H A args ρ k r x m hH hA hx hρ h
 obtain ⟨rfl, rfl⟩ : A = [] ∧ m = ⟨[], []⟩ := by
  unfold Tmpl.pr at hx
  split at hx
  ·rename_i y m1 hy
   have hl := fv hy
   obtain rfl : A = [] := bj hl
   refine ⟨rfl, ?_⟩
   simp only [wK, cV, aa] at hy
   obtain rfl : m1 = ⟨[], []⟩ := (congrArg Prod.snd hy).symm
   exact (ae (congrArg (Option.map Prod.snd) hx)).symm
  ·cases hx
 cases hA
 refine Calls.mono (Go.Proofs.YtipefepnkpoiaaaGreat.E.effects_calls w) ?_
 rintro e w' ⟨b0, n, D, rfl, hnew, hB, hO, hk⟩
 obtain ⟨es, clock, val, hb, hE, hv⟩ := Ba hO hk
 have hbw : b0 < w'.heap.size := (Array.getElem?_eq_some_iff.1 hb).1
 have hw : ∀ b, b < w.heap.size → w'.heap[b]? = w.heap[b]? := hB.block
 refine ⟨⟨I.ι, ⟨fun b => I.R b ∨ (w.heap.size ≤ b ∧ b < w'.heap.size), I.R.fam⟩⟩, _, _, _, h, ⟨fun n b h => h, fun b h => .inl h, fun b h _ => hw b h, fun n e b h1 h2 => .inl ⟨n, e, h1, h2⟩, fun b h => ?_, hB.size, hB.os, hB.tape, hB.output, fun _ _ _ h => h, fun _ h => ⟨rfl, h⟩⟩, (hH.grow (I' := ⟨I.ι, ⟨fun b => I.R b ∨ (w.heap.size ≤ b ∧ b < w'.heap.size), I.R.fam⟩⟩) rfl rfl (fun b => Iff.rfl) hw hB.size).1, ?_, fun l hl n sz v _ h => h⟩
 ·rcases h with h | h
  ·exact .inl h
  ·exact .inr (.inr h.1)
 ·refine .tab oR oS val b0 es clock ?_ hb hE fun n d hd => ?_
  ·exact .inr ⟨hnew, hbw⟩
  ·obtain ⟨t, g, f, h1, h2, h3⟩ := hv n d hd
   rw [ms, show rh n = _ from h1] at hd
   simp only [aX, aa] at hd
   subst hd
   exact BE (f := f) h2 h3 fun q h4 h5 => .inr ⟨h4, h5⟩
end Go.Proofs.Dk
namespace Go.Proofs.Dk
open Go Go.IntKind
set_option maxRecDepth 100000
variable (n : Nat)
section
variable {a b c d a0 a1 a2 a3 a4 a5 a6 a7 a8 a9 b0 b1 b2 b3 b4 : Type}
abbrev u_ (x : a) : a × Unit := (x, ())
abbrev v_ (x : a × b) : a × Unit := (x.1, ())
abbrev k_ (x : a × Unit) : a := x.1
abbrev j_ (x : a × Unit) (y : d) : a × d := (x.1, y)
abbrev q_ (f : a → b → c) (x : a × b) : c := f x.1 x.2
abbrev U_ (f : b → c) (x : a × b) : a × c := (x.1, f x.2)
abbrev J_ (f : b → d → c) (x : a × b) (y : d) : a × c := (x.1, f x.2 y)
abbrev C_ (q : d → b → c) (f : a → d) (x : a × b) : c := q (f x.1) x.2
abbrev cS (f : b → c) (x : a × a0 × b) : a × a0 × c := U_ (U_ f) x
abbrev er (f : b → d → c) (x : a × a0 × b) (y : d) : a × a0 × c := J_ (J_ f) x y
abbrev dK (q : d → b → c) (f : a → a0 → d) (x : a × a0 × b) : c := C_ (C_ q) f x
abbrev dp (f : b → c) (x : a × a0 × a1 × a2 × b) : a × a0 × a1 × a2 × c := cS (cS f) x
abbrev jR (f : b → d → c) (x : a × a0 × a1 × a2 × b) (y : d) : a × a0 × a1 × a2 × c := er (er f) x y
abbrev dW (q : d → b → c) (f : a → a0 → a1 → a2 → d) (x : a × a0 × a1 × a2 × b) : c := dK (dK q) f x
abbrev cR (f : b → c) (x : a × a0 × a1 × a2 × a3 × a4 × a5 × a6 × b) : a × a0 × a1 × a2 × a3 × a4 × a5 × a6 × c := dp (dp f) x
abbrev sJ (f : b → d → c) (x : a × a0 × a1 × a2 × a3 × a4 × a5 × a6 × b) (y : d) : a × a0 × a1 × a2 × a3 × a4 × a5 × a6 × c := jR (jR f) x y
abbrev d8 (q : d → b → c) (f : a → a0 → a1 → a2 → a3 → a4 → a5 → a6 → d) (x : a × a0 × a1 × a2 × a3 × a4 × a5 × a6 × b) : c := dW (dW q) f x
abbrev EJ (f : b → c) (x : a × a0 × a1 × a2 × a3 × a4 × a5 × a6 × a7 × a8 × a9 × b0 × b1 × b2 × b3 × b4 × b) : a × a0 × a1 × a2 × a3 × a4 × a5 × a6 × a7 × a8 × a9 × b0 × b1 × b2 × b3 × b4 × c := cR (cR f) x
abbrev EL (f : b → d → c) (x : a × a0 × a1 × a2 × a3 × a4 × a5 × a6 × a7 × a8 × a9 × b0 × b1 × b2 × b3 × b4 × b) (y : d) : a × a0 × a1 × a2 × a3 × a4 × a5 × a6 × a7 × a8 × a9 × b0 × b1 × b2 × b3 × b4 × c := sJ (sJ f) x y
abbrev zi (q : d → b → c) (f : a → a0 → a1 → a2 → a3 → a4 → a5 → a6 → a7 → a8 → a9 → b0 → b1 → b2 → b3 → b4 → d) (x : a × a0 × a1 × a2 × a3 × a4 × a5 × a6 × a7 × a8 × a9 × b0 × b1 × b2 × b3 × b4 × b) : c := d8 (d8 q) f x
end
abbrev cq : Sh := (.int .i64)
abbrev fw : Sh := (.pair cq cq)
abbrev eB : Sh := (.pair cq fw)
abbrev dm : Sh := (.sl eB)
abbrev cJ : Sh := (.sl cq)
abbrev nX : Sh := (.arr 8 cq)
abbrev pl : Sh := (.arr 16 cq)
abbrev db : List EK := [.val dm, .val cJ, .val nX, .val .bool, .val cq, .row 3 cq, .val nX, .val pl, .val pl, .val cq, .row 3 cq, .val cq, .val cq, .val cq]
abbrev uo : Sh := (.pair cq (.pair cq (.pair cq (.pair cq (.pair cJ (.pair cJ dm))))))
abbrev dA : Sh := (.sl cJ)
abbrev dr : Sh := (.sl uo)
abbrev sK : Sh := (.pair cq (.pair cq (.pair cq (.pair cq (.pair cJ (.pair dA dr))))))
abbrev dj : Sh := (.arr 8 nX)
abbrev gN : List IK := [.val dm, .val cJ, .val nX, .val .bool, .val cq, .row 3 cq, .val nX, .val pl, .val pl, .val cq, .row 3 cq, .val cq, .val cq, .val cq]
abbrev sL : List IK := [.val cq, .val cq, .val cq, .val cq, .val cJ, .val cJ, .val dm, .val cq, .val cq, .val cq, .val cq, .val cJ, .val dA, .val dr]
abbrev mH : List IK := [.val cq, .val cq, .val cq, .val cq, .val cJ, .val dA, .val dr]
abbrev gO : List IK := [.val cq, .val cq, .val cq]
abbrev pn : List IK := [.row 9 .str, .row 4 .bool, .row 4 .bool]
abbrev jS : List IK := [.val cq, .val cq]
abbrev wa : List IK := [.val dm, .val cJ, .clo 48 []]
abbrev wb : List IK := [.val (.arr 16 .bool)]
abbrev da : Type := (Int × Int)
abbrev fg : Type := (Int × da)
abbrev cw : Type := (List fg)
abbrev cB : Type := (cw × (List Int) × (List Int) × Bool × Int × (List Int) × (List Int) × (List Int) × (List Int) × Int × (List Int) × Int × Int × Int × Unit)
abbrev pS : Type := (Int × (Int × (Int × (Int × ((List Int) × ((List Int) × cw))))))
abbrev cr : Type := (List pS)
abbrev kZ : Type := (Int × Int × Int × Int × (List Int) × (List (List Int)) × cr × Unit)
abbrev po : Type := (Int × Int × Int × Int × (List Int) × (List Int) × cw × Int × Int × Int × Int × (List Int) × (List (List Int)) × cr × Unit)
abbrev eu : Type := (((cw × (List Int)) × Int × Int × Unit) × Unit)
abbrev mI : Type := ((List ByteArray) × (List Bool) × (List Bool) × Unit)
abbrev eC : Type := (Bool × Unit)
abbrev iW : Type := (Unit × Unit)
abbrev eX : Type := ((eC × Unit) ⊕ iW)
abbrev wc : Type := ((List da) × cw × (List Int) × (List Int) × Bool × Int × (List Int) × (List Int) × (List Int) × (List Int) × Int × (List Int) × Int × Int × Int)
abbrev jT : Type := (kZ × ((List Bool) × Unit) × Unit)
abbrev dy : Type := ((List cB) × Unit)
abbrev mt : Type := (Int × Int × Int × Unit)
abbrev mu : Type := (List (Int × fg))
abbrev nY : Type := (Int × (Int × (Int × (Int × ((List Int) × ((List (List Int)) × cr))))))
abbrev wM : Type := (Int × cw × (List Int) × (List Int) × Bool × Int × (List Int) × (List Int) × (List Int) × (List Int) × Int × (List Int) × Int × Int × Int)
abbrev kL : Type := (mt × Unit)
abbrev rO : Type := (((List Int) × (List Int) × mu × Int × cw × Int × Int × Unit) × kL)
abbrev fh : Type := (Int × Unit)
abbrev nZ : Type := ((fh × (po × Unit)) ⊕ (Unit × (po × Unit)))
abbrev jU : Type := ((List Int) × Unit)
abbrev rP : Type := ((cw × (List Int) × Unit) × fh × jU × Unit)
abbrev zj : Type := ((List da) × (List Int) × Int × cw × (List Int) × (List Int) × Bool × Int × (List Int) × (List Int) × (List Int) × (List Int) × Int × (List Int) × Int × Int × Int)
abbrev zk : Type := (Bool × cw × Int × Int × Int × Int × Int × Int × (List Int) × (List Int) × cw × Int × Int × Int × Int × (List Int) × (List (List Int)) × cr × Int × Int × Int)
abbrev zl : Type := (((List Int) × (List Int) × Int × Unit) × Unit)
abbrev wN : Type := (zl ⊕ (((List Int) × (List Int) × mu × Unit) × Unit))
abbrev zm : Type := ((List Int) × Int × Int × Int × Int × Int × Int × (List Int) × (List Int) × cw × Int × Int × Int × Int × (List Int) × (List (List Int)) × cr)
abbrev n4 : Type := (Int × cw × (List Int) × Int × (List Int))
abbrev zn : Type := (cw × Int × Int × Int × Int × Int × Int × (List Int) × (List Int) × cw × Int × Int × Int × Int × (List Int) × (List (List Int)) × cr)
abbrev zo : Type := (cr × Int × Int × (List Int) × Int × Int × Int × Int × Int × Int × (List Int) × (List (List Int)) × cr × (List Bool))
abbrev rQ : Type := (Int × Int × cw × (List Int) × Int × (List Int))
abbrev wO : Type := ((List Int) × (List Int) × mu × Int × cw × Int × Int × Int × Int × Int)
abbrev wP : Type := ((((List ByteArray) × Int × Unit) × (mI × Unit)) ⊕ (Unit × (mI × Unit)))
abbrev kM : Type := ((ByteArray × Unit) × Unit)
abbrev wQ : Type := (((List Int) × Int × Int × cw × Int × Int × Unit) × kL)
abbrev fQ : Type := ((List Int) × Int)
abbrev wR : Type := (((List Int) × Int × Unit) × Unit)
abbrev wS : Type := (wR ⊕ (jU × Unit))
abbrev zp : Type := (cr × Int × Int × Int × Int × Int × Int × (List Int) × (List (List Int)) × cr × (List Bool))
abbrev rR : Type := ((cw × (List Int) × Int × Unit) × Unit)
abbrev zt : Type := ((List (List Int)) × Int × Int × Int × Int × Int × Int × (List Int) × (List (List Int)) × cr)
abbrev uq : Type := ((Int × ByteArray × Unit) × (mI × mt × Unit))
abbrev wT : Type := (((Int × Int × Unit) × (kZ × Unit)) ⊕ (Unit × (kZ × Unit)))
abbrev wU : Type := ((List Int) × (List Int) × mu × cw × Int × Int × Unit)
abbrev zu : Type := (Int × ByteArray × (List ByteArray) × (List Bool) × (List Bool) × Int × Int × Int)
abbrev rS : Type := ((cr × Int × Int × Unit) × jT)
abbrev zv : Type := ((List Int) × cw × Int × Int × (List ByteArray) × (List Bool) × (List Bool))
abbrev BF : Type := ((List Int) × cw × (List Int) × (List Int) × Bool × Int × (List Int) × (List Int) × (List Int) × (List Int) × Int × (List Int) × Int × Int × Int)
abbrev zw : Type := (Int × Int × Int × Int × Int × Int × (List Int) × (List (List Int)) × cr)
abbrev BG : Type := (Bool × cw × (List Int) × (List Int) × Bool × Int × (List Int) × (List Int) × (List Int) × (List Int) × Int × (List Int) × Int × Int × Int)
abbrev wV : Type := ((eC × (kZ × Unit)) ⊕ (Unit × (kZ × Unit)))
abbrev rT : Type := ((List da) × (List da) × Int)
abbrev zx : Type := (cw × (List Int) × (List Int) × (List Int) × Bool × cw × Int × Int)
abbrev wW : Type := ((List Int) × Int × cw × Int × Int × Unit)
abbrev zy : Type := (Int × ByteArray × (List ByteArray) × (List Bool) × (List Bool))
abbrev wX : Type := ((eC × Unit) ⊕ ((cw × Unit) × Unit))
abbrev ur : Type := ((List Int) × (List Int) × Int)
abbrev zA : Type := (Int × Int × Int × cw × (List Int) × Int × (List Int))
abbrev iX : Type := (dy × Unit)
abbrev zB : Type := ((List Int) × (List Int) × mu × cw × Int × Int)
abbrev BH : Type := (cw × (List Int) × (List Int) × (List Int) × Bool × Bool × cw × Int × Int × Int × Int × Int)
abbrev iY : Type := (cB × Unit)
abbrev wY : Type := ((eC × jT) ⊕ (Unit × jT))
abbrev kN : Type := (fh × Unit)
abbrev zC : Type := (cw × (List Int) × Int × cw × Int × Int)
abbrev zD : Type := (cw × (List Int) × (List Int) × Int × Int)
theorem De : iy Tryz.prog 46 (1, [[25], [24], [23], [22], [21], [20], [19], [18], [17], [16], [15], [14], [13], [12], [11], [10], [9], [8], [7], [6], [5], [4], [3], [2], [1]], [91, 90, 89, 88, 87, 86, 85, 84, 83, 82, 81, 80, 79, 78, 77, 76, 75, 74, 73, 72, 71, 70, 69, 68, 67]) := fun hH hA hl hp => Bv (wE Tryz.prog) 14 (fun p => by kernel_rfl) hH hA hl hp
theorem BI : iy Tryz.prog 147 (0, [[12], [11], [10], [9], [8], [7], [6], [3], [2], [1]], [166, 165, 164, 163, 162, 161, 160, 159, 158, 157]) := fun hH hA hl hp => Bw (wE Tryz.prog) 14 (by kernel_rfl) hH hA hl hp
def c0 (n : Nat) : Cx := (((Dt Tryz.prog).addSpec 154 wK).addTab 46 (1, [[25], [24], [23], [22], [21], [20], [19], [18], [17], [16], [15], [14], [13], [12], [11], [10], [9], [8], [7], [6], [5], [4], [3], [2], [1]], [91, 90, 89, 88, 87, 86, 85, 84, 83, 82, 81, 80, 79, 78, 77, 76, 75, 74, 73, 72, 71, 70, 69, 68, 67])).addTab 147 (0, [[12], [11], [10], [9], [8], [7], [6], [3], [2], [1]], [166, 165, 164, 163, 162, 161, 160, 159, 158, 157])
theorem g0 : Good (c0 n) := (((wE _).addSpec wL).addTab (fun hH hA hl hp => De hH hA hl hp)).addTab (fun hH hA hl hp => BI hH hA hl hp)
def iJ (n : Nat) (v1 : (List Int)) (v2 : cw) (v3 v4 : (List Int)) (v5 : Bool) (v6 : Int) (v7 v8 v9 v10 : (List Int)) (v11 : Int) (v12 : (List Int)) (v13 v14 v15 : Int) : Option wM := if (!(decide ((v2.length : Int) > 0))) then (some (15, v2, v3, v4, v5, v6, v7, v8, v9, v10, v11, v12, v13, v14, v15)) else (if v5 then (some (16, v2, v3, v4, v5, v6, v7, v8, v9, v10, v11, v12, v13, v14, v15)) else (some (0, v2, v3, v4, true, 0, [], [0, 0, 0, 0, 0, 0, 0, 0], v1, [0, 0, 0, 0, 0, 0, 0, 0, 0, 0, 0, 0, 0, 0, 0, 0], 0, [], 0, 0, 0)))
def gP : FS := ⟨⟨[.obj 0, .val pl], [gN]⟩, ⟨[.val cq], [gN]⟩, wM, fun y => ((y.1, ()), (cR (dp (U_ u_))) y.2, ()), fun (o : (fh × iY)) => (o.1.1, ((cR (dp (U_ k_))) o.2.1)), fun (x : (jU × iY)) => iJ n x.1.1 x.2.1.1 x.2.1.2.1 x.2.1.2.2.1 x.2.1.2.2.2.1 x.2.1.2.2.2.2.1 x.2.1.2.2.2.2.2.1 x.2.1.2.2.2.2.2.2.1 x.2.1.2.2.2.2.2.2.2.1 x.2.1.2.2.2.2.2.2.2.2.1 x.2.1.2.2.2.2.2.2.2.2.2.1 x.2.1.2.2.2.2.2.2.2.2.2.2.1 x.2.1.2.2.2.2.2.2.2.2.2.2.2.1 x.2.1.2.2.2.2.2.2.2.2.2.2.2.2.1 x.2.1.2.2.2.2.2.2.2.2.2.2.2.2.2.1⟩
theorem n5 : cG (c0 n) 14 26 0 (gP n) := fun x => by kernel_rfl
def c1 : Cx := (Cx.bare (c0 n)).addSpec 26 (gP n)
theorem g1 : Good (c1 n) := Good.fn (g0 n) 14 0 (n5 n) (fun _ => rfl) rfl
def eK (v1 : Nat) (v2 : (List Int)) (v3 : (List cB)) : Option (Int × (List cB)) := fF v3 v1 fun m4 => ((iJ n v2 m4.1 m4.2.1 m4.2.2.1 m4.2.2.2.1 m4.2.2.2.2.1 m4.2.2.2.2.2.1 m4.2.2.2.2.2.2.1 m4.2.2.2.2.2.2.2.1 m4.2.2.2.2.2.2.2.2.1 m4.2.2.2.2.2.2.2.2.2.1 m4.2.2.2.2.2.2.2.2.2.2.1 m4.2.2.2.2.2.2.2.2.2.2.2.1 m4.2.2.2.2.2.2.2.2.2.2.2.2.1 m4.2.2.2.2.2.2.2.2.2.2.2.2.2.1).bind fun y5 => (some (y5.1, (v3.set (v1 - 1) (y5.2.1, y5.2.2.1, y5.2.2.2.1, y5.2.2.2.2.1, y5.2.2.2.2.2.1, y5.2.2.2.2.2.2.1, y5.2.2.2.2.2.2.2.1, y5.2.2.2.2.2.2.2.2.1, y5.2.2.2.2.2.2.2.2.2.1, y5.2.2.2.2.2.2.2.2.2.2.1, y5.2.2.2.2.2.2.2.2.2.2.2.1, y5.2.2.2.2.2.2.2.2.2.2.2.2.1, y5.2.2.2.2.2.2.2.2.2.2.2.2.2.1, y5.2.2.2.2.2.2.2.2.2.2.2.2.2.2, ())))))
def f4 : FS := ⟨⟨[.val (.fp 120), .val pl], [[.fam 120 db]]⟩, ⟨[.val cq], [[.fam 120 db]]⟩, (Int × (List cB)), fun y => ((y.1, ()), (y.2, ()), ()), fun (o : (fh × iX)) => (o.1.1, o.2.1.1), fun (x : ((Nat × (List Int) × Unit) × iX)) => eK n x.1.1 x.1.2.1 x.2.1.1⟩
theorem mw : iz (c1 n) 14 26 0 (f4 n) true 0 120 db false := fun x => by kernel_rfl
def c2 : Cx := (Cx.bare (c1 n)).addSpec 26 (f4 n)
theorem g2 : Good (c2 n) := fe (g1 n) 14 0 true 0 120 db false (mw n) (fun _ => rfl) rfl (by decide) rfl
def cH (n : Nat) (v1 : cw) (v2 v3 : (List Int)) (v4 : Bool) (v5 : Int) (v6 v7 v8 v9 : (List Int)) (v10 : Int) (v11 : (List Int)) (v12 v13 v14 : Int) : Option wM := if (decide (0 ≤ (wrap .i64 ((v6.length : Int) - 1))) && decide ((wrap .i64 ((v6.length : Int) - 1)) < (v6.length : Int))) then (if (decide (0 ≤ (wrap .i64 ((v6.length : Int) - 1))) && decide ((wrap .i64 ((v6.length : Int) - 1)) ≤ (v6.length : Int))) then (some ((v6.getD ((wrap .i64 ((v6.length : Int) - 1))).toNat 0), v1, v2, v3, v4, v5, (v6.take (((wrap .i64 ((v6.length : Int) - 1))).toNat - 0)), v7, v8, v9, v10, v11, v12, v13, v14)) else none) else none
def i9 : FS := ⟨⟨[.obj 0], [gN]⟩, ⟨[.val cq], [gN]⟩, wM, fun y => ((y.1, ()), (cR (dp (U_ u_))) y.2, ()), fun (o : (fh × iY)) => (o.1.1, ((cR (dp (U_ k_))) o.2.1)), fun (x : (Unit × iY)) => cH n x.2.1.1 x.2.1.2.1 x.2.1.2.2.1 x.2.1.2.2.2.1 x.2.1.2.2.2.2.1 x.2.1.2.2.2.2.2.1 x.2.1.2.2.2.2.2.2.1 x.2.1.2.2.2.2.2.2.2.1 x.2.1.2.2.2.2.2.2.2.2.1 x.2.1.2.2.2.2.2.2.2.2.2.1 x.2.1.2.2.2.2.2.2.2.2.2.2.1 x.2.1.2.2.2.2.2.2.2.2.2.2.2.1 x.2.1.2.2.2.2.2.2.2.2.2.2.2.2.1 x.2.1.2.2.2.2.2.2.2.2.2.2.2.2.2.1⟩
theorem pT : cG (c2 n) 14 122 0 (i9 n) := fun x => by kernel_rfl
def c3 : Cx := (Cx.bare (c2 n)).addSpec 122 (i9 n)
theorem g3 : Good (c3 n) := Good.fn (g2 n) 14 0 (pT n) (fun _ => rfl) rfl
def gq (n : Nat) (a0 : Bool) : Option Int := if a0 then (some 1) else (some 0)
def pp : FS := ⟨⟨[.val .bool], []⟩, ⟨[.val cq], []⟩, Int, fun y => ((y, ()), ()), fun o => o.1.1, fun x => gq n x.1.1⟩
theorem wZ : cG (c3 n) 14 124 0 (pp n) := fun x => by kernel_rfl
def c4 : Cx := (Cx.bare (c3 n)).addSpec 124 (pp n)
theorem g4 : Good (c4 n) := Good.fn (g3 n) 14 0 (wZ n) (fun _ => rfl) rfl
def sM (a0 : Int) : Option Int := (gq n (a0 == 0)).bind fun y1 => (some y1)
def ri : FS := ⟨⟨[.val cq], []⟩, ⟨[.val cq], []⟩, Int, fun y => ((y, ()), ()), fun o => o.1.1, fun x => sM n x.1.1⟩
theorem xX : cG (c4 n) 14 126 0 (ri n) := fun x => by kernel_rfl
def c5 : Cx := (Cx.bare (c4 n)).addSpec 126 (ri n)
theorem g5 : Good (c5 n) := Good.fn (g4 n) 14 0 (xX n) (fun _ => rfl) rfl
def sN (n : Nat) (a0 : Int) : Option Int := some (wrap .i64 (0 - a0))
def rj : FS := ⟨⟨[.val cq], []⟩, ⟨[.val cq], []⟩, Int, fun y => ((y, ()), ()), fun o => o.1.1, fun x => sN n x.1.1⟩
theorem xY : cG (c5 n) 14 125 0 (rj n) := fun x => by kernel_rfl
def c6 : Cx := (Cx.bare (c5 n)).addSpec 125 (rj n)
theorem g6 : Good (c6 n) := Good.fn (g5 n) 14 0 (xY n) (fun _ => rfl) rfl
def k0 (a0 : Int) (a1 : Int) : Option Int := (gq n (a0 == a1)).bind fun y1 => (some y1)
def kn : FS := ⟨⟨jS, []⟩, ⟨[.val cq], []⟩, Int, fun y => ((y, ()), ()), fun o => o.1.1, fun x => k0 n x.1.1 x.1.2.1⟩
theorem rU : cG (c6 n) 14 166 0 (kn n) := fun x => by kernel_rfl
def c7 : Cx := (Cx.bare (c6 n)).addSpec 166 (kn n)
theorem g7 : Good (c7 n) := Good.fn (g6 n) 14 0 (rU n) (fun _ => rfl) rfl
def mJ (a0 : Int) (a1 : Int) : Option Int := (gq n (decide (a0 < a1))).bind fun y1 => (some y1)
def la : FS := ⟨⟨jS, []⟩, ⟨[.val cq], []⟩, Int, fun y => ((y, ()), ()), fun o => o.1.1, fun x => mJ n x.1.1 x.1.2.1⟩
theorem sX : cG (c7 n) 14 165 0 (la n) := fun x => by kernel_rfl
def c8 : Cx := (Cx.bare (c7 n)).addSpec 165 (la n)
theorem g8 : Good (c8 n) := Good.fn (g7 n) 14 0 (sX n) (fun _ => rfl) rfl
def mK (n : Nat) (a0 : Int) (a1 : Int) : Option Int := if decide ((bits .and .i64 a1 63) < 0) then none else (some (a0.fdiv (2 ^ (min ((bits .and .i64 a1 63)).toNat 64))))
def lb : FS := ⟨⟨jS, []⟩, ⟨[.val cq], []⟩, Int, fun y => ((y, ()), ()), fun o => o.1.1, fun x => mK n x.1.1 x.1.2.1⟩
theorem sY : cG (c8 n) 14 164 0 (lb n) := fun x => by kernel_rfl
def c9 : Cx := (Cx.bare (c8 n)).addSpec 164 (lb n)
theorem g9 : Good (c9 n) := Good.fn (g8 n) 14 0 (sY n) (fun _ => rfl) rfl
def mL (n : Nat) (a0 : Int) (a1 : Int) : Option Int := if decide ((bits .and .i64 a1 63) < 0) then none else (some (wrap .i64 (a0 * 2 ^ (min ((bits .and .i64 a1 63)).toNat 64))))
def lf : FS := ⟨⟨jS, []⟩, ⟨[.val cq], []⟩, Int, fun y => ((y, ()), ()), fun o => o.1.1, fun x => mL n x.1.1 x.1.2.1⟩
theorem sZ : cG (c9 n) 14 163 0 (lf n) := fun x => by kernel_rfl
def BJ : Cx := (Cx.bare (c9 n)).addSpec 163 (lf n)
theorem Dx : Good (BJ n) := Good.fn (g9 n) 14 0 (sZ n) (fun _ => rfl) rfl
def mM (n : Nat) (a0 : Int) (a1 : Int) : Option Int := some (bits .xor .i64 a0 a1)
def lh : FS := ⟨⟨jS, []⟩, ⟨[.val cq], []⟩, Int, fun y => ((y, ()), ()), fun o => o.1.1, fun x => mM n x.1.1 x.1.2.1⟩
theorem s4 : cG (BJ n) 14 162 0 (lh n) := fun x => by kernel_rfl
def BK : Cx := (Cx.bare (BJ n)).addSpec 162 (lh n)
theorem Dy : Good (BK n) := Good.fn (Dx n) 14 0 (s4 n) (fun _ => rfl) rfl
def mN (n : Nat) (a0 : Int) (a1 : Int) : Option Int := some (bits .or .i64 a0 a1)
def li : FS := ⟨⟨jS, []⟩, ⟨[.val cq], []⟩, Int, fun y => ((y, ()), ()), fun o => o.1.1, fun x => mN n x.1.1 x.1.2.1⟩
theorem s5 : cG (BK n) 14 161 0 (li n) := fun x => by kernel_rfl
def BL : Cx := (Cx.bare (BK n)).addSpec 161 (li n)
theorem Dz : Good (BL n) := Good.fn (Dy n) 14 0 (s5 n) (fun _ => rfl) rfl
def mO (n : Nat) (a0 : Int) (a1 : Int) : Option Int := some (bits .and .i64 a0 a1)
def lj : FS := ⟨⟨jS, []⟩, ⟨[.val cq], []⟩, Int, fun y => ((y, ()), ()), fun o => o.1.1, fun x => mO n x.1.1 x.1.2.1⟩
theorem s6 : cG (BL n) 14 160 0 (lj n) := fun x => by kernel_rfl
def BM : Cx := (Cx.bare (BL n)).addSpec 160 (lj n)
theorem DA : Good (BM n) := Good.fn (Dz n) 14 0 (s6 n) (fun _ => rfl) rfl
def mP (n : Nat) (a0 : Int) (a1 : Int) : Option Int := some (wrap .i64 (a0 * a1))
def lk : FS := ⟨⟨jS, []⟩, ⟨[.val cq], []⟩, Int, fun y => ((y, ()), ()), fun o => o.1.1, fun x => mP n x.1.1 x.1.2.1⟩
theorem s7 : cG (BM n) 14 159 0 (lk n) := fun x => by kernel_rfl
def BN : Cx := (Cx.bare (BM n)).addSpec 159 (lk n)
theorem DB : Good (BN n) := Good.fn (DA n) 14 0 (s7 n) (fun _ => rfl) rfl
def mQ (n : Nat) (a0 : Int) (a1 : Int) : Option Int := some (wrap .i64 (a0 - a1))
def ll : FS := ⟨⟨jS, []⟩, ⟨[.val cq], []⟩, Int, fun y => ((y, ()), ()), fun o => o.1.1, fun x => mQ n x.1.1 x.1.2.1⟩
theorem s8 : cG (BN n) 14 158 0 (ll n) := fun x => by kernel_rfl
def BO : Cx := (Cx.bare (BN n)).addSpec 158 (ll n)
theorem DC : Good (BO n) := Good.fn (DB n) 14 0 (s8 n) (fun _ => rfl) rfl
def mR (n : Nat) (a0 : Int) (a1 : Int) : Option Int := some (wrap .i64 (a0 + a1))
def lm : FS := ⟨⟨jS, []⟩, ⟨[.val cq], []⟩, Int, fun y => ((y, ()), ()), fun o => o.1.1, fun x => mR n x.1.1 x.1.2.1⟩
theorem s9 : cG (BO n) 14 157 0 (lm n) := fun x => by kernel_rfl
def BP : Cx := (Cx.bare (BO n)).addSpec 157 (lm n)
theorem DD : Good (BP n) := Good.fn (DC n) 14 0 (s9 n) (fun _ => rfl) rfl
def sO (a0 : Int) (a1 : Int) (a2 : Int) : Option (Int × Bool) := if ((a0 == 12) || false) then ((k0 n a1 a2).bind fun y1 => (some (y1, false))) else (if ((a0 == 11) || false) then ((mJ n a1 a2).bind fun y2 => (some (y2, false))) else (if ((a0 == 10) || false) then ((mK n a1 a2).bind fun y3 => (some (y3, false))) else (if ((a0 == 9) || false) then ((mL n a1 a2).bind fun y4 => (some (y4, false))) else (if ((a0 == 8) || false) then ((mM n a1 a2).bind fun y5 => (some (y5, false))) else (if ((a0 == 7) || false) then ((mN n a1 a2).bind fun y6 => (some (y6, false))) else (if ((a0 == 6) || false) then ((mO n a1 a2).bind fun y7 => (some (y7, false))) else (if ((a0 == 3) || false) then ((mP n a1 a2).bind fun y8 => (some (y8, false))) else (if ((a0 == 2) || false) then ((mQ n a1 a2).bind fun y9 => (some (y9, false))) else (if ((a0 == 1) || false) then ((mR n a1 a2).bind fun y10 => (some (y10, false))) else (if (a2 == 0) then (some (0, true)) else (if (a0 == 4) then (if (a2 == 0) then none else (some ((wrap .i64 (a1.tdiv a2)), false))) else (if (a0 == 5) then (if (a2 == 0) then none else (some ((a1.tmod a2), false))) else (some (0, true))))))))))))))
def rk : FS := ⟨⟨gO, []⟩, ⟨[.val cq, .val .bool], []⟩, (Int × Bool), fun y => ((U_ u_) y, ()), fun o => (o.1.1, o.1.2.1), fun x => sO n x.1.1 x.1.2.1 x.1.2.2.1⟩
theorem xZ : cG (BP n) 14 123 0 (rk n) := fun x => by kernel_rfl
def BQ : Cx := (Cx.bare (BP n)).addSpec 123 (rk n)
theorem DE : Good (BQ n) := Good.fn (DD n) 14 0 (xZ n) (fun _ => rfl) rfl
def ja {β : Type} (n : Nat) (v1 : cw) (v2 v3 : (List Int)) (v4 : Bool) (v5 : Int) (v6 v7 v8 v9 : (List Int)) (v10 : Int) (v11 : (List Int)) (v12 v13 v14 : Int) (v23 : (List (List Int))) (κ : da → Int → cw → (List Int) → (List Int) → Bool → Int → (List Int) → (List Int) → (List Int) → (List Int) → Int → (List Int) → Int → Int → Int → (List (List Int)) → Option β) : Option β := if (!(decide ((v1.length : Int) > 0))) then (κ (0, 0) 15 v1 v2 v3 v4 v5 v6 v7 v8 v9 v10 v11 v12 v13 v14 v23) else (if (!v4) then (κ (0, 0) 16 v1 v2 v3 v4 v5 v6 v7 v8 v9 v10 v11 v12 v13 v14 v23) else (if (decide (0 ≤ v5) && decide (v5 < (v1.length : Int))) then (if (((v1.getD v5.toNat (0, (0, 0))).1 == 25) || false) then (κ (3, 0) 0 v1 v2 v3 false (wrap .i64 (v5 + 1)) v6 v7 v8 v9 v10 v11 v12 v13 (wrap .i64 (v14 + 1)) v23) else (if (((v1.getD v5.toNat (0, (0, 0))).1 == 24) || false) then (if decide ((v1.getD v5.toNat (0, (0, 0))).2.1 < 0) then none else (κ (2, (v1.getD v5.toNat (0, (0, 0))).2.1) 0 v1 v2 v3 v4 (wrap .i64 (v5 + 1)) v6 v7 v8 v9 v10 v11 (bits .andNot .i64 v12 (wrap .i64 (1 * 2 ^ (min ((v1.getD v5.toNat (0, (0, 0))).2.1).toNat 64)))) v13 (wrap .i64 (v14 + 1)) v23)) else (if (((v1.getD v5.toNat (0, (0, 0))).1 == 23) || false) then (if decide ((v1.getD v5.toNat (0, (0, 0))).2.1 < 0) then none else (κ (1, (v1.getD v5.toNat (0, (0, 0))).2.1) 0 v1 v2 v3 v4 (wrap .i64 (v5 + 1)) v6 v7 v8 v9 v10 v11 (bits .or .i64 v12 (wrap .i64 (1 * 2 ^ (min ((v1.getD v5.toNat (0, (0, 0))).2.1).toNat 64)))) v13 (wrap .i64 (v14 + 1)) v23)) else (if (((v1.getD v5.toNat (0, (0, 0))).1 == 22) || false) then (if (decide (0 ≤ (wrap .i64 ((v11.length : Int) - 1))) && decide ((wrap .i64 ((v11.length : Int) - 1)) < (v11.length : Int))) then (if (decide (0 ≤ (wrap .i64 ((v11.length : Int) - 1))) && decide ((wrap .i64 ((v11.length : Int) - 1)) < (v11.length : Int))) then (if (decide (0 ≤ (wrap .i64 ((v11.length : Int) - 1))) && decide ((wrap .i64 ((v11.length : Int) - 1)) < (((v11.set ((wrap .i64 ((v11.length : Int) - 1))).toNat (wrap .i64 ((v11.getD ((wrap .i64 ((v11.length : Int) - 1))).toNat 0) - 1))).length : Nat) : Int))) then (if (decide (((v11.set ((wrap .i64 ((v11.length : Int) - 1))).toNat (wrap .i64 ((v11.getD ((wrap .i64 ((v11.length : Int) - 1))).toNat 0) - 1))).getD ((wrap .i64 ((v11.length : Int) - 1))).toNat 0) > 0)) then (if (decide (0 ≤ v5) && decide (v5 < (v2.length : Int))) then (κ (0, 0) 0 v1 v2 v3 v4 (wrap .i64 ((v2.getD v5.toNat 0) + 1)) v6 v7 v8 v9 v10 (v11.set ((wrap .i64 ((v11.length : Int) - 1))).toNat (wrap .i64 ((v11.getD ((wrap .i64 ((v11.length : Int) - 1))).toNat 0) - 1))) v12 v13 (wrap .i64 (v14 + 1)) v23) else none) else (if (decide (0 ≤ (wrap .i64 ((v11.length : Int) - 1))) && decide ((wrap .i64 ((v11.length : Int) - 1)) ≤ (((v11.set ((wrap .i64 ((v11.length : Int) - 1))).toNat (wrap .i64 ((v11.getD ((wrap .i64 ((v11.length : Int) - 1))).toNat 0) - 1))).length : Nat) : Int))) then (κ (0, 0) 0 v1 v2 v3 v4 (wrap .i64 (v5 + 1)) v6 v7 v8 v9 v10 ((v11.set ((wrap .i64 ((v11.length : Int) - 1))).toNat (wrap .i64 ((v11.getD ((wrap .i64 ((v11.length : Int) - 1))).toNat 0) - 1))).take (((wrap .i64 ((v11.length : Int) - 1))).toNat - 0)) v12 v13 (wrap .i64 (v14 + 1)) v23) else none)) else none) else none) else none) else (if (((v1.getD v5.toNat (0, (0, 0))).1 == 21) || false) then (if (decide ((v11.length + 1) * 8 ≤ 140737488355328) && decide (1 ≤ 8)) then (κ (0, 0) 0 v1 v2 v3 v4 (wrap .i64 (v5 + 1)) v6 v7 v8 v9 v10 (v11 ++ [(v1.getD v5.toNat (0, (0, 0))).2.1]) v12 v13 (wrap .i64 (v14 + 1)) v23) else none) else (if (((v1.getD v5.toNat (0, (0, 0))).1 == 20) || false) then ((cH n v1 v2 v3 v4 v5 v6 v7 v8 v9 v10 v11 v12 v13 v14).bind fun y25 => (if (y25.1 == 0) then (κ (0, 0) 0 y25.2.1 y25.2.2.1 y25.2.2.2.1 y25.2.2.2.2.1 (wrap .i64 ((wrap .i64 (v5 + 1)) + (v1.getD v5.toNat (0, (0, 0))).2.1)) y25.2.2.2.2.2.2.1 y25.2.2.2.2.2.2.2.1 y25.2.2.2.2.2.2.2.2.1 y25.2.2.2.2.2.2.2.2.2.1 y25.2.2.2.2.2.2.2.2.2.2.1 y25.2.2.2.2.2.2.2.2.2.2.2.1 y25.2.2.2.2.2.2.2.2.2.2.2.2.1 y25.2.2.2.2.2.2.2.2.2.2.2.2.2.1 (wrap .i64 (y25.2.2.2.2.2.2.2.2.2.2.2.2.2.2 + 1)) v23) else (κ (0, 0) 0 y25.2.1 y25.2.2.1 y25.2.2.2.1 y25.2.2.2.2.1 (wrap .i64 (v5 + 1)) y25.2.2.2.2.2.2.1 y25.2.2.2.2.2.2.2.1 y25.2.2.2.2.2.2.2.2.1 y25.2.2.2.2.2.2.2.2.2.1 y25.2.2.2.2.2.2.2.2.2.2.1 y25.2.2.2.2.2.2.2.2.2.2.2.1 y25.2.2.2.2.2.2.2.2.2.2.2.2.1 y25.2.2.2.2.2.2.2.2.2.2.2.2.2.1 (wrap .i64 (y25.2.2.2.2.2.2.2.2.2.2.2.2.2.2 + 1)) v23))) else (if (((v1.getD v5.toNat (0, (0, 0))).1 == 19) || false) then (κ (0, 0) 0 v1 v2 v3 v4 (wrap .i64 ((wrap .i64 (v5 + 1)) + (v1.getD v5.toNat (0, (0, 0))).2.1)) v6 v7 v8 v9 v10 v11 v12 v13 (wrap .i64 (v14 + 1)) v23) else (if (((v1.getD v5.toNat (0, (0, 0))).1 == 18) || false) then ((cH n v1 v2 v3 v4 v5 v6 v7 v8 v9 v10 v11 v12 v13 v14).bind fun y26 => (if (decide (0 ≤ (v1.getD v5.toNat (0, (0, 0))).2.1) && decide ((v1.getD v5.toNat (0, (0, 0))).2.1 < 8)) then (if (decide (0 ≤ (v1.getD v5.toNat (0, (0, 0))).2.2) && decide ((v1.getD v5.toNat (0, (0, 0))).2.2 < 8)) then (κ (0, 0) 0 y26.2.1 y26.2.2.1 y26.2.2.2.1 y26.2.2.2.2.1 (wrap .i64 (v5 + 1)) y26.2.2.2.2.2.2.1 y26.2.2.2.2.2.2.2.1 y26.2.2.2.2.2.2.2.2.1 y26.2.2.2.2.2.2.2.2.2.1 y26.2.2.2.2.2.2.2.2.2.2.1 y26.2.2.2.2.2.2.2.2.2.2.2.1 y26.2.2.2.2.2.2.2.2.2.2.2.2.1 y26.2.2.2.2.2.2.2.2.2.2.2.2.2.1 (wrap .i64 (y26.2.2.2.2.2.2.2.2.2.2.2.2.2.2 + 1)) (v23.set ((v1.getD v5.toNat (0, (0, 0))).2.1).toNat ((v23.getD ((v1.getD v5.toNat (0, (0, 0))).2.1).toNat [0, 0, 0, 0, 0, 0, 0, 0]).set ((v1.getD v5.toNat (0, (0, 0))).2.2).toNat y26.1))) else none) else none)) else (if (((v1.getD v5.toNat (0, (0, 0))).1 == 17) || false) then (if (decide (0 ≤ (v1.getD v5.toNat (0, (0, 0))).2.1) && decide ((v1.getD v5.toNat (0, (0, 0))).2.1 < 8)) then (if (decide (0 ≤ (v1.getD v5.toNat (0, (0, 0))).2.2) && decide ((v1.getD v5.toNat (0, (0, 0))).2.2 < 8)) then (if (decide ((v6.length + 1) * 8 ≤ 140737488355328) && decide (1 ≤ 8)) then (κ (0, 0) 0 v1 v2 v3 v4 (wrap .i64 (v5 + 1)) (v6 ++ [((v23.getD ((v1.getD v5.toNat (0, (0, 0))).2.1).toNat [0, 0, 0, 0, 0, 0, 0, 0]).getD ((v1.getD v5.toNat (0, (0, 0))).2.2).toNat 0)]) v7 v8 v9 v10 v11 v12 v13 (wrap .i64 (v14 + 1)) v23) else none) else none) else none) else (if (((v1.getD v5.toNat (0, (0, 0))).1 == 16) || false) then ((cH n v1 v2 v3 v4 v5 v6 v7 v8 v9 v10 v11 v12 v13 v14).bind fun y27 => (if (decide (0 ≤ (v1.getD v5.toNat (0, (0, 0))).2.1) && decide ((v1.getD v5.toNat (0, (0, 0))).2.1 < 16)) then (if decide ((v1.getD v5.toNat (0, (0, 0))).2.1 < 0) then none else (κ (0, 0) 0 y27.2.1 y27.2.2.1 y27.2.2.2.1 y27.2.2.2.2.1 (wrap .i64 (v5 + 1)) y27.2.2.2.2.2.2.1 y27.2.2.2.2.2.2.2.1 y27.2.2.2.2.2.2.2.2.1 (y27.2.2.2.2.2.2.2.2.2.1.set ((v1.getD v5.toNat (0, (0, 0))).2.1).toNat y27.1) (bits .or .i64 y27.2.2.2.2.2.2.2.2.2.2.1 (wrap .i64 (1 * 2 ^ (min ((v1.getD v5.toNat (0, (0, 0))).2.1).toNat 64)))) y27.2.2.2.2.2.2.2.2.2.2.2.1 y27.2.2.2.2.2.2.2.2.2.2.2.2.1 y27.2.2.2.2.2.2.2.2.2.2.2.2.2.1 (wrap .i64 (y27.2.2.2.2.2.2.2.2.2.2.2.2.2.2 + 1)) v23)) else none)) else (if (((v1.getD v5.toNat (0, (0, 0))).1 == 15) || false) then (if (decide (0 ≤ (v1.getD v5.toNat (0, (0, 0))).2.1) && decide ((v1.getD v5.toNat (0, (0, 0))).2.1 < 16)) then (if (decide ((v6.length + 1) * 8 ≤ 140737488355328) && decide (1 ≤ 8)) then (κ (0, 0) 0 v1 v2 v3 v4 (wrap .i64 (v5 + 1)) (v6 ++ [(v8.getD ((v1.getD v5.toNat (0, (0, 0))).2.1).toNat 0)]) v7 v8 v9 v10 v11 v12 v13 (wrap .i64 (v14 + 1)) v23) else none) else none) else (if (((v1.getD v5.toNat (0, (0, 0))).1 == 14) || false) then ((cH n v1 v2 v3 v4 v5 v6 v7 v8 v9 v10 v11 v12 v13 v14).bind fun y28 => (if (decide (0 ≤ (v1.getD v5.toNat (0, (0, 0))).2.1) && decide ((v1.getD v5.toNat (0, (0, 0))).2.1 < 8)) then (κ (0, 0) 0 y28.2.1 y28.2.2.1 (y28.2.2.2.1.set ((v1.getD v5.toNat (0, (0, 0))).2.1).toNat y28.1) y28.2.2.2.2.1 (wrap .i64 (v5 + 1)) y28.2.2.2.2.2.2.1 y28.2.2.2.2.2.2.2.1 y28.2.2.2.2.2.2.2.2.1 y28.2.2.2.2.2.2.2.2.2.1 y28.2.2.2.2.2.2.2.2.2.2.1 y28.2.2.2.2.2.2.2.2.2.2.2.1 y28.2.2.2.2.2.2.2.2.2.2.2.2.1 y28.2.2.2.2.2.2.2.2.2.2.2.2.2.1 (wrap .i64 (y28.2.2.2.2.2.2.2.2.2.2.2.2.2.2 + 1)) v23) else none)) else (if (((v1.getD v5.toNat (0, (0, 0))).1 == 13) || false) then (if (decide (0 ≤ (v1.getD v5.toNat (0, (0, 0))).2.1) && decide ((v1.getD v5.toNat (0, (0, 0))).2.1 < 8)) then (if (decide ((v6.length + 1) * 8 ≤ 140737488355328) && decide (1 ≤ 8)) then (κ (0, 0) 0 v1 v2 v3 v4 (wrap .i64 (v5 + 1)) (v6 ++ [(v3.getD ((v1.getD v5.toNat (0, (0, 0))).2.1).toNat 0)]) v7 v8 v9 v10 v11 v12 v13 (wrap .i64 (v14 + 1)) v23) else none) else none) else (if (((v1.getD v5.toNat (0, (0, 0))).1 == 12) || false) then ((cH n v1 v2 v3 v4 v5 v6 v7 v8 v9 v10 v11 v12 v13 v14).bind fun y29 => (if (decide (0 ≤ (v1.getD v5.toNat (0, (0, 0))).2.1) && decide ((v1.getD v5.toNat (0, (0, 0))).2.1 < 8)) then (κ (0, 0) 0 y29.2.1 y29.2.2.1 y29.2.2.2.1 y29.2.2.2.2.1 (wrap .i64 (v5 + 1)) y29.2.2.2.2.2.2.1 (y29.2.2.2.2.2.2.2.1.set ((v1.getD v5.toNat (0, (0, 0))).2.1).toNat y29.1) y29.2.2.2.2.2.2.2.2.1 y29.2.2.2.2.2.2.2.2.2.1 y29.2.2.2.2.2.2.2.2.2.2.1 y29.2.2.2.2.2.2.2.2.2.2.2.1 y29.2.2.2.2.2.2.2.2.2.2.2.2.1 y29.2.2.2.2.2.2.2.2.2.2.2.2.2.1 (wrap .i64 (y29.2.2.2.2.2.2.2.2.2.2.2.2.2.2 + 1)) v23) else none)) else (if (((v1.getD v5.toNat (0, (0, 0))).1 == 11) || false) then (if (decide (0 ≤ (v1.getD v5.toNat (0, (0, 0))).2.1) && decide ((v1.getD v5.toNat (0, (0, 0))).2.1 < 8)) then (if (decide ((v6.length + 1) * 8 ≤ 140737488355328) && decide (1 ≤ 8)) then (κ (0, 0) 0 v1 v2 v3 v4 (wrap .i64 (v5 + 1)) (v6 ++ [(v7.getD ((v1.getD v5.toNat (0, (0, 0))).2.1).toNat 0)]) v7 v8 v9 v10 v11 v12 v13 (wrap .i64 (v14 + 1)) v23) else none) else none) else (if (((v1.getD v5.toNat (0, (0, 0))).1 == 10) || false) then (κ (0, 0) 0 v1 v2 v3 v4 (wrap .i64 (v5 + 1)) v6 v7 v8 v9 v10 v11 v12 v13 (wrap .i64 (v14 + 1)) v23) else (if (((v1.getD v5.toNat (0, (0, 0))).1 == 9) || false) then ((cH n v1 v2 v3 v4 v5 v6 v7 v8 v9 v10 v11 v12 v13 v14).bind fun y30 => ((cH n y30.2.1 y30.2.2.1 y30.2.2.2.1 y30.2.2.2.2.1 y30.2.2.2.2.2.1 y30.2.2.2.2.2.2.1 y30.2.2.2.2.2.2.2.1 y30.2.2.2.2.2.2.2.2.1 y30.2.2.2.2.2.2.2.2.2.1 y30.2.2.2.2.2.2.2.2.2.2.1 y30.2.2.2.2.2.2.2.2.2.2.2.1 y30.2.2.2.2.2.2.2.2.2.2.2.2.1 y30.2.2.2.2.2.2.2.2.2.2.2.2.2.1 y30.2.2.2.2.2.2.2.2.2.2.2.2.2.2).bind fun y31 => (if (decide ((y31.2.2.2.2.2.2.1.length + 1) * 8 ≤ 140737488355328) && decide (1 ≤ 8)) then (κ (0, 0) 0 y31.2.1 y31.2.2.1 y31.2.2.2.1 y31.2.2.2.2.1 (wrap .i64 (v5 + 1)) (y31.2.2.2.2.2.2.1 ++ [(bits .or .i64 y30.1 y31.1)]) y31.2.2.2.2.2.2.2.1 y31.2.2.2.2.2.2.2.2.1 y31.2.2.2.2.2.2.2.2.2.1 y31.2.2.2.2.2.2.2.2.2.2.1 y31.2.2.2.2.2.2.2.2.2.2.2.1 y31.2.2.2.2.2.2.2.2.2.2.2.2.1 y31.2.2.2.2.2.2.2.2.2.2.2.2.2.1 (wrap .i64 (y31.2.2.2.2.2.2.2.2.2.2.2.2.2.2 + 1)) v23) else none))) else (if (((v1.getD v5.toNat (0, (0, 0))).1 == 8) || false) then ((cH n v1 v2 v3 v4 v5 v6 v7 v8 v9 v10 v11 v12 v13 v14).bind fun y32 => ((cH n y32.2.1 y32.2.2.1 y32.2.2.2.1 y32.2.2.2.2.1 y32.2.2.2.2.2.1 y32.2.2.2.2.2.2.1 y32.2.2.2.2.2.2.2.1 y32.2.2.2.2.2.2.2.2.1 y32.2.2.2.2.2.2.2.2.2.1 y32.2.2.2.2.2.2.2.2.2.2.1 y32.2.2.2.2.2.2.2.2.2.2.2.1 y32.2.2.2.2.2.2.2.2.2.2.2.2.1 y32.2.2.2.2.2.2.2.2.2.2.2.2.2.1 y32.2.2.2.2.2.2.2.2.2.2.2.2.2.2).bind fun y33 => (if (decide ((y33.2.2.2.2.2.2.1.length + 1) * 8 ≤ 140737488355328) && decide (1 ≤ 8)) then (κ (0, 0) 0 y33.2.1 y33.2.2.1 y33.2.2.2.1 y33.2.2.2.2.1 (wrap .i64 (v5 + 1)) (y33.2.2.2.2.2.2.1 ++ [(bits .and .i64 y32.1 y33.1)]) y33.2.2.2.2.2.2.2.1 y33.2.2.2.2.2.2.2.2.1 y33.2.2.2.2.2.2.2.2.2.1 y33.2.2.2.2.2.2.2.2.2.2.1 y33.2.2.2.2.2.2.2.2.2.2.2.1 y33.2.2.2.2.2.2.2.2.2.2.2.2.1 y33.2.2.2.2.2.2.2.2.2.2.2.2.2.1 (wrap .i64 (y33.2.2.2.2.2.2.2.2.2.2.2.2.2.2 + 1)) v23) else none))) else (if (((v1.getD v5.toNat (0, (0, 0))).1 == 7) || false) then ((cH n v1 v2 v3 v4 v5 v6 v7 v8 v9 v10 v11 v12 v13 v14).bind fun y34 => ((sM n y34.1).bind fun y35 => (if (decide ((y34.2.2.2.2.2.2.1.length + 1) * 8 ≤ 140737488355328) && decide (1 ≤ 8)) then (κ (0, 0) 0 y34.2.1 y34.2.2.1 y34.2.2.2.1 y34.2.2.2.2.1 (wrap .i64 (v5 + 1)) (y34.2.2.2.2.2.2.1 ++ [y35]) y34.2.2.2.2.2.2.2.1 y34.2.2.2.2.2.2.2.2.1 y34.2.2.2.2.2.2.2.2.2.1 y34.2.2.2.2.2.2.2.2.2.2.1 y34.2.2.2.2.2.2.2.2.2.2.2.1 y34.2.2.2.2.2.2.2.2.2.2.2.2.1 y34.2.2.2.2.2.2.2.2.2.2.2.2.2.1 (wrap .i64 (y34.2.2.2.2.2.2.2.2.2.2.2.2.2.2 + 1)) v23) else none))) else (if (((v1.getD v5.toNat (0, (0, 0))).1 == 6) || false) then ((cH n v1 v2 v3 v4 v5 v6 v7 v8 v9 v10 v11 v12 v13 v14).bind fun y36 => ((sN n y36.1).bind fun y37 => (if (decide ((y36.2.2.2.2.2.2.1.length + 1) * 8 ≤ 140737488355328) && decide (1 ≤ 8)) then (κ (0, 0) 0 y36.2.1 y36.2.2.1 y36.2.2.2.1 y36.2.2.2.2.1 (wrap .i64 (v5 + 1)) (y36.2.2.2.2.2.2.1 ++ [y37]) y36.2.2.2.2.2.2.2.1 y36.2.2.2.2.2.2.2.2.1 y36.2.2.2.2.2.2.2.2.2.1 y36.2.2.2.2.2.2.2.2.2.2.1 y36.2.2.2.2.2.2.2.2.2.2.2.1 y36.2.2.2.2.2.2.2.2.2.2.2.2.1 y36.2.2.2.2.2.2.2.2.2.2.2.2.2.1 (wrap .i64 (y36.2.2.2.2.2.2.2.2.2.2.2.2.2.2 + 1)) v23) else none))) else (if (((v1.getD v5.toNat (0, (0, 0))).1 == 5) || false) then ((cH n v1 v2 v3 v4 v5 v6 v7 v8 v9 v10 v11 v12 v13 v14).bind fun y38 => ((cH n y38.2.1 y38.2.2.1 y38.2.2.2.1 y38.2.2.2.2.1 y38.2.2.2.2.2.1 y38.2.2.2.2.2.2.1 y38.2.2.2.2.2.2.2.1 y38.2.2.2.2.2.2.2.2.1 y38.2.2.2.2.2.2.2.2.2.1 y38.2.2.2.2.2.2.2.2.2.2.1 y38.2.2.2.2.2.2.2.2.2.2.2.1 y38.2.2.2.2.2.2.2.2.2.2.2.2.1 y38.2.2.2.2.2.2.2.2.2.2.2.2.2.1 y38.2.2.2.2.2.2.2.2.2.2.2.2.2.2).bind fun y39 => ((sO n ((v1.getD v5.toNat (0, (0, 0))).2.1) y39.1 y38.1).bind fun y40 => ((gq n y40.2).bind fun y41 => (if (decide ((y39.2.2.2.2.2.2.1.length + 1) * 8 ≤ 140737488355328) && decide (1 ≤ 8)) then (κ (0, 0) 0 y39.2.1 y39.2.2.1 y39.2.2.2.1 y39.2.2.2.2.1 (wrap .i64 (v5 + 1)) (y39.2.2.2.2.2.2.1 ++ [y40.1]) y39.2.2.2.2.2.2.2.1 y39.2.2.2.2.2.2.2.2.1 y39.2.2.2.2.2.2.2.2.2.1 y39.2.2.2.2.2.2.2.2.2.2.1 y39.2.2.2.2.2.2.2.2.2.2.2.1 y39.2.2.2.2.2.2.2.2.2.2.2.2.1 (wrap .i64 (y39.2.2.2.2.2.2.2.2.2.2.2.2.2.1 + y41)) (wrap .i64 (y39.2.2.2.2.2.2.2.2.2.2.2.2.2.2 + 1)) v23) else none))))) else (if (((v1.getD v5.toNat (0, (0, 0))).1 == 4) || false) then ((cH n v1 v2 v3 v4 v5 v6 v7 v8 v9 v10 v11 v12 v13 v14).bind fun y42 => ((cH n y42.2.1 y42.2.2.1 y42.2.2.2.1 y42.2.2.2.2.1 y42.2.2.2.2.2.1 y42.2.2.2.2.2.2.1 y42.2.2.2.2.2.2.2.1 y42.2.2.2.2.2.2.2.2.1 y42.2.2.2.2.2.2.2.2.2.1 y42.2.2.2.2.2.2.2.2.2.2.1 y42.2.2.2.2.2.2.2.2.2.2.2.1 y42.2.2.2.2.2.2.2.2.2.2.2.2.1 y42.2.2.2.2.2.2.2.2.2.2.2.2.2.1 y42.2.2.2.2.2.2.2.2.2.2.2.2.2.2).bind fun y43 => (if (decide ((y43.2.2.2.2.2.2.1.length + 1) * 8 ≤ 140737488355328) && decide (1 ≤ 8)) then (if (decide (((y43.2.2.2.2.2.2.1 ++ [y42.1]).length + 1) * 8 ≤ 140737488355328) && decide (1 ≤ 8)) then (κ (0, 0) 0 y43.2.1 y43.2.2.1 y43.2.2.2.1 y43.2.2.2.2.1 (wrap .i64 (v5 + 1)) ((y43.2.2.2.2.2.2.1 ++ [y42.1]) ++ [y43.1]) y43.2.2.2.2.2.2.2.1 y43.2.2.2.2.2.2.2.2.1 y43.2.2.2.2.2.2.2.2.2.1 y43.2.2.2.2.2.2.2.2.2.2.1 y43.2.2.2.2.2.2.2.2.2.2.2.1 y43.2.2.2.2.2.2.2.2.2.2.2.2.1 y43.2.2.2.2.2.2.2.2.2.2.2.2.2.1 (wrap .i64 (y43.2.2.2.2.2.2.2.2.2.2.2.2.2.2 + 1)) v23) else none) else none))) else (if (((v1.getD v5.toNat (0, (0, 0))).1 == 3) || false) then (if (decide (0 ≤ (wrap .i64 ((v6.length : Int) - 1))) && decide ((wrap .i64 ((v6.length : Int) - 1)) < (v6.length : Int))) then (if (decide ((v6.length + 1) * 8 ≤ 140737488355328) && decide (1 ≤ 8)) then (κ (0, 0) 0 v1 v2 v3 v4 (wrap .i64 (v5 + 1)) (v6 ++ [(v6.getD ((wrap .i64 ((v6.length : Int) - 1))).toNat 0)]) v7 v8 v9 v10 v11 v12 v13 (wrap .i64 (v14 + 1)) v23) else none) else none) else (if (((v1.getD v5.toNat (0, (0, 0))).1 == 2) || false) then ((cH n v1 v2 v3 v4 v5 v6 v7 v8 v9 v10 v11 v12 v13 v14).bind fun y44 => (κ (0, 0) 0 y44.2.1 y44.2.2.1 y44.2.2.2.1 y44.2.2.2.2.1 (wrap .i64 (v5 + 1)) y44.2.2.2.2.2.2.1 y44.2.2.2.2.2.2.2.1 y44.2.2.2.2.2.2.2.2.1 y44.2.2.2.2.2.2.2.2.2.1 y44.2.2.2.2.2.2.2.2.2.2.1 y44.2.2.2.2.2.2.2.2.2.2.2.1 y44.2.2.2.2.2.2.2.2.2.2.2.2.1 y44.2.2.2.2.2.2.2.2.2.2.2.2.2.1 (wrap .i64 (y44.2.2.2.2.2.2.2.2.2.2.2.2.2.2 + 1)) v23)) else (if (((v1.getD v5.toNat (0, (0, 0))).1 == 1) || false) then (if (decide ((v6.length + 1) * 8 ≤ 140737488355328) && decide (1 ≤ 8)) then (κ (0, 0) 0 v1 v2 v3 v4 (wrap .i64 (v5 + 1)) (v6 ++ [(v1.getD v5.toNat (0, (0, 0))).2.1]) v7 v8 v9 v10 v11 v12 v13 (wrap .i64 (v14 + 1)) v23) else none) else none))))))))))))))))))))))))) else none))
def jb (v1 : cw) (v2 v3 : (List Int)) (v4 : Bool) (v5 : Int) (v6 v7 v8 v9 : (List Int)) (v10 : Int) (v11 : (List Int)) (v12 v13 v14 v15 v16 v17 v18 : Int) (v19 : (List Int)) (v20 : (List (List Int))) (v21 : cr) (v22 : (List Nat)) (v23 : (List (List Int))) (v24 : (List Int)) : Option (da × Int × cw × (List Int) × (List Int) × Bool × Int × (List Int) × (List Int) × (List Int) × (List Int) × Int × (List Int) × Int × Int × Int × Int × Int × Int × Int × (List Int) × (List (List Int)) × cr × (List Nat) × (List (List Int)) × (List Int)) := ja n v1 v2 v3 v4 v5 v6 v7 v8 v9 v10 v11 v12 v13 v14 v23 (fun r0 r1 r2 r3 r4 r5 r6 r7 r8 r9 r10 r11 r12 r13 r14 r15 r24 => some (r0, r1, r2, r3, r4, r5, r6, r7, r8, r9, r10, r11, r12, r13, r14, r15, v15, v16, v17, v18, v19, v20, v21, v22, r24, v24))
def iK : FS := ⟨⟨[.obj 0, .inn 1 8], [gN, [.val cq, .val cq, .val cq, .val cq, .val cJ, .val dA, .val dr, .row 71 (.fp 120), .val dj, .row 3 cq]]⟩, ⟨[.val fw, .val cq], [gN, [.val cq, .val cq, .val cq, .val cq, .val cJ, .val dA, .val dr, .row 71 (.fp 120), .val dj, .row 3 cq]]⟩, (da × Int × cw × (List Int) × (List Int) × Bool × Int × (List Int) × (List Int) × (List Int) × (List Int) × Int × (List Int) × Int × Int × Int × Int × Int × Int × Int × (List Int) × (List (List Int)) × cr × (List Nat) × (List (List Int)) × (List Int)), fun y => ((U_ v_) y, (cR (dp (U_ v_))) y.2.2, (cR (U_ u_)) y.2.2.2.2.2.2.2.2.2.2.2.2.2.2.2.2, ()), fun (o : ((da × Int × Unit) × (cB × (Int × Int × Int × Int × (List Int) × (List (List Int)) × cr × (List Nat) × (List (List Int)) × (List Int) × Unit) × Unit))) => (J_ j_) o.1 ((sJ (jR (J_ j_))) o.2.1 ((cR (U_ k_)) o.2.2.1)), fun (x : (Unit × (cB × (Int × Int × Int × Int × (List Int) × (List (List Int)) × cr × (List Nat) × (List (List Int)) × (List Int) × Unit) × Unit))) => jb n x.2.1.1 x.2.1.2.1 x.2.1.2.2.1 x.2.1.2.2.2.1 x.2.1.2.2.2.2.1 x.2.1.2.2.2.2.2.1 x.2.1.2.2.2.2.2.2.1 x.2.1.2.2.2.2.2.2.2.1 x.2.1.2.2.2.2.2.2.2.2.1 x.2.1.2.2.2.2.2.2.2.2.2.1 x.2.1.2.2.2.2.2.2.2.2.2.2.1 x.2.1.2.2.2.2.2.2.2.2.2.2.2.1 x.2.1.2.2.2.2.2.2.2.2.2.2.2.2.1 x.2.1.2.2.2.2.2.2.2.2.2.2.2.2.2.1 x.2.2.1.1 x.2.2.1.2.1 x.2.2.1.2.2.1 x.2.2.1.2.2.2.1 x.2.2.1.2.2.2.2.1 x.2.2.1.2.2.2.2.2.1 x.2.2.1.2.2.2.2.2.2.1 x.2.2.1.2.2.2.2.2.2.2.1 x.2.2.1.2.2.2.2.2.2.2.2.1 x.2.2.1.2.2.2.2.2.2.2.2.2.1⟩
theorem oU : cG (BQ n) 14 28 0 (iK n) := fun x => by kernel_rfl
def BS : Cx := (Cx.bare (BQ n)).addSpec 28 (iK n)
theorem DF : Good (BS n) := Good.fn (DE n) 14 0 (oU n) (fun _ => rfl) rfl
def gQ (v1 : Nat) (v2 : (List cB)) (v3 v4 v5 v6 : Int) (v7 : (List Int)) (v8 : (List (List Int))) (v9 : cr) (v10 : (List Nat)) (v11 : (List (List Int))) (v12 : (List Int)) : Option (da × Int × (List cB) × Int × Int × Int × Int × (List Int) × (List (List Int)) × cr × (List Nat) × (List (List Int)) × (List Int)) := fF v2 v1 fun m13 => ((jb n m13.1 m13.2.1 m13.2.2.1 m13.2.2.2.1 m13.2.2.2.2.1 m13.2.2.2.2.2.1 m13.2.2.2.2.2.2.1 m13.2.2.2.2.2.2.2.1 m13.2.2.2.2.2.2.2.2.1 m13.2.2.2.2.2.2.2.2.2.1 m13.2.2.2.2.2.2.2.2.2.2.1 m13.2.2.2.2.2.2.2.2.2.2.2.1 m13.2.2.2.2.2.2.2.2.2.2.2.2.1 m13.2.2.2.2.2.2.2.2.2.2.2.2.2.1 v3 v4 v5 v6 v7 v8 v9 v10 v11 v12).bind fun y14 => (some ((y14.1.1, y14.1.2), y14.2.1, (v2.set (v1 - 1) (y14.2.2.1, y14.2.2.2.1, y14.2.2.2.2.1, y14.2.2.2.2.2.1, y14.2.2.2.2.2.2.1, y14.2.2.2.2.2.2.2.1, y14.2.2.2.2.2.2.2.2.1, y14.2.2.2.2.2.2.2.2.2.1, y14.2.2.2.2.2.2.2.2.2.2.1, y14.2.2.2.2.2.2.2.2.2.2.2.1, y14.2.2.2.2.2.2.2.2.2.2.2.2.1, y14.2.2.2.2.2.2.2.2.2.2.2.2.2.1, y14.2.2.2.2.2.2.2.2.2.2.2.2.2.2.1, y14.2.2.2.2.2.2.2.2.2.2.2.2.2.2.2.1, ())), y14.2.2.2.2.2.2.2.2.2.2.2.2.2.2.2.2.1, y14.2.2.2.2.2.2.2.2.2.2.2.2.2.2.2.2.2.1, y14.2.2.2.2.2.2.2.2.2.2.2.2.2.2.2.2.2.2.1, y14.2.2.2.2.2.2.2.2.2.2.2.2.2.2.2.2.2.2.2.1, y14.2.2.2.2.2.2.2.2.2.2.2.2.2.2.2.2.2.2.2.2.1, y14.2.2.2.2.2.2.2.2.2.2.2.2.2.2.2.2.2.2.2.2.2.1, y14.2.2.2.2.2.2.2.2.2.2.2.2.2.2.2.2.2.2.2.2.2.2.1, y14.2.2.2.2.2.2.2.2.2.2.2.2.2.2.2.2.2.2.2.2.2.2.2.1, y14.2.2.2.2.2.2.2.2.2.2.2.2.2.2.2.2.2.2.2.2.2.2.2.2.1, y14.2.2.2.2.2.2.2.2.2.2.2.2.2.2.2.2.2.2.2.2.2.2.2.2.2)))
def gt : FS := ⟨⟨[.val (.fp 120), .inn 1 8], [[.fam 120 db], [.val cq, .val cq, .val cq, .val cq, .val cJ, .val dA, .val dr, .row 71 (.fp 120), .val dj, .row 3 cq]]⟩, ⟨[.val fw, .val cq], [[.fam 120 db], [.val cq, .val cq, .val cq, .val cq, .val cJ, .val dA, .val dr, .row 71 (.fp 120), .val dj, .row 3 cq]]⟩, (da × Int × (List cB) × Int × Int × Int × Int × (List Int) × (List (List Int)) × cr × (List Nat) × (List (List Int)) × (List Int)), fun y => ((U_ v_) y, (y.2.2.1, ()), (cR (U_ u_)) y.2.2.2, ()), fun (o : ((da × Int × Unit) × (dy × (Int × Int × Int × Int × (List Int) × (List (List Int)) × cr × (List Nat) × (List (List Int)) × (List Int) × Unit) × Unit))) => (J_ j_) o.1 ((o.2.1.1, ((cR (U_ k_)) o.2.2.1))), fun (x : ((Nat × Unit) × (dy × (Int × Int × Int × Int × (List Int) × (List (List Int)) × cr × (List Nat) × (List (List Int)) × (List Int) × Unit) × Unit))) => gQ n x.1.1 x.2.1.1 x.2.2.1.1 x.2.2.1.2.1 x.2.2.1.2.2.1 x.2.2.1.2.2.2.1 x.2.2.1.2.2.2.2.1 x.2.2.1.2.2.2.2.2.1 x.2.2.1.2.2.2.2.2.2.1 x.2.2.1.2.2.2.2.2.2.2.1 x.2.2.1.2.2.2.2.2.2.2.2.1 x.2.2.1.2.2.2.2.2.2.2.2.2.1⟩
theorem nh : iz (BS n) 14 28 0 (gt n) true 0 120 db false := fun x => by kernel_rfl
def BT : Cx := (Cx.bare (BS n)).addSpec 28 (gt n)
theorem DG : Good (BT n) := fe (DF n) 14 0 true 0 120 db false (nh n) (fun _ => rfl) rfl (by decide) rfl
def gu (n : Nat) (v1 : cw) (v2 v3 : (List Int)) (v4 : Bool) (v5 : Int) (v6 v7 v8 v9 : (List Int)) (v10 : Int) (v11 : (List Int)) (v12 v13 v14 : Int) : Option BG := some (v4, v1, v2, v3, v4, v5, v6, v7, v8, v9, v10, v11, v12, v13, v14)
def f5 : FS := ⟨⟨[.obj 0], [gN]⟩, ⟨[.val .bool], [gN]⟩, BG, fun y => ((y.1, ()), (cR (dp (U_ u_))) y.2, ()), fun (o : (eC × iY)) => (o.1.1, ((cR (dp (U_ k_))) o.2.1)), fun (x : (Unit × iY)) => gu n x.2.1.1 x.2.1.2.1 x.2.1.2.2.1 x.2.1.2.2.2.1 x.2.1.2.2.2.2.1 x.2.1.2.2.2.2.2.1 x.2.1.2.2.2.2.2.2.1 x.2.1.2.2.2.2.2.2.2.1 x.2.1.2.2.2.2.2.2.2.2.1 x.2.1.2.2.2.2.2.2.2.2.2.1 x.2.1.2.2.2.2.2.2.2.2.2.2.1 x.2.1.2.2.2.2.2.2.2.2.2.2.2.1 x.2.1.2.2.2.2.2.2.2.2.2.2.2.2.1 x.2.1.2.2.2.2.2.2.2.2.2.2.2.2.2.1⟩
theorem my : cG (BT n) 14 27 0 (f5 n) := fun x => by kernel_rfl
def BU : Cx := (Cx.bare (BT n)).addSpec 27 (f5 n)
theorem DH : Good (BU n) := Good.fn (DG n) 14 0 (my n) (fun _ => rfl) rfl
def ep (v1 : Nat) (v2 : (List cB)) : Option (Bool × (List cB)) := fF v2 v1 fun m3 => ((gu n m3.1 m3.2.1 m3.2.2.1 m3.2.2.2.1 m3.2.2.2.2.1 m3.2.2.2.2.2.1 m3.2.2.2.2.2.2.1 m3.2.2.2.2.2.2.2.1 m3.2.2.2.2.2.2.2.2.1 m3.2.2.2.2.2.2.2.2.2.1 m3.2.2.2.2.2.2.2.2.2.2.1 m3.2.2.2.2.2.2.2.2.2.2.2.1 m3.2.2.2.2.2.2.2.2.2.2.2.2.1 m3.2.2.2.2.2.2.2.2.2.2.2.2.2.1).bind fun y4 => (some (y4.1, (v2.set (v1 - 1) (y4.2.1, y4.2.2.1, y4.2.2.2.1, y4.2.2.2.2.1, y4.2.2.2.2.2.1, y4.2.2.2.2.2.2.1, y4.2.2.2.2.2.2.2.1, y4.2.2.2.2.2.2.2.2.1, y4.2.2.2.2.2.2.2.2.2.1, y4.2.2.2.2.2.2.2.2.2.2.1, y4.2.2.2.2.2.2.2.2.2.2.2.1, y4.2.2.2.2.2.2.2.2.2.2.2.2.1, y4.2.2.2.2.2.2.2.2.2.2.2.2.2.1, y4.2.2.2.2.2.2.2.2.2.2.2.2.2.2, ())))))
def fx : FS := ⟨⟨[.val (.fp 120)], [[.fam 120 db]]⟩, ⟨[.val .bool], [[.fam 120 db]]⟩, (Bool × (List cB)), fun y => ((y.1, ()), (y.2, ()), ()), fun (o : (eC × iX)) => (o.1.1, o.2.1.1), fun (x : ((Nat × Unit) × iX)) => ep n x.1.1 x.2.1.1⟩
theorem kO : iz (BU n) 14 27 0 (fx n) true 0 120 db false := fun x => by kernel_rfl
def BV : Cx := (Cx.bare (BU n)).addSpec 27 (fx n)
theorem DI : Good (BV n) := fe (DH n) 14 0 true 0 120 db false (kO n) (fun _ => rfl) rfl (by decide) rfl
def iL (n : Nat) (F : zj → Option (wc)) (v15 : (List da)) (v16 : (List Int)) (v17 : Int) (v18 : cw) (v19 v20 : (List Int)) (v21 : Bool) (v22 : Int) (v23 v24 v25 v26 : (List Int)) (v27 : Int) (v28 : (List Int)) (v29 v30 v31 : Int) : Option (wc) := if (decide (v17 < 16)) then (if (decide (0 ≤ v17) && decide (v17 < 16)) then (if decide (v17 < 0) then none else (if ((bits .and .i64 (v27.fdiv (2 ^ (min v17.toNat 64))) 1) == 1) then (if (decide ((v15.length + 1) * 16 ≤ 140737488355328) && decide (1 ≤ 16)) then (F ((v15 ++ [(v17, (v16.getD v17.toNat 0))]), v16, (wrap .i64 (v17 + 1)), v18, v19, v20, v21, v22, v23, v24, v25, v26, v27, v28, v29, v30, v31)) else none) else (F (v15, v16, (wrap .i64 (v17 + 1)), v18, v19, v20, v21, v22, v23, v24, v25, v26, v27, v28, v29, v30, v31)))) else none) else (some (v15, v18, v19, v20, v21, v22, v23, v24, v25, v26, v27, v28, v29, v30, v31))
def gv : zj → Option (wc) := it (fun F => (d8 (dW (dK (C_ q_)))) (iL n F)) n
def gx : Loop := ⟨⟨cE 34 0 [(0, .obj 0), (3, .row 107 fw), (12, .val pl), (13, .val cq)], [gN]⟩, [(.exit 0, ⟨cE 34 0 [(3, .row 107 fw)], [gN]⟩)], zj, fun x => ((cS v_) x, (cR (dp (U_ u_))) x.2.2.2, ()), fun (x : (((List da) × (List Int) × Int × Unit) × iY)) => (er j_) x.1 ((cR (dp (U_ k_))) x.2.1), wc, fun y => ((y.1, ()), (cR (dp (U_ u_))) y.2, ()), fun (o : (((List da) × Unit) × iY)) => (o.1.1, ((cR (dp (U_ k_))) o.2.1)), gv n⟩
def jc (v1 : cw) (v2 v3 : (List Int)) (v4 : Bool) (v5 : Int) (v6 v7 v8 v9 : (List Int)) (v10 : Int) (v11 : (List Int)) (v12 v13 v14 : Int) : Option wc := (gv n ([], v9, 0, v1, v2, v3, v4, v5, v6, v7, v8, v9, v10, v11, v12, v13, v14)).bind fun y15 => (some (y15.1, y15.2.1, y15.2.2.1, y15.2.2.2.1, y15.2.2.2.2.1, y15.2.2.2.2.2.1, y15.2.2.2.2.2.2.1, y15.2.2.2.2.2.2.2.1, y15.2.2.2.2.2.2.2.2.1, y15.2.2.2.2.2.2.2.2.2.1, y15.2.2.2.2.2.2.2.2.2.2.1, y15.2.2.2.2.2.2.2.2.2.2.2.1, y15.2.2.2.2.2.2.2.2.2.2.2.2.1, y15.2.2.2.2.2.2.2.2.2.2.2.2.2.1, y15.2.2.2.2.2.2.2.2.2.2.2.2.2.2))
def iM : FS := ⟨⟨[.obj 0], [gN]⟩, ⟨[.val (.sl fw)], [gN]⟩, wc, fun y => ((y.1, ()), (cR (dp (U_ u_))) y.2, ()), fun (o : (((List da) × Unit) × iY)) => (o.1.1, ((cR (dp (U_ k_))) o.2.1)), fun (x : (Unit × iY)) => jc n x.2.1.1 x.2.1.2.1 x.2.1.2.2.1 x.2.1.2.2.2.1 x.2.1.2.2.2.2.1 x.2.1.2.2.2.2.2.1 x.2.1.2.2.2.2.2.2.1 x.2.1.2.2.2.2.2.2.2.1 x.2.1.2.2.2.2.2.2.2.2.1 x.2.1.2.2.2.2.2.2.2.2.2.1 x.2.1.2.2.2.2.2.2.2.2.2.2.1 x.2.1.2.2.2.2.2.2.2.2.2.2.2.1 x.2.1.2.2.2.2.2.2.2.2.2.2.2.2.1 x.2.1.2.2.2.2.2.2.2.2.2.2.2.2.2.1⟩
theorem mz : ∀ F x, cU (BV n) 14 29 0 5 (gx n) F x = (d8 (dW (dK (C_ q_)))) (iL n F) x := fun F x => by kernel_rfl
def eL : Cx := Cx.addLoop (BV n) 29 5 (gx n)
theorem mA : Good (eL n) := Good.loop (DI n) 14 0 (by kernel_rfl) (mz n) n (fun _ => rfl) (fun _ => rfl) (fun _ => rfl) rfl
theorem oV : cG (eL n) 14 29 0 (iM n) := fun x => by kernel_rfl
def BW : Cx := (Cx.bare (eL n)).addSpec 29 (iM n)
theorem DJ : Good (BW n) := Good.fn (mA n) 14 0 (oV n) (fun _ => rfl) rfl
def dO (v1 : Nat) (v2 : (List cB)) : Option ((List da) × (List cB)) := fF v2 v1 fun m3 => ((jc n m3.1 m3.2.1 m3.2.2.1 m3.2.2.2.1 m3.2.2.2.2.1 m3.2.2.2.2.2.1 m3.2.2.2.2.2.2.1 m3.2.2.2.2.2.2.2.1 m3.2.2.2.2.2.2.2.2.1 m3.2.2.2.2.2.2.2.2.2.1 m3.2.2.2.2.2.2.2.2.2.2.1 m3.2.2.2.2.2.2.2.2.2.2.2.1 m3.2.2.2.2.2.2.2.2.2.2.2.2.1 m3.2.2.2.2.2.2.2.2.2.2.2.2.2.1).bind fun y4 => (some (y4.1, (v2.set (v1 - 1) (y4.2.1, y4.2.2.1, y4.2.2.2.1, y4.2.2.2.2.1, y4.2.2.2.2.2.1, y4.2.2.2.2.2.2.1, y4.2.2.2.2.2.2.2.1, y4.2.2.2.2.2.2.2.2.1, y4.2.2.2.2.2.2.2.2.2.1, y4.2.2.2.2.2.2.2.2.2.2.1, y4.2.2.2.2.2.2.2.2.2.2.2.1, y4.2.2.2.2.2.2.2.2.2.2.2.2.1, y4.2.2.2.2.2.2.2.2.2.2.2.2.2.1, y4.2.2.2.2.2.2.2.2.2.2.2.2.2.2, ())))))
def gy : FS := ⟨⟨[.val (.fp 120)], [[.fam 120 db]]⟩, ⟨[.val (.sl fw)], [[.fam 120 db]]⟩, ((List da) × (List cB)), fun y => ((y.1, ()), (y.2, ()), ()), fun (o : (((List da) × Unit) × iX)) => (o.1.1, o.2.1.1), fun (x : ((Nat × Unit) × iX)) => dO n x.1.1 x.2.1.1⟩
theorem ni : iz (BW n) 14 29 0 (gy n) true 0 120 db false := fun x => by kernel_rfl
def BX : Cx := (Cx.bare (BW n)).addSpec 29 (gy n)
theorem DK : Good (BX n) := fe (DJ n) 14 0 true 0 120 db false (ni n) (fun _ => rfl) rfl (by decide) rfl
def x0 (F : ((List cB) × Nat × Int × Int × Int × Int × (List Int) × (List (List Int)) × cr × (List Nat) × (List (List Int)) × (List Int)) → Option (((List cB) × Nat × Int × Int × Int × Int × (List Int) × (List (List Int)) × cr × (List Nat) × (List (List Int)) × (List Int)))) (v29 : (List cB)) (v30 : Nat) (v31 v32 v33 v34 : Int) (v35 : (List Int)) (v36 : (List (List Int))) (v37 : cr) (v38 : (List Nat)) (v39 : (List (List Int))) (v40 : (List Int)) : Option (((List cB) × Nat × Int × Int × Int × Int × (List Int) × (List (List Int)) × cr × (List Nat) × (List (List Int)) × (List Int))) := (gQ n v30 v29 v31 v32 v33 v34 v35 v36 v37 v38 v39 v40).bind fun y41 => ((ep n v30 y41.2.2.1).bind fun y42 => (if y42.1 then (F (y42.2, v30, y41.2.2.2.1, y41.2.2.2.2.1, y41.2.2.2.2.2.1, y41.2.2.2.2.2.2.1, y41.2.2.2.2.2.2.2.1, y41.2.2.2.2.2.2.2.2.1, y41.2.2.2.2.2.2.2.2.2.1, y41.2.2.2.2.2.2.2.2.2.2.1, y41.2.2.2.2.2.2.2.2.2.2.2.1, y41.2.2.2.2.2.2.2.2.2.2.2.2)) else (some (y42.2, v30, y41.2.2.2.1, y41.2.2.2.2.1, y41.2.2.2.2.2.1, y41.2.2.2.2.2.2.1, y41.2.2.2.2.2.2.2.1, y41.2.2.2.2.2.2.2.2.1, y41.2.2.2.2.2.2.2.2.2.1, y41.2.2.2.2.2.2.2.2.2.2.1, y41.2.2.2.2.2.2.2.2.2.2.2.1, y41.2.2.2.2.2.2.2.2.2.2.2.2))))
def ut : ((List cB) × Nat × Int × Int × Int × Int × (List Int) × (List (List Int)) × cr × (List Nat) × (List (List Int)) × (List Int)) → Option (((List cB) × Nat × Int × Int × Int × Int × (List Int) × (List (List Int)) × cr × (List Nat) × (List (List Int)) × (List Int))) := it (fun F => (d8 (dK q_)) (x0 n F)) n
def uu : Loop := ⟨⟨cE 60 0 [(3, .obj 1), (8, .obj 2), (9, .clo 38 [2, 1])], [[.fam 120 db], [.obj 3], [.val (.fp 120)], [.val cq, .val cq, .val cq, .val cq, .val cJ, .val dA, .val dr, .row 71 (.fp 120), .val dj, .row 3 cq]]⟩, [(.exit 1, ⟨cE 60 0 [(3, .obj 1), (8, .obj 2)], [[.fam 120 db], [.obj 3], [.val (.fp 120)], [.val cq, .val cq, .val cq, .val cq, .val cJ, .val dA, .val dr, .row 71 (.fp 120), .val dj, .row 3 cq]]⟩)], ((List cB) × Nat × Int × Int × Int × Int × (List Int) × (List (List Int)) × cr × (List Nat) × (List (List Int)) × (List Int)), fun x => ((), (x.1, ()), (), (x.2.1, ()), (cR (U_ u_)) x.2.2, ()), fun (x : (Unit × (dy × Unit × (Nat × Unit) × (Int × Int × Int × Int × (List Int) × (List (List Int)) × cr × (List Nat) × (List (List Int)) × (List Int) × Unit) × Unit))) => (x.2.1.1, ((x.2.2.2.1.1, ((cR (U_ k_)) x.2.2.2.2.1)))), ((List cB) × Nat × Int × Int × Int × Int × (List Int) × (List (List Int)) × cr × (List Nat) × (List (List Int)) × (List Int)), fun y => ((), (y.1, ()), (), (y.2.1, ()), (cR (U_ u_)) y.2.2, ()), fun (o : (Unit × (dy × Unit × (Nat × Unit) × (Int × Int × Int × Int × (List Int) × (List (List Int)) × cr × (List Nat) × (List (List Int)) × (List Int) × Unit) × Unit))) => (o.2.1.1, ((o.2.2.2.1.1, ((cR (U_ k_)) o.2.2.2.2.1)))), ut n⟩
def x5 (n : Nat) (F : ((List da) × Int × Int × (List cB) × Nat × Int × Int × Int × Int × (List Int) × (List (List Int)) × cr × (List Nat) × (List (List Int)) × (List Int)) → Option (((List cB) × Nat × Int × Int × Int × Int × (List Int) × (List (List Int)) × cr × (List Nat) × (List (List Int)) × (List Int)))) (v29 : (List da)) (v30 v31 : Int) (v32 : (List cB)) (v33 : Nat) (v34 v35 v36 v37 : Int) (v38 : (List Int)) (v39 : (List (List Int))) (v40 : cr) (v41 : (List Nat)) (v42 : (List (List Int))) (v43 : (List Int)) : Option (((List cB) × Nat × Int × Int × Int × Int × (List Int) × (List (List Int)) × cr × (List Nat) × (List (List Int)) × (List Int))) := if (decide (v31 < v30)) then (if (decide (0 ≤ v31) && decide (v31 < (v29.length : Int))) then (if (decide (0 ≤ (v29.getD v31.toNat (0, 0)).1) && decide ((v29.getD v31.toNat (0, 0)).1 < (v43.length : Int))) then (F (v29, v30, (wrap .i64 (v31 + 1)), v32, v33, v34, v35, v36, v37, v38, v39, v40, v41, v42, (v43.set ((v29.getD v31.toNat (0, 0)).1).toNat (v29.getD v31.toNat (0, 0)).2))) else none) else none) else (some (v32, v33, v34, v35, v36, v37, v38, v39, v40, v41, v42, v43))
def uv : ((List da) × Int × Int × (List cB) × Nat × Int × Int × Int × Int × (List Int) × (List (List Int)) × cr × (List Nat) × (List (List Int)) × (List Int)) → Option (((List cB) × Nat × Int × Int × Int × Int × (List Int) × (List (List Int)) × cr × (List Nat) × (List (List Int)) × (List Int))) := it (fun F => (d8 (dW (C_ q_))) (x5 n F)) n
def uw : Loop := ⟨⟨cE 60 0 [(3, .obj 1), (8, .obj 2), (42, .val (.sl fw)), (43, .val cq), (44, .val cq)], [[.fam 120 db], [.obj 3], [.val (.fp 120)], [.val cq, .val cq, .val cq, .val cq, .val cJ, .val dA, .val dr, .row 71 (.fp 120), .val dj, .row 3 cq]]⟩, [(.exit 3, ⟨cE 60 0 [(8, .obj 2)], [[.fam 120 db], [.obj 3], [.val (.fp 120)], [.val cq, .val cq, .val cq, .val cq, .val cJ, .val dA, .val dr, .row 71 (.fp 120), .val dj, .row 3 cq]]⟩)], ((List da) × Int × Int × (List cB) × Nat × Int × Int × Int × Int × (List Int) × (List (List Int)) × cr × (List Nat) × (List (List Int)) × (List Int)), fun x => ((cS v_) x, (x.2.2.2.1, ()), (), (x.2.2.2.2.1, ()), (cR (U_ u_)) x.2.2.2.2.2, ()), fun (x : (((List da) × Int × Int × Unit) × (dy × Unit × (Nat × Unit) × (Int × Int × Int × Int × (List Int) × (List (List Int)) × cr × (List Nat) × (List (List Int)) × (List Int) × Unit) × Unit))) => (er j_) x.1 ((x.2.1.1, ((x.2.2.2.1.1, ((cR (U_ k_)) x.2.2.2.2.1))))), ((List cB) × Nat × Int × Int × Int × Int × (List Int) × (List (List Int)) × cr × (List Nat) × (List (List Int)) × (List Int)), fun y => ((), (y.1, ()), (), (y.2.1, ()), (cR (U_ u_)) y.2.2, ()), fun (o : (Unit × (dy × Unit × (Nat × Unit) × (Int × Int × Int × Int × (List Int) × (List (List Int)) × cr × (List Nat) × (List (List Int)) × (List Int) × Unit) × Unit))) => (o.2.1.1, ((o.2.2.2.1.1, ((cR (U_ k_)) o.2.2.2.2.1)))), uv n⟩
def AH (v1 : Int) (v2 : (List Int)) (v3 : (List cB)) (v4 v5 v6 v7 : Int) (v8 : (List Int)) (v9 : (List (List Int))) (v10 : cr) (v11 : (List Nat)) (v12 : (List (List Int))) (v13 : (List Int)) : Option ((List da) × Int × (List cB) × Int × Int × Int × Int × (List Int) × (List (List Int)) × cr × (List Nat) × (List (List Int)) × (List Int)) := if ((v11.length : Int) == 0) then (some ([], 15, v3, v4, v5, v6, v7, v8, v9, v10, v11, v12, v13)) else (if (decide (v1 ≥ 0)) then (if (!(decide (v1 < (v11.length : Int)))) then (some ([], 14, v3, v4, v5, v6, v7, v8, v9, v10, v11, v12, v13)) else (if (decide (0 ≤ v1) && decide (v1 < (v11.length : Int))) then ((eK n (v11.getD v1.toNat (0 : Nat)) v2 v3).bind fun y14 => ((ut n (y14.2, (v11.getD v1.toNat (0 : Nat)), v4, v5, v6, v7, v8, v9, v10, v11, v12, v13)).bind fun y15 => ((dO n y15.2.1 y15.1).bind fun y16 => ((uv n (y16.1, (y16.1.length : Int), 0, y16.2, y15.2.1, y15.2.2.1, y15.2.2.2.1, y15.2.2.2.2.1, y15.2.2.2.2.2.1, y15.2.2.2.2.2.2.1, y15.2.2.2.2.2.2.2.1, y15.2.2.2.2.2.2.2.2.1, y15.2.2.2.2.2.2.2.2.2.1, y15.2.2.2.2.2.2.2.2.2.2.1, y15.2.2.2.2.2.2.2.2.2.2.2)).bind fun y17 => ((dO n y17.2.1 y17.1).bind fun y18 => (some (y18.1, 0, y18.2, y17.2.2.1, y17.2.2.2.1, y17.2.2.2.2.1, y17.2.2.2.2.2.1, y17.2.2.2.2.2.2.1, y17.2.2.2.2.2.2.2.1, y17.2.2.2.2.2.2.2.2.1, y17.2.2.2.2.2.2.2.2.2.1, y17.2.2.2.2.2.2.2.2.2.2.1, y17.2.2.2.2.2.2.2.2.2.2.2))))))) else none)) else (some ([], 14, v3, v4, v5, v6, v7, v8, v9, v10, v11, v12, v13)))
def x6 : FS := ⟨⟨[.obj 1, .val cq, .val pl], [[.fam 120 db], [.val cq, .val cq, .val cq, .val cq, .val cJ, .val dA, .val dr, .row 71 (.fp 120), .val dj, .row 3 cq]]⟩, ⟨[.val (.sl fw), .val cq], [[.fam 120 db], [.val cq, .val cq, .val cq, .val cq, .val cJ, .val dA, .val dr, .row 71 (.fp 120), .val dj, .row 3 cq]]⟩, ((List da) × Int × (List cB) × Int × Int × Int × Int × (List Int) × (List (List Int)) × cr × (List Nat) × (List (List Int)) × (List Int)), fun y => ((U_ v_) y, (y.2.2.1, ()), (cR (U_ u_)) y.2.2.2, ()), fun (o : (((List da) × Int × Unit) × (dy × (Int × Int × Int × Int × (List Int) × (List (List Int)) × cr × (List Nat) × (List (List Int)) × (List Int) × Unit) × Unit))) => (J_ j_) o.1 ((o.2.1.1, ((cR (U_ k_)) o.2.2.1))), fun (x : ((Int × (List Int) × Unit) × (dy × (Int × Int × Int × Int × (List Int) × (List (List Int)) × cr × (List Nat) × (List (List Int)) × (List Int) × Unit) × Unit))) => AH n x.1.1 x.1.2.1 x.2.1.1 x.2.2.1.1 x.2.2.1.2.1 x.2.2.1.2.2.1 x.2.2.1.2.2.2.1 x.2.2.1.2.2.2.2.1 x.2.2.1.2.2.2.2.2.1 x.2.2.1.2.2.2.2.2.2.1 x.2.2.1.2.2.2.2.2.2.2.1 x.2.2.1.2.2.2.2.2.2.2.2.1 x.2.2.1.2.2.2.2.2.2.2.2.2.1⟩
theorem zE : ∀ F x, cU (BX n) 14 16 0 8 (uu n) F x = (d8 (dK q_)) (x0 n F) x := fun F x => by kernel_rfl
def pU : Cx := Cx.addLoop (BX n) 16 8 (uu n)
theorem zF : Good (pU n) := Good.loop (DK n) 14 0 (by kernel_rfl) (zE n) n (fun _ => rfl) (fun _ => rfl) (fun _ => rfl) rfl
theorem zG : ∀ F x, cU (pU n) 14 16 0 10 (uw n) F x = (d8 (dW (C_ q_))) (x5 n F) x := fun F x => by kernel_rfl
def pV : Cx := Cx.addLoop (pU n) 16 10 (uw n)
theorem zH : Good (pV n) := Good.loop (zF n) 14 0 (by kernel_rfl) (zG n) n (fun _ => rfl) (fun _ => rfl) (fun _ => rfl) rfl
theorem Df : cG (pV n) 14 16 0 (x6 n) := fun x => by kernel_rfl
def BY : Cx := (Cx.bare (pV n)).addSpec 16 (x6 n)
theorem DL : Good (BY n) := Good.fn (zH n) 14 0 (Df n) (fun _ => rfl) rfl
def gR (n : Nat) (v1 : Int) (v2 : (List cB)) (v3 v4 v5 v6 : Int) (v7 : (List Int)) (v8 : (List (List Int))) (v9 : cr) (v10 : (List Nat)) (v11 : (List (List Int))) (v12 : (List Int)) : Option ((List Int) × (List cB) × Int × Int × Int × Int × (List Int) × (List (List Int)) × cr × (List Nat) × (List (List Int)) × (List Int)) := if (decide (v1 < 0)) then (some ([], v2, v3, v4, v5, v6, v7, v8, v9, v10, v11, v12)) else (if (decide (v1 ≥ (v8.length : Int))) then (some ([], v2, v3, v4, v5, v6, v7, v8, v9, v10, v11, v12)) else (if (decide (0 ≤ v1) && decide (v1 < 8)) then (if (decide (0 ≤ v1) && decide (v1 < (v8.length : Int))) then (if (decide (0 ≤ (((v8.getD v1.toNat []).length : Nat) : Int)) && decide ((((v8.getD v1.toNat []).length : Nat) : Int) ≤ 8)) then (if (decide (0 = 0) && decide (0 = 0) && decide (((v11.getD v1.toNat [0, 0, 0, 0, 0, 0, 0, 0]).take ((((v8.getD v1.toNat []).length : Nat) : Int)).toNat).length * 8 ≤ 140737488355328) && decide (1 ≤ 8)) then (some (((v11.getD v1.toNat [0, 0, 0, 0, 0, 0, 0, 0]).take ((((v8.getD v1.toNat []).length : Nat) : Int)).toNat), v2, v3, v4, v5, v6, v7, v8, v9, v10, v11, v12)) else none) else none) else none) else none))
def gz : FS := ⟨⟨[.obj 1, .val cq], [[.fam 120 db], [.val cq, .val cq, .val cq, .val cq, .val cJ, .val dA, .val dr, .row 71 (.fp 120), .val dj, .row 3 cq]]⟩, ⟨[.val cJ], [[.fam 120 db], [.val cq, .val cq, .val cq, .val cq, .val cJ, .val dA, .val dr, .row 71 (.fp 120), .val dj, .row 3 cq]]⟩, ((List Int) × (List cB) × Int × Int × Int × Int × (List Int) × (List (List Int)) × cr × (List Nat) × (List (List Int)) × (List Int)), fun y => ((y.1, ()), (y.2.1, ()), (cR (U_ u_)) y.2.2, ()), fun (o : (jU × (dy × (Int × Int × Int × Int × (List Int) × (List (List Int)) × cr × (List Nat) × (List (List Int)) × (List Int) × Unit) × Unit))) => (o.1.1, ((o.2.1.1, ((cR (U_ k_)) o.2.2.1)))), fun (x : (fh × (dy × (Int × Int × Int × Int × (List Int) × (List (List Int)) × cr × (List Nat) × (List (List Int)) × (List Int) × Unit) × Unit))) => gR n x.1.1 x.2.1.1 x.2.2.1.1 x.2.2.1.2.1 x.2.2.1.2.2.1 x.2.2.1.2.2.2.1 x.2.2.1.2.2.2.2.1 x.2.2.1.2.2.2.2.2.1 x.2.2.1.2.2.2.2.2.2.1 x.2.2.1.2.2.2.2.2.2.2.1 x.2.2.1.2.2.2.2.2.2.2.2.1 x.2.2.1.2.2.2.2.2.2.2.2.2.1⟩
theorem nj : cG (BY n) 14 22 0 (gz n) := fun x => by kernel_rfl
def BZ : Cx := (Cx.bare (BY n)).addSpec 22 (gz n)
theorem DM : Good (BZ n) := Good.fn (DL n) 14 0 (nj n) (fun _ => rfl) rfl
def f7 (n : Nat) (v1 : cw) (v2 v3 : (List Int)) (v4 : Bool) (v5 : Int) (v6 v7 v8 v9 : (List Int)) (v10 : Int) (v11 : (List Int)) (v12 v13 v14 : Int) : Option BF := some (v3, v1, v2, v3, v4, v5, v6, v7, v8, v9, v10, v11, v12, v13, v14)
def fG : FS := ⟨⟨[.obj 0], [gN]⟩, ⟨[.val nX], [gN]⟩, BF, fun y => ((y.1, ()), (cR (dp (U_ u_))) y.2, ()), fun (o : (jU × iY)) => (o.1.1, ((cR (dp (U_ k_))) o.2.1)), fun (x : (Unit × iY)) => f7 n x.2.1.1 x.2.1.2.1 x.2.1.2.2.1 x.2.1.2.2.2.1 x.2.1.2.2.2.2.1 x.2.1.2.2.2.2.2.1 x.2.1.2.2.2.2.2.2.1 x.2.1.2.2.2.2.2.2.2.1 x.2.1.2.2.2.2.2.2.2.2.1 x.2.1.2.2.2.2.2.2.2.2.2.1 x.2.1.2.2.2.2.2.2.2.2.2.2.1 x.2.1.2.2.2.2.2.2.2.2.2.2.2.1 x.2.1.2.2.2.2.2.2.2.2.2.2.2.2.1 x.2.1.2.2.2.2.2.2.2.2.2.2.2.2.2.1⟩
theorem ln : cG (BZ n) 14 30 0 (fG n) := fun x => by kernel_rfl
def B7 : Cx := (Cx.bare (BZ n)).addSpec 30 (fG n)
theorem DN : Good (B7 n) := Good.fn (DM n) 14 0 (ln n) (fun _ => rfl) rfl
def ec (v1 : Nat) (v2 : (List cB)) : Option ((List Int) × (List cB)) := fF v2 v1 fun m3 => ((f7 n m3.1 m3.2.1 m3.2.2.1 m3.2.2.2.1 m3.2.2.2.2.1 m3.2.2.2.2.2.1 m3.2.2.2.2.2.2.1 m3.2.2.2.2.2.2.2.1 m3.2.2.2.2.2.2.2.2.1 m3.2.2.2.2.2.2.2.2.2.1 m3.2.2.2.2.2.2.2.2.2.2.1 m3.2.2.2.2.2.2.2.2.2.2.2.1 m3.2.2.2.2.2.2.2.2.2.2.2.2.1 m3.2.2.2.2.2.2.2.2.2.2.2.2.2.1).bind fun y4 => (some (y4.1, (v2.set (v1 - 1) (y4.2.1, y4.2.2.1, y4.2.2.2.1, y4.2.2.2.2.1, y4.2.2.2.2.2.1, y4.2.2.2.2.2.2.1, y4.2.2.2.2.2.2.2.1, y4.2.2.2.2.2.2.2.2.1, y4.2.2.2.2.2.2.2.2.2.1, y4.2.2.2.2.2.2.2.2.2.2.1, y4.2.2.2.2.2.2.2.2.2.2.2.1, y4.2.2.2.2.2.2.2.2.2.2.2.2.1, y4.2.2.2.2.2.2.2.2.2.2.2.2.2.1, y4.2.2.2.2.2.2.2.2.2.2.2.2.2.2, ())))))
def fi : FS := ⟨⟨[.val (.fp 120)], [[.fam 120 db]]⟩, ⟨[.val nX], [[.fam 120 db]]⟩, ((List Int) × (List cB)), fun y => ((y.1, ()), (y.2, ()), ()), fun (o : (jU × iX)) => (o.1.1, o.2.1.1), fun (x : ((Nat × Unit) × iX)) => ec n x.1.1 x.2.1.1⟩
theorem j9 : iz (B7 n) 14 30 0 (fi n) true 0 120 db false := fun x => by kernel_rfl
def B8 : Cx := (Cx.bare (B7 n)).addSpec 30 (fi n)
theorem DO : Good (B8 n) := fe (DN n) 14 0 true 0 120 db false (j9 n) (fun _ => rfl) rfl (by decide) rfl
def fH (v1 : Int) (v2 : (List cB)) (v3 v4 v5 v6 : Int) (v7 : (List Int)) (v8 : (List (List Int))) (v9 : cr) (v10 : (List Nat)) (v11 : (List (List Int))) (v12 : (List Int)) : Option ((List Int) × (List cB) × Int × Int × Int × Int × (List Int) × (List (List Int)) × cr × (List Nat) × (List (List Int)) × (List Int)) := if (decide (v1 ≥ 0)) then (if (!(decide (v1 < (v10.length : Int)))) then (some ([0, 0, 0, 0, 0, 0, 0, 0], v2, v3, v4, v5, v6, v7, v8, v9, v10, v11, v12)) else (if (decide (0 ≤ v1) && decide (v1 < (v10.length : Int))) then ((ec n (v10.getD v1.toNat (0 : Nat)) v2).bind fun y13 => (some (y13.1, y13.2, v3, v4, v5, v6, v7, v8, v9, v10, v11, v12))) else none)) else (some ([0, 0, 0, 0, 0, 0, 0, 0], v2, v3, v4, v5, v6, v7, v8, v9, v10, v11, v12))
def fy : FS := ⟨⟨[.obj 1, .val cq], [[.fam 120 db], [.val cq, .val cq, .val cq, .val cq, .val cJ, .val dA, .val dr, .row 71 (.fp 120), .val dj, .row 3 cq]]⟩, ⟨[.val nX], [[.fam 120 db], [.val cq, .val cq, .val cq, .val cq, .val cJ, .val dA, .val dr, .row 71 (.fp 120), .val dj, .row 3 cq]]⟩, ((List Int) × (List cB) × Int × Int × Int × Int × (List Int) × (List (List Int)) × cr × (List Nat) × (List (List Int)) × (List Int)), fun y => ((y.1, ()), (y.2.1, ()), (cR (U_ u_)) y.2.2, ()), fun (o : (jU × (dy × (Int × Int × Int × Int × (List Int) × (List (List Int)) × cr × (List Nat) × (List (List Int)) × (List Int) × Unit) × Unit))) => (o.1.1, ((o.2.1.1, ((cR (U_ k_)) o.2.2.1)))), fun (x : (fh × (dy × (Int × Int × Int × Int × (List Int) × (List (List Int)) × cr × (List Nat) × (List (List Int)) × (List Int) × Unit) × Unit))) => fH n x.1.1 x.2.1.1 x.2.2.1.1 x.2.2.1.2.1 x.2.2.1.2.2.1 x.2.2.1.2.2.2.1 x.2.2.1.2.2.2.2.1 x.2.2.1.2.2.2.2.2.1 x.2.2.1.2.2.2.2.2.2.1 x.2.2.1.2.2.2.2.2.2.2.1 x.2.2.1.2.2.2.2.2.2.2.2.1 x.2.2.1.2.2.2.2.2.2.2.2.2.1⟩
theorem kP : cG (B8 n) 14 24 0 (fy n) := fun x => by kernel_rfl
def B9 : Cx := (Cx.bare (B8 n)).addSpec 24 (fy n)
theorem DP : Good (B9 n) := Good.fn (DO n) 14 0 (kP n) (fun _ => rfl) rfl
def dS (n : Nat) (v1 v2 v3 v4 : Int) (v5 : (List Int)) (v6 : (List (List Int))) (v7 : cr) (v8 : (List Nat)) (v9 : (List (List Int))) (v10 : (List Int)) : Option (List Int) := if (decide (0 = 0) && decide (0 = 0) && decide (v10.length * 8 ≤ 140737488355328) && decide (1 ≤ 8)) then (some v10) else none
theorem lp : wI (B9 n) 14 21 0 [.val cq, .val cq, .val cq, .val cq, .val cJ, .val dA, .val dr, .row 71 (.fp 120), .val dj, .row 3 cq] 3 cq (fun X => dS n X.2.1.1 X.2.1.2.1 X.2.1.2.2.1 X.2.1.2.2.2.1 X.2.1.2.2.2.2.1 X.2.1.2.2.2.2.2.1 X.2.1.2.2.2.2.2.2.1 X.2.1.2.2.2.2.2.2.2.1 X.2.1.2.2.2.2.2.2.2.2.1 X.2.1.2.2.2.2.2.2.2.2.2.1) := fun X => by kernel_rfl
def Ca : Cx := (Cx.bare (B9 n)).addQR 21 ⟨jO [.val cq, .val cq, .val cq, .val cq, .val cJ, .val dA, .val dr, .row 71 (.fp 120), .val dj, .row 3 cq], 3, cq, fun X => dS n X.2.1.1 X.2.1.2.1 X.2.1.2.2.1 X.2.1.2.2.2.1 X.2.1.2.2.2.2.1 X.2.1.2.2.2.2.2.1 X.2.1.2.2.2.2.2.2.1 X.2.1.2.2.2.2.2.2.2.1 X.2.1.2.2.2.2.2.2.2.2.1 X.2.1.2.2.2.2.2.2.2.2.2.1⟩
theorem DQ : Good (Ca n) := xV (DP n) 14 0 [.val cq, .val cq, .val cq, .val cq, .val cJ, .val dA, .val dr, .row 71 (.fp 120), .val dj, .row 3 cq] 3 cq (fun X => dS n X.2.1.1 X.2.1.2.1 X.2.1.2.2.1 X.2.1.2.2.2.1 X.2.1.2.2.2.2.1 X.2.1.2.2.2.2.2.1 X.2.1.2.2.2.2.2.2.1 X.2.1.2.2.2.2.2.2.2.1 X.2.1.2.2.2.2.2.2.2.2.1 X.2.1.2.2.2.2.2.2.2.2.2.1) (lp n) rfl rfl
def eS (n : Nat) (v1 : Nat) (v2 : (List cB)) : Option (Nat × (List cB)) := fF v2 v1 fun m3 => (if (!(decide ((m3.1.length : Int) > 0))) then (some ((0 : Nat), (v2.set (v1 - 1) (m3.1, m3.2.1, m3.2.2.1, m3.2.2.2.1, m3.2.2.2.2.1, m3.2.2.2.2.2.1, m3.2.2.2.2.2.2.1, m3.2.2.2.2.2.2.2.1, m3.2.2.2.2.2.2.2.2.1, m3.2.2.2.2.2.2.2.2.2.1, m3.2.2.2.2.2.2.2.2.2.2.1, m3.2.2.2.2.2.2.2.2.2.2.2.1, m3.2.2.2.2.2.2.2.2.2.2.2.2.1, m3.2.2.2.2.2.2.2.2.2.2.2.2.2.1, ())))) else (if (decide (0 = 0) && decide (0 = 0) && decide (m3.2.2.2.2.2.1.length * 8 ≤ 140737488355328) && decide (1 ≤ 8)) then (if (decide (0 = 0) && decide (0 = 0) && decide (m3.2.2.2.2.2.2.2.2.2.2.1.length * 8 ≤ 140737488355328) && decide (1 ≤ 8)) then (some (((v2.set (v1 - 1) (m3.1, m3.2.1, m3.2.2.1, m3.2.2.2.1, m3.2.2.2.2.1, m3.2.2.2.2.2.1, m3.2.2.2.2.2.2.1, m3.2.2.2.2.2.2.2.1, m3.2.2.2.2.2.2.2.2.1, m3.2.2.2.2.2.2.2.2.2.1, m3.2.2.2.2.2.2.2.2.2.2.1, m3.2.2.2.2.2.2.2.2.2.2.2.1, m3.2.2.2.2.2.2.2.2.2.2.2.2.1, m3.2.2.2.2.2.2.2.2.2.2.2.2.2.1, ())).length + 1), ((v2.set (v1 - 1) (m3.1, m3.2.1, m3.2.2.1, m3.2.2.2.1, m3.2.2.2.2.1, m3.2.2.2.2.2.1, m3.2.2.2.2.2.2.1, m3.2.2.2.2.2.2.2.1, m3.2.2.2.2.2.2.2.2.1, m3.2.2.2.2.2.2.2.2.2.1, m3.2.2.2.2.2.2.2.2.2.2.1, m3.2.2.2.2.2.2.2.2.2.2.2.1, m3.2.2.2.2.2.2.2.2.2.2.2.2.1, m3.2.2.2.2.2.2.2.2.2.2.2.2.2.1, ())) ++ [(m3.1, m3.2.1, m3.2.2.1, m3.2.2.2.1, m3.2.2.2.2.1, m3.2.2.2.2.2.1, m3.2.2.2.2.2.2.1, m3.2.2.2.2.2.2.2.1, m3.2.2.2.2.2.2.2.2.1, m3.2.2.2.2.2.2.2.2.2.1, m3.2.2.2.2.2.2.2.2.2.2.1, m3.2.2.2.2.2.2.2.2.2.2.2.1, m3.2.2.2.2.2.2.2.2.2.2.2.2.1, m3.2.2.2.2.2.2.2.2.2.2.2.2.2.1, ())]))) else none) else none))
def gA : FS := ⟨⟨[.val (.fp 120)], [[.fam 120 db]]⟩, ⟨[.val (.fp 120)], [[.fam 120 db]]⟩, (Nat × (List cB)), fun y => ((y.1, ()), (y.2, ()), ()), fun (o : ((Nat × Unit) × iX)) => (o.1.1, o.2.1.1), fun (x : ((Nat × Unit) × iX)) => eS n x.1.1 x.2.1.1⟩
theorem nk : iz (Ca n) 14 36 0 (gA n) true 0 120 db true := fun x => by kernel_rfl
def Cb : Cx := (Cx.bare (Ca n)).addSpec 36 (gA n)
theorem DR : Good (Cb n) := fe (DQ n) 14 0 true 0 120 db true (nk n) (fun _ => rfl) rfl (by decide) rfl
def gB (n : Nat) (a0 : pS) : Option (List Int) := some [(if (if 100 < a0.1 then 100 else a0.1) > 1 then (if 100 < a0.1 then 100 else a0.1) else 1), (if (if 1048576 < a0.2.1 then 1048576 else a0.2.1) > 1 then (if 1048576 < a0.2.1 then 1048576 else a0.2.1) else 1), (if (if (if (if 1048576 < a0.2.1 then 1048576 else a0.2.1) > 1 then (if 1048576 < a0.2.1 then 1048576 else a0.2.1) else 1) < a0.2.2.1 then (if (if 1048576 < a0.2.1 then 1048576 else a0.2.1) > 1 then (if 1048576 < a0.2.1 then 1048576 else a0.2.1) else 1) else a0.2.2.1) > 1 then (if (if (if 1048576 < a0.2.1 then 1048576 else a0.2.1) > 1 then (if 1048576 < a0.2.1 then 1048576 else a0.2.1) else 1) < a0.2.2.1 then (if (if 1048576 < a0.2.1 then 1048576 else a0.2.1) > 1 then (if 1048576 < a0.2.1 then 1048576 else a0.2.1) else 1) else a0.2.2.1) else 1), (if (if 1048576 < a0.2.2.2.1 then 1048576 else a0.2.2.2.1) > 0 then (if 1048576 < a0.2.2.2.1 then 1048576 else a0.2.2.2.1) else 0)]
def f8 : FS := ⟨⟨[.val uo], []⟩, ⟨[.val (.arr 4 cq)], []⟩, (List Int), fun y => ((y, ()), ()), fun o => o.1.1, fun x => gB n x.1.1⟩
theorem mB : cG (Cb n) 14 129 0 (f8 n) := fun x => by kernel_rfl
def Cc : Cx := (Cx.bare (Cb n)).addSpec 129 (f8 n)
theorem DS : Good (Cc n) := Good.fn (DR n) 14 0 (mB n) (fun _ => rfl) rfl
def lq (n : Nat) (F : (Int × Int × (List Int) × Int × Int) → Option (eX)) (v1 v2 : Int) (v3 : (List Int)) (v4 v5 : Int) : Option (eX) := if (decide (v5 < v4)) then (if (decide (0 ≤ v5) && decide (v5 < (v3.length : Int))) then (if (decide ((v3.getD v5.toNat 0) ≤ v2)) then (some (.inl ((false, ()), ()))) else (if (decide ((v3.getD v5.toNat 0) ≥ v1)) then (some (.inl ((false, ()), ()))) else (F (v1, (v3.getD v5.toNat 0), v3, v4, (wrap .i64 (v5 + 1)))))) else none) else (some (.inr ((), ())))
def jV : (Int × Int × (List Int) × Int × Int) → Option (eX) := it (fun F => (dK (C_ q_)) (lq n F)) n
def jW : Loop := ⟨⟨cE 24 0 [(1, .val cq), (5, .val cq), (8, .val cJ), (9, .val cq), (10, .val cq)], []⟩, [(.ret, ⟨cE 24 0 [(4, .val .bool)], []⟩), (.exit 0, ⟨cE 24 0 [], []⟩)], (Int × Int × (List Int) × Int × Int), fun x => ((dp u_) x, ()), fun (x : ((Int × Int × (List Int) × Int × Int × Unit) × Unit)) => (dp k_) x.1, eX, fun y => y, fun y => y, jV n⟩
def iZ (a0 : (List Int)) (a1 : Int) : Option Bool := (jV n (a1, (-1), a0, (a0.length : Int), 0)).bind fun y6 => ((Sum.elim (fun (z7 : (eC × Unit)) => (some z7.1.1)) (fun (z8 : iW) => (some true))) y6)
def lr : FS := ⟨⟨[.val cJ, .val cq], []⟩, ⟨[.val .bool], []⟩, Bool, fun y => ((y, ()), ()), fun o => o.1.1, fun x => iZ n x.1.1 x.1.2.1⟩
theorem pW : ∀ F x, cU (Cc n) 14 130 0 3 (jW n) F x = (dK (C_ q_)) (lq n F) x := fun F x => by kernel_rfl
def fR : Cx := Cx.addLoop (Cc n) 130 3 (jW n)
theorem pX : Good (fR n) := Good.loop (DS n) 14 0 (by kernel_rfl) (pW n) n (fun _ => rfl) (fun _ => rfl) (fun _ => rfl) rfl
theorem ta : cG (fR n) 14 130 0 (lr n) := fun x => by kernel_rfl
def Cd : Cx := (Cx.bare (fR n)).addSpec 130 (lr n)
theorem DT : Good (Cd n) := Good.fn (pX n) 14 0 (ta n) (fun _ => rfl) rfl
def rl (n : Nat)  : Option (List (ByteArray × fg)) := some [(ByteArray.empty, (0, (0, 0))), ((ByteArray.mk #[80, 85, 83, 72]), (1, ((-9223372036854775808), 9223372036854775807))), ((ByteArray.mk #[68, 82, 79, 80]), (0, (0, 0))), ((ByteArray.mk #[68, 85, 80]), (0, (0, 0))), ((ByteArray.mk #[83, 87, 65, 80]), (0, (0, 0))), ((ByteArray.mk #[84, 87, 79]), (1, (1, 12))), ((ByteArray.mk #[78, 69, 71]), (0, (0, 0))), ((ByteArray.mk #[78, 79, 84]), (0, (0, 0))), ((ByteArray.mk #[66, 79, 84, 72]), (0, (0, 0))), ((ByteArray.mk #[69, 73, 84, 72, 69, 82]), (0, (0, 0))), ((ByteArray.mk #[67, 65, 83, 84]), (0, (0, 0))), ((ByteArray.mk #[76, 79, 65, 68, 76]), (1, (0, 7))), ((ByteArray.mk #[83, 84, 79, 82, 69, 76]), (1, (0, 7))), ((ByteArray.mk #[76, 79, 65, 68, 82]), (1, (0, 7))), ((ByteArray.mk #[83, 84, 79, 82, 69, 82]), (1, (0, 7))), ((ByteArray.mk #[73, 78]), (1, (0, 15))), ((ByteArray.mk #[79, 85, 84]), (1, (0, 15))), ((ByteArray.mk #[71, 69, 84]), (2, (0, 7))), ((ByteArray.mk #[80, 85, 84]), (2, (0, 7))), ((ByteArray.mk #[74, 85, 77, 80]), (1, (0, 199))), ((ByteArray.mk #[66, 82, 65, 78, 67, 72]), (1, (0, 199))), ((ByteArray.mk #[76, 79, 79, 80]), (1, (1, 1000))), ((ByteArray.mk #[78, 69, 88, 84]), (0, (0, 0))), ((ByteArray.mk #[76, 79, 67, 75]), (1, (0, 7))), ((ByteArray.mk #[85, 78, 76, 79, 67, 75]), (1, (0, 7))), ((ByteArray.mk #[69, 78, 68]), (0, (0, 0)))]
def pq : FS := ⟨⟨[], []⟩, ⟨[.val (.arr 26 (.pair .str eB))], []⟩, (List (ByteArray × fg)), fun y => ((y, ()), ()), fun o => o.1.1, fun x => rl n ⟩
theorem w0 : cG (Cd n) 14 174 0 (pq n) := fun x => by kernel_rfl
def Ce : Cx := (Cx.bare (Cd n)).addSpec 174 (pq n)
theorem DU : Good (Ce n) := Good.fn (DT n) 14 0 (w0 n) (fun _ => rfl) rfl
def rV (a0 : Int) : Option (ByteArray × fg) := if (decide (a0 < 1)) then (some (ByteArray.empty, ((-1), (0, 0)))) else (if (decide (a0 > 25)) then (some (ByteArray.empty, ((-1), (0, 0)))) else ((rl n ).bind fun y1 => (if (decide (0 ≤ a0) && decide (a0 < 26)) then (some ((y1.getD a0.toNat (ByteArray.empty, (0, (0, 0)))).1, ((y1.getD a0.toNat (ByteArray.empty, (0, (0, 0)))).2.1, ((y1.getD a0.toNat (ByteArray.empty, (0, (0, 0)))).2.2.1, (y1.getD a0.toNat (ByteArray.empty, (0, (0, 0)))).2.2.2)))) else none)))
def uy : FS := ⟨⟨[.val cq], []⟩, ⟨[.val (.pair .str eB)], []⟩, (ByteArray × fg), fun y => ((y, ()), ()), fun o => o.1.1, fun x => rV n x.1.1⟩
theorem Bb : cG (Ce n) 14 155 0 (uy n) := fun x => by kernel_rfl
def Cf : Cx := (Cx.bare (Ce n)).addSpec 155 (uy n)
theorem DW : Good (Cf n) := Good.fn (DU n) 14 0 (Bb n) (fun _ => rfl) rfl
def dk (a0 : fg) : Option Bool := (rV n a0.1).bind fun y1 => (if (y1.2.1 == 0) then (if (a0.2.1 == 0) then (some (a0.2.2 == 0)) else (some false)) else (if (y1.2.1 == 1) then (if (decide (a0.2.1 ≥ y1.2.2.1)) then (if (decide (a0.2.1 ≤ y1.2.2.2)) then (some (a0.2.2 == 0)) else (some false)) else (some false)) else (if (y1.2.1 == 2) then (if (decide (a0.2.1 ≥ y1.2.2.1)) then (if (decide (a0.2.1 ≤ y1.2.2.2)) then (if (decide (a0.2.2 ≥ y1.2.2.1)) then (some (decide (a0.2.2 ≤ y1.2.2.2))) else (some false)) else (some false)) else (some false)) else (some false))))
def pt : FS := ⟨⟨[.val eB], []⟩, ⟨[.val .bool], []⟩, Bool, fun y => ((y, ()), ()), fun o => o.1.1, fun x => dk n x.1.1⟩
theorem w3 : cG (Cf n) 14 146 0 (pt n) := fun x => by kernel_rfl
def Cg : Cx := (Cx.bare (Cf n)).addSpec 146 (pt n)
theorem DX : Good (Cg n) := Good.fn (DW n) 14 0 (w3 n) (fun _ => rfl) rfl
def ko (a0 : Int) : Option Int := (rV n a0).bind fun y1 => (some y1.2.1)
def rm : FS := ⟨⟨[.val cq], []⟩, ⟨[.val cq], []⟩, Int, fun y => ((y, ()), ()), fun o => o.1.1, fun x => ko n x.1.1⟩
theorem x7 : cG (Cg n) 14 167 0 (rm n) := fun x => by kernel_rfl
def Ch : Cx := (Cx.bare (Cg n)).addSpec 167 (rm n)
theorem DY : Good (Ch n) := Good.fn (DX n) 14 0 (x7 n) (fun _ => rfl) rfl
def pu (n : Nat) (a0 : Int) : Option Int := some (bits .xor .u64 (IntKind.wrap .u64 ((IntKind.wrap .u64 a0) * 2 ^ 1)) (IntKind.wrap .u64 (a0.fdiv (2 ^ 63))))
def n6 : FS := ⟨⟨[.val cq], []⟩, ⟨[.val (.int .u64)], []⟩, Int, fun y => ((y, ()), ()), fun o => o.1.1, fun x => pu n x.1.1⟩
theorem vv : cG (Ch n) 14 175 0 (n6 n) := fun x => by kernel_rfl
def Ci : Cx := (Cx.bare (Ch n)).addSpec 175 (n6 n)
theorem DZ : Good (Ci n) := Good.fn (DY n) 14 0 (vv n) (fun _ => rfl) rfl
def pv (n : Nat) (F : fQ → Option (fQ)) (v4 : (List Int)) (v5 : Int) : Option (fQ) := if (decide (v5 ≥ 128)) then (if (decide ((v4.length + 1) * 1 ≤ 140737488355328) && decide (1 ≤ 1)) then (F ((v4 ++ [(IntKind.wrap .u8 (IntKind.wrap .u64 ((v5.tmod 128) + 128)))]), (IntKind.wrap .u64 (v5.tdiv 128)))) else none) else (some (v4, v5))
def mS : fQ → Option (fQ) := it (fun F => q_ (pv n F)) n
def mT : Loop := ⟨⟨cE 24 0 [(3, .row 5 (.int .u8)), (4, .val (.int .u64))], []⟩, [(.exit 0, ⟨cE 24 0 [(3, .row 5 (.int .u8)), (4, .val (.int .u64))], []⟩)], fQ, fun x => ((U_ u_) x, ()), fun (x : wR) => (x.1.1, x.1.2.1), fQ, fun y => ((U_ u_) y, ()), fun (o : wR) => (o.1.1, o.1.2.1), mS n⟩
def ju (a0 : Int) : Option ByteArray := (pu n a0).bind fun y1 => ((mS n ([], y1)).bind fun y2 => (if (decide ((y2.1.length + 1) * 1 ≤ 140737488355328) && decide (1 ≤ 1)) then (some (ee (y2.1 ++ [(IntKind.wrap .u8 y2.2)]))) else none))
def pw : FS := ⟨⟨[.val cq], []⟩, ⟨[.val .str], []⟩, ByteArray, fun y => ((y, ()), ()), fun o => o.1.1, fun x => ju n x.1.1⟩
theorem tb : ∀ F x, cU (Ci n) 14 168 0 3 (mT n) F x = q_ (pv n F) x := fun F x => by kernel_rfl
def i0 : Cx := Cx.addLoop (Ci n) 168 3 (mT n)
theorem tc : Good (i0 n) := Good.loop (DZ n) 14 0 (by kernel_rfl) (tb n) n (fun _ => rfl) (fun _ => rfl) (fun _ => rfl) rfl
theorem w4 : cG (i0 n) 14 168 0 (pw n) := fun x => by kernel_rfl
def Cj : Cx := (Cx.bare (i0 n)).addSpec 168 (pw n)
theorem D0 : Good (Cj n) := Good.fn (tc n) 14 0 (w4 n) (fun _ => rfl) rfl
def px (a0 : fg) : Option ByteArray := (dk n (a0.1, (a0.2.1, a0.2.2))).bind fun y1 => (if (!y1) then (some (ByteArray.mk #[])) else ((ko n a0.1).bind fun y2 => (if (decide (0 < y2)) then ((ju n a0.2.1).bind fun y3 => (if decide ((ee ([(IntKind.wrap .u8 a0.1)])).size + y3.size ≤ 140737488351232) then ((ko n a0.1).bind fun y4 => (if (decide (1 < y4)) then ((ju n a0.2.2).bind fun y5 => (if decide (((ee ([(IntKind.wrap .u8 a0.1)])) ++ y3).size + y5.size ≤ 140737488351232) then (some (((ee ([(IntKind.wrap .u8 a0.1)])) ++ y3) ++ y5)) else none)) else (some ((ee ([(IntKind.wrap .u8 a0.1)])) ++ y3)))) else none)) else ((ko n a0.1).bind fun y6 => (if (decide (1 < y6)) then ((ju n a0.2.2).bind fun y7 => (if decide ((ee ([(IntKind.wrap .u8 a0.1)])).size + y7.size ≤ 140737488351232) then (some ((ee ([(IntKind.wrap .u8 a0.1)])) ++ y7)) else none)) else (some (ee ([(IntKind.wrap .u8 a0.1)]))))))))
def n7 : FS := ⟨⟨[.val eB], []⟩, ⟨[.val .str], []⟩, ByteArray, fun y => ((y, ()), ()), fun o => o.1.1, fun x => px n x.1.1⟩
theorem vw : cG (Cj n) 14 148 0 (n7 n) := fun x => by kernel_rfl
def Ck : Cx := (Cx.bare (Cj n)).addSpec 148 (n7 n)
theorem D1 : Good (Ck n) := Good.fn (D0 n) 14 0 (vw n) (fun _ => rfl) rfl
def rn (F : (ByteArray × cw × Int × Int) → Option ((kM ⊕ kM))) (v1 : ByteArray) (v2 : cw) (v3 v4 : Int) : Option ((kM ⊕ kM)) := if (decide (v4 < v3)) then (if (decide (0 ≤ v4) && decide (v4 < (v2.length : Int))) then ((px n ((v2.getD v4.toNat (0, (0, 0))).1, ((v2.getD v4.toNat (0, (0, 0))).2.1, (v2.getD v4.toNat (0, (0, 0))).2.2))).bind fun y5 => (if (y5.toList == (ByteArray.mk #[]).toList) then (some (.inl (((ByteArray.mk #[]), ()), ()))) else (if decide (v1.size + y5.size ≤ 140737488351232) then (F ((v1 ++ y5), v2, v3, (wrap .i64 (v4 + 1)))) else none))) else none) else (some (.inr ((v1, ()), ())))
def n8 : (ByteArray × cw × Int × Int) → Option ((kM ⊕ kM)) := it (fun F => (dK q_) (rn n F)) n
def n9 : Loop := ⟨⟨cE 25 0 [(3, .val .str), (10, .val dm), (11, .val cq), (12, .val cq)], []⟩, [(.ret, ⟨cE 25 0 [(2, .val .str)], []⟩), (.exit 0, ⟨cE 25 0 [(3, .val .str)], []⟩)], (ByteArray × cw × Int × Int), fun x => ((cS (U_ u_)) x, ()), fun (x : ((ByteArray × cw × Int × Int × Unit) × Unit)) => (cS (U_ k_)) x.1, (kM ⊕ kM), fun y => y, fun y => y, n8 n⟩
def sP (a0 : cw) : Option ByteArray := if (decide ((a0.length : Int) > 200)) then (some (ByteArray.mk #[])) else ((n8 n ((ByteArray.mk #[]), a0, (a0.length : Int), 0)).bind fun y6 => ((Sum.elim (fun (z7 : kM) => (some z7.1.1)) (fun (z8 : kM) => (some z8.1.1))) y6))
def rq : FS := ⟨⟨[.val dm], []⟩, ⟨[.val .str], []⟩, ByteArray, fun y => ((y, ()), ()), fun o => o.1.1, fun x => sP n x.1.1⟩
theorem uz : ∀ F x, cU (Ck n) 14 131 0 5 (n9 n) F x = (dK q_) (rn n F) x := fun F x => by kernel_rfl
def jX : Cx := Cx.addLoop (Ck n) 131 5 (n9 n)
theorem uA : Good (jX n) := Good.loop (D1 n) 14 0 (by kernel_rfl) (uz n) n (fun _ => rfl) (fun _ => rfl) (fun _ => rfl) rfl
theorem x8 : cG (jX n) 14 131 0 (rq n) := fun x => by kernel_rfl
def Cl : Cx := (Cx.bare (jX n)).addSpec 131 (rq n)
theorem D2 : Good (Cl n) := Good.fn (uA n) 14 0 (x8 n) (fun _ => rfl) rfl
def iN (a0 : pS) (a1 : nY) : Option Bool := (gB n (a0.1, (a0.2.1, (a0.2.2.1, (a0.2.2.2.1, (a0.2.2.2.2.1, (a0.2.2.2.2.2.1, a0.2.2.2.2.2.2))))))).bind fun y1 => (if (!(Sh.eqT (.arr 4 cq) y1 [a0.1, a0.2.1, a0.2.2.1, a0.2.2.2.1])) then (some false) else (if ((a0.2.2.2.2.2.2.length : Int) == 0) then (some false) else ((iZ n a0.2.2.2.2.1 (a1.2.2.2.2.2.1.length : Int)).bind fun y2 => (if y2 then ((iZ n a0.2.2.2.2.2.1 (a1.2.2.2.2.1.length : Int)).bind fun y3 => (if y3 then ((sP n a0.2.2.2.2.2.2).bind fun y4 => (some (!(y4.toList == (ByteArray.mk #[]).toList)))) else (some false))) else (some false)))))
def gS : FS := ⟨⟨[.val uo, .val sK], []⟩, ⟨[.val .bool], []⟩, Bool, fun y => ((y, ()), ()), fun o => o.1.1, fun x => iN n x.1.1 x.1.2.1⟩
theorem oa : cG (Cl n) 14 95 0 (gS n) := fun x => by kernel_rfl
def Cm : Cx := (Cx.bare (Cl n)).addSpec 95 (gS n)
theorem D3 : Good (Cm n) := Good.fn (D2 n) 14 0 (oa n) (fun _ => rfl) rfl
def x9 (n : Nat) (F : zt → Option (wV)) (v8 : (List (List Int))) (v9 v10 v11 v12 v13 v14 : Int) (v15 : (List Int)) (v16 : (List (List Int))) (v17 : cr) : Option (wV) := if (decide (v10 < v9)) then (if (decide (0 ≤ v10) && decide (v10 < (v8.length : Int))) then (if ((((v8.getD v10.toNat []).length : Nat) : Int) == 0) then (some (.inl ((false, ()), ((v11, v12, v13, v14, v15, v16, v17, ()), ())))) else (if (decide ((((v8.getD v10.toNat []).length : Nat) : Int) > 8)) then (some (.inl ((false, ()), ((v11, v12, v13, v14, v15, v16, v17, ()), ())))) else (F (v8, v9, (wrap .i64 (v10 + 1)), v11, v12, v13, v14, v15, v16, v17)))) else none) else (some (.inr ((), ((v11, v12, v13, v14, v15, v16, v17, ()), ()))))
def uB : zt → Option (wV) := it (fun F => (d8 q_) (x9 n F)) n
def uC : Loop := ⟨⟨cE 101 0 [(1, .obj 0), (61, .val dA), (62, .val cq), (63, .val cq)], [mH]⟩, [(.ret, ⟨cE 101 0 [(2, .val .bool)], [mH]⟩), (.exit 0, ⟨cE 101 0 [(1, .obj 0)], [mH]⟩)], zt, fun x => ((cS v_) x, (dp (cS u_)) x.2.2.2, ()), fun (x : (((List (List Int)) × Int × Int × Unit) × (kZ × Unit))) => (er j_) x.1 ((dp (cS k_)) x.2.1), wV, fun y => y, fun y => y, uB n⟩
def ya (n : Nat) (F : zo → Option (((eC × jT) ⊕ rS))) (v16 : cr) (v17 v18 : Int) (v19 : (List Int)) (v20 v21 v22 v23 v24 v25 : Int) (v26 : (List Int)) (v27 : (List (List Int))) (v28 : cr) (v29 : (List Bool)) : Option (((eC × jT) ⊕ rS)) := if (decide (v21 < v20)) then (if (decide (0 ≤ v21) && decide (v21 < (v19.length : Int))) then (if (decide (0 ≤ (v19.getD v21.toNat 0)) && decide ((v19.getD v21.toNat 0) < 16)) then (if (v29.getD ((v19.getD v21.toNat 0)).toNat false) then (some (.inl ((false, ()), ((v22, v23, v24, v25, v26, v27, v28, ()), (v29, ()), ())))) else (if (decide (0 ≤ (v19.getD v21.toNat 0)) && decide ((v19.getD v21.toNat 0) < 16)) then (F (v16, v17, v18, v19, v20, (wrap .i64 (v21 + 1)), v22, v23, v24, v25, v26, v27, v28, (v29.set ((v19.getD v21.toNat 0)).toNat true))) else none)) else none) else none) else (some (.inr ((v16, v17, v18, ()), ((v22, v23, v24, v25, v26, v27, v28, ()), (v29, ()), ()))))
def uD : zo → Option (((eC × jT) ⊕ rS)) := it (fun F => (d8 (dW q_)) (ya n F)) n
def uE : Loop := ⟨⟨cE 101 0 [(1, .obj 0), (7, .obj 1), (77, .val dr), (78, .val cq), (79, .val cq), (88, .val cJ), (89, .val cq), (90, .val cq)], [mH, wb]⟩, [(.ret, ⟨cE 101 0 [(2, .val .bool)], [mH, wb]⟩), (.exit 4, ⟨cE 101 0 [(1, .obj 0), (7, .obj 1), (77, .val dr), (78, .val cq), (79, .val cq)], [mH, wb]⟩)], zo, fun x => ((dp (U_ v_)) x, (dp (cS v_)) x.2.2.2.2.2.2, (x.2.2.2.2.2.2.2.2.2.2.2.2.2, ()), ()), fun (x : ((cr × Int × Int × (List Int) × Int × Int × Unit) × jT)) => (jR (J_ j_)) x.1 ((jR (er j_)) x.2.1 x.2.2.1.1), ((eC × jT) ⊕ rS), fun y => y, fun y => y, uD n⟩
def yb (F : zp → Option (wY)) (v4 : cr) (v5 v6 v7 v8 v9 v10 : Int) (v11 : (List Int)) (v12 : (List (List Int))) (v13 : cr) (v14 : (List Bool)) : Option (wY) := if (decide (v6 < v5)) then (if (decide (0 ≤ v6) && decide (v6 < (v4.length : Int))) then ((iN n ((v4.getD v6.toNat (0, (0, (0, (0, ([], ([], []))))))).1, ((v4.getD v6.toNat (0, (0, (0, (0, ([], ([], []))))))).2.1, ((v4.getD v6.toNat (0, (0, (0, (0, ([], ([], []))))))).2.2.1, ((v4.getD v6.toNat (0, (0, (0, (0, ([], ([], []))))))).2.2.2.1, ((v4.getD v6.toNat (0, (0, (0, (0, ([], ([], []))))))).2.2.2.2.1, ((v4.getD v6.toNat (0, (0, (0, (0, ([], ([], []))))))).2.2.2.2.2.1, (v4.getD v6.toNat (0, (0, (0, (0, ([], ([], []))))))).2.2.2.2.2.2)))))) (v7, (v8, (v9, (v10, (v11, (v12, v13))))))).bind fun y15 => (if (!y15) then (some (.inl ((false, ()), ((v7, v8, v9, v10, v11, v12, v13, ()), (v14, ()), ())))) else ((uD n (v4, v5, v6, (v4.getD v6.toNat (0, (0, (0, (0, ([], ([], []))))))).2.2.2.2.2.1, (((v4.getD v6.toNat (0, (0, (0, (0, ([], ([], []))))))).2.2.2.2.2.1.length : Nat) : Int), 0, v7, v8, v9, v10, v11, v12, v13, v14)).bind fun y16 => ((Sum.elim (fun (z17 : (eC × jT)) => (some (.inl ((z17.1.1, ()), ((z17.2.1.1, z17.2.1.2.1, z17.2.1.2.2.1, z17.2.1.2.2.2.1, z17.2.1.2.2.2.2.1, z17.2.1.2.2.2.2.2.1, z17.2.1.2.2.2.2.2.2.1, ()), (z17.2.2.1.1, ()), ()))))) (fun (z18 : rS) => (F (z18.1.1, z18.1.2.1, (wrap .i64 (z18.1.2.2.1 + 1)), z18.2.1.1, z18.2.1.2.1, z18.2.1.2.2.1, z18.2.1.2.2.2.1, z18.2.1.2.2.2.2.1, z18.2.1.2.2.2.2.2.1, z18.2.1.2.2.2.2.2.2.1, z18.2.2.1.1)))) y16)))) else none) else (some (.inr ((), ((v7, v8, v9, v10, v11, v12, v13, ()), (v14, ()), ()))))
def uF : zp → Option (wY) := it (fun F => (d8 (C_ q_)) (yb n F)) n
def uG : Loop := ⟨⟨cE 101 0 [(1, .obj 0), (7, .obj 1), (77, .val dr), (78, .val cq), (79, .val cq)], [mH, wb]⟩, [(.ret, ⟨cE 101 0 [(2, .val .bool)], [mH, wb]⟩), (.exit 2, ⟨cE 101 0 [], [mH, wb]⟩)], zp, fun x => ((cS v_) x, (dp (cS v_)) x.2.2.2, (x.2.2.2.2.2.2.2.2.2.2, ()), ()), fun (x : rS) => (er j_) x.1 ((jR (er j_)) x.2.1 x.2.2.1.1), wY, fun y => y, fun y => y, uF n⟩
def w5 (a0 : nY) : Option Bool := if (!((a0.1 == (if (if 100 < a0.1 then 100 else a0.1) > 0 then (if 100 < a0.1 then 100 else a0.1) else 0)) && ((a0.2.1 == (if (if 100 < a0.2.1 then 100 else a0.2.1) > 1 then (if 100 < a0.2.1 then 100 else a0.2.1) else 1)) && ((a0.2.2.1 == (if (if 100 < a0.2.2.1 then 100 else a0.2.2.1) > 1 then (if 100 < a0.2.2.1 then 100 else a0.2.2.1) else 1)) && ((a0.2.2.2.1 == (if (if 16 < a0.2.2.2.1 then 16 else a0.2.2.2.1) > 0 then (if 16 < a0.2.2.2.1 then 16 else a0.2.2.2.1) else 0)) && (((a0.2.2.2.2.1.length : Int) == (if 16 < (a0.2.2.2.2.1.length : Int) then 16 else (a0.2.2.2.2.1.length : Int))) && (((a0.2.2.2.2.2.1.length : Int) == (if 8 < (a0.2.2.2.2.2.1.length : Int) then 8 else (a0.2.2.2.2.2.1.length : Int))) && ((a0.2.2.2.2.2.2.length : Int) == (if (if 8 < (a0.2.2.2.2.2.2.length : Int) then 8 else (a0.2.2.2.2.2.2.length : Int)) > 1 then (if 8 < (a0.2.2.2.2.2.2.length : Int) then 8 else (a0.2.2.2.2.2.2.length : Int)) else 1))))))))) then (some false) else ((uB n (a0.2.2.2.2.2.1, (a0.2.2.2.2.2.1.length : Int), 0, a0.1, a0.2.1, a0.2.2.1, a0.2.2.2.1, a0.2.2.2.2.1, a0.2.2.2.2.2.1, a0.2.2.2.2.2.2)).bind fun y1 => ((Sum.elim (fun (z2 : (eC × (kZ × Unit))) => (some z2.1.1)) (fun (z3 : (Unit × (kZ × Unit))) => ((uF n (z3.2.1.2.2.2.2.2.2.1, (z3.2.1.2.2.2.2.2.2.1.length : Int), 0, z3.2.1.1, z3.2.1.2.1, z3.2.1.2.2.1, z3.2.1.2.2.2.1, z3.2.1.2.2.2.2.1, z3.2.1.2.2.2.2.2.1, z3.2.1.2.2.2.2.2.2.1, [false, false, false, false, false, false, false, false, false, false, false, false, false, false, false, false])).bind fun y19 => ((Sum.elim (fun (z20 : (eC × jT)) => (some z20.1.1)) (fun (z21 : (Unit × jT)) => (some true))) y19)))) y1))
def yc : FS := ⟨⟨[.val sK], []⟩, ⟨[.val .bool], []⟩, Bool, fun y => ((y, ()), ()), fun o => o.1.1, fun x => w5 n x.1.1⟩
theorem zI : ∀ F x, cU (Cm n) 14 49 0 6 (uC n) F x = (d8 q_) (x9 n F) x := fun F x => by kernel_rfl
def pY : Cx := Cx.addLoop (Cm n) 49 6 (uC n)
theorem zJ : Good (pY n) := Good.loop (D3 n) 14 0 (by kernel_rfl) (zI n) n (fun _ => rfl) (fun _ => rfl) (fun _ => rfl) rfl
theorem zK : ∀ F x, cU (pY n) 14 49 0 18 (uE n) F x = (d8 (dW q_)) (ya n F) x := fun F x => by kernel_rfl
def pZ : Cx := Cx.addLoop (pY n) 49 18 (uE n)
theorem zL : Good (pZ n) := Good.loop (zJ n) 14 0 (by kernel_rfl) (zK n) n (fun _ => rfl) (fun _ => rfl) (fun _ => rfl) rfl
theorem zM : ∀ F x, cU (pZ n) 14 49 0 13 (uG n) F x = (d8 (C_ q_)) (yb n F) x := fun F x => by kernel_rfl
def p6 : Cx := Cx.addLoop (pZ n) 49 13 (uG n)
theorem zN : Good (p6 n) := Good.loop (zL n) 14 0 (by kernel_rfl) (zM n) n (fun _ => rfl) (fun _ => rfl) (fun _ => rfl) rfl
theorem Dg : cG (p6 n) 14 49 0 (yc n) := fun x => by kernel_rfl
def Cn : Cx := (Cx.bare (p6 n)).addSpec 49 (yc n)
theorem D4 : Good (Cn n) := Good.fn (zN n) 14 0 (Dg n) (fun _ => rfl) rfl
end Go.Proofs.Dk
