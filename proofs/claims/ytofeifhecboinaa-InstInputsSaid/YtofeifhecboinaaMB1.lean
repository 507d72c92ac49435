/- A part of the proofs: What is appended. -/
import Derived.Test.YtofeifhecboinaaMB0
import Derived.Laws.BytesArg
import Derived.Laws.IdiomStrings
import Derived.Laws.AppendOwn
import Derived.MapKept
import Derived.Tactics
import Derived.Orders
import Derived.Scope
set_option linter.unusedVariables false
set_option linter.unusedSimpArgs false
noncomputable section
namespace Go.Proofs.Dk
open Go Go.RowKit
section
variable {P : Program} {I : In} {w w' : World} {T : List DV} {a : Act} {H : Heap} {α : Type}
theorem uL {s : Sh} {d : DV} {v : Value} {ys : List s.T} (hH : HR I w H) (hd : VR I w d v) (h : d4 H s d = some ys) :
  ∃ A c, v = .slice A ys.length c ∧ ∃ news : List Value, (Sh.arr ys.length s).K I.R w ys news ∧ (A = none → ys = []) ∧ ∀ ad, A = some ad → ∀ j u, news[j]? = some u → w.cell? (ad.add j) = some u := by
 have fromK : ∀ {xs : List s.T} {v : Value}, (Sh.sl s).K I.R w xs [v] → ∃ A c, v = .slice A xs.length c ∧ ∃ news : List Value, (Sh.arr xs.length s).K I.R w xs news ∧ (A = none → xs = []) ∧ ∀ ad, A = some ad → ∀ j u, news[j]? = some u → w.cell? (ad.add j) = some u := by
  rintro xs v ⟨A, cap, e1, e2, e3⟩
  simp only [bK, bn] at e1
  subst e1
  refine ⟨A, cap, rfl, ?_⟩
  by_cases hne : xs = []
  ·subst hne
   exact ⟨[], ⟨rfl, by simp, fun i x hx => by simp at hx⟩, fun _ => rfl, fun ad _ j u hu => by simp at hu⟩
  ·obtain ⟨ad, rfl, g1, g2, g3⟩ := e3 hne
   have hall : ∀ i, i < xs.length → ∃ c : List Value, c.length = s.sz ∧ (∀ x, xs[i]? = some x → s.K I.R w x c) ∧ ∀ j u, c[j]? = some u → w.cell? (ad.add (i * s.sz + j)) = some u := by
    intro i hi
    obtain ⟨c, m1, m2, m3⟩ := g3 i _ (aC hi)
    refine ⟨c, m1, fun x hx => ?_, m3⟩
    rw [aC hi] at hx
    simp only [aa] at hx
    subst hx
    exact m2
   obtain ⟨X, hX⟩ := Go.Deep.choose_lt hall
   have hlen : ∀ n, n ≤ xs.length → ((List.range n).flatMap X).length = n * s.sz := by
    intro n
    induction n with
    | zero => intro _; simp
    | succ n ih =>
     intro hn
     rw [List.range_succ, List.flatMap_append, aS, ih (by omega)]
     simp [(hX n (by omega)).1, aG]
   have hget : ∀ n, n ≤ xs.length → ∀ i j, i < n → j < s.sz → ((List.range n).flatMap X)[i * s.sz + j]? = (X i)[j]? := by
    intro n
    induction n with
    | zero => intro _ i j hi; omega
    | succ n ih =>
     intro hn i j hi hj
     rw [List.range_succ, List.flatMap_append]
     have hl := hlen n (by omega)
     rcases aq i n with h1 | h1
     ·have : i * s.sz + s.sz ≤ n * s.sz := by rw [← aG]; exact aL _ h1
      rw [aV (by omega)]
      exact ih (by omega) i j h1 hj
     ·have : i = n := by omega
      subst this
      rw [aX (by omega), hl]
      simp
   refine ⟨(List.range xs.length).flatMap X, ⟨rfl, hlen _ (ak _), fun i x hx => ?_⟩, fun h => by (cases h), fun ad' h j u hu => ?_⟩
   ·have hi := (List.getElem?_eq_some_iff.1 hx).1
    have : (((List.range xs.length).flatMap X).drop (i * s.sz)).take s.sz = X i := by
     apply cg
     intro j
     rw [aT]
     split
     ·rename_i hj
      rw [aU]
      exact hget _ (ak _) i j hi hj
     ·rw [ch (by rw [(hX i hi).1]; omega)]
    rw [this]
    exact (hX i hi).2.1 x hx
   ·simp only [aa] at h
    subst h
    have hj := (List.getElem?_eq_some_iff.1 hu).1
    rw [hlen _ (ak _)] at hj
    have hz : 0 < s.sz := by
     rcases bI s.sz with h | h
     ·rw [h] at hj; omega
     ·exact h
    have hq : j / s.sz < xs.length := by rw [Nat.div_lt_iff_lt_mul hz]; exact hj
    have hm : j % s.sz < s.sz := Nat.mod_lt _ hz
    have hjq : j / s.sz * s.sz + j % s.sz = j := by rw [Nat.mul_comm]; exact Nat.div_add_mod j s.sz
    have := (hX (j / s.sz) hq).2.2 (j % s.sz) u (by rw [← hget _ (ak _) _ _ hq hm, hjq]; exact hu)
    rw [hjq] at this
    exact this
 unfold d4 at h
 split at h
 ·rename_i s' xs
  cases hd with | vs _ _ _ hk =>
  split at h
  ·rename_i hs hq
   cases hs
   simp only [aa] at h
   subst h
   exact fromK hk
  ·cases h
 ·rename_i n c
  obtain rfl := hd.sc_eq
  split at h
  ·rename_i hn
   subst hn
   simp only [aa] at h
   subst h
   exact ⟨none, c, rfl, [], ⟨rfl, by simp, fun i x hx => by simp at hx⟩, fun _ => rfl, fun ad h => by cases h⟩
  ·cases h
 ·rename_i n
  cases hd with | rw _ sz v hi hs =>
  split at h
  ·rename_i E s' xs hrow
   split at h
   ·rename_i hs' hq
    cases hs'
    simp only [aa] at h
    subst h
    obtain ⟨A, l, c, rfl⟩ := hs
    obtain ⟨h1, rfl, h3, h4⟩ := gq hH hrow hi
    refine ⟨A, c, rfl, ?_⟩
    rcases bI xs.length with h0 | h0
    ·have : xs = [] := bb h0
     subst this
     exact ⟨[], ⟨rfl, by simp, fun i x hx => by simp at hx⟩, fun _ => rfl, fun ad _ j u hu => by simp at hu⟩
    ·obtain ⟨b, rfl⟩ := h4 h0
     obtain ⟨_, _, cs, k1, k2, k3⟩ := jy hH hrow hi
     refine ⟨cs, k1, fun h => by (cases h), fun ad had j u hu => ?_⟩
     simp only [aa] at had
     subst had
     rw [Addr.add_mid, bD]
     exact k3 j u hu
   ·cases h
  ·cases h
 ·rename_i n o l
  cases hd with | sl _ _ _ sz A A' len cap cap' hi hl h0' h1' hc' =>
  split at h
  ·rename_i E s' xs hrow
   split at h
   ·rename_i hs' hq
    cases hs'
    simp only [aa] at h
    subst h
    obtain ⟨h1, rfl, h3, h4⟩ := gq hH hrow hi
    have hlen : ((xs.drop o).take l).length = l := by simp; omega
    refine ⟨A', cap', by rw [hlen], ?_⟩
    rcases bI l with h0 | h0
    ·subst h0
     simp only [List.take_zero]
     exact ⟨[], ⟨rfl, by simp, fun i x hx => by simp at hx⟩, fun _ => by trivial, fun ad _ j u hu => by simp at hu⟩
    ·obtain ⟨b, rfl, rfl⟩ := h1' h0
     obtain ⟨_, _, cs, k1, k2, k3⟩ := jy hH hrow hi
     subst h1
     have hcl := k1.2.1
     refine ⟨(cs.drop (o * s.sz)).take (l * s.sz), ⟨by rw [hlen], ?_, fun i x hx => ?_⟩, fun h => by (cases h), fun ad had j u hu => ?_⟩
     ·have : o * s.sz + l * s.sz ≤ xs.length * s.sz := by rw [← bk]; exact aL _ hl
      rw [hlen]
      simp
      omega
     ·have hx2 : xs[o + i]? = some x ∧ i < l := by
       rw [aT] at hx
       split at hx
       ·rename_i hil
        rw [aU] at hx
        exact ⟨hx, hil⟩
       ·cases hx
      have := k1.2.2 _ x hx2.1
      have hle : i * s.sz + s.sz ≤ l * s.sz := by rw [← aG]; exact aL _ hx2.2
      have e1 : (((cs.drop (o * s.sz)).take (l * s.sz)).drop (i * s.sz)).take s.sz = (cs.drop ((o + i) * s.sz)).take s.sz := by
       rw [List.drop_take, List.take_take, bu, bk]
       congr 1
       omega
      rw [e1]
      exact this
     ·simp only [aa] at had
      subst had
      rw [Addr.add_mid]
      refine k3 _ u ?_
      rw [aT] at hu
      split at hu
      ·rw [aU] at hu
       exact hu
      ·cases hu
   ·cases h
  ·cases h
 ·cases h
theorem sJ {base : Nat} {t ty e : TypeId} {i : TypeInfo} {size c : Nat} (ht : P.underlying t = some (.slice e)) (hi : P.info? e = some i) (v : Value) (n : Nat) (xs : List Value) (hown : w.ownsRow base e size v n xs) :
  (Builtin.append_ #[t, t] ty #[v, .slice none 0 c]).run P w = .ok v w := by
 rcases hown.2 with ⟨rfl, rfl⟩ | ⟨g, cap, cur, rfl, _, _, hnc, _⟩
 ·simp [Builtin.append_, run_underlying ht, sizeOf, typeInfo, hi, Builtin.lenOf, Builtin.firstCells]
 ·simp [Builtin.append_, run_underlying ht, sizeOf, typeInfo, hi, Builtin.lenOf, Builtin.firstCells, hnc, storeCells]
theorem mz {t ty e : TypeId} {s : Sh} {xs ys : List s.T} {v : Value} {cs : List Value} {d : DV} {u : Value} (hH : HR I w H) (hz : gB P e s = true) (hu : P.underlying t = some (.slice e)) (hown : w.ownsRow 0 e s.sz v xs.length cs) (hk : (Sh.arr xs.length s).K I.R w xs cs)
  (hd : VR I w d u) (hy : d4 H s d = some ys) (hb : (xs.length + ys.length) * dZ P e ≤ 140737488355328) (h1 : 1 ≤ dZ P e) :
  ∃ v' w' cs', (Builtin.append_ #[t, t] ty #[v, u]).run P w = .ok v' w' ∧ w'.ownsRow 0 e s.sz v' (xs ++ ys).length cs' ∧ w.grownBy w' v.ownBlock ∧ (v'.ownBlock = v.ownBlock ∨ v'.ownBlock = some w.heap.size) ∧ (Sh.arr (xs ++ ys).length s).K I.R w (xs ++ ys) cs' := by
 obtain ⟨i, z, hi, hz0, hsz, hp, hkz⟩ := tn (w := w) (R := I.R) hz
 obtain ⟨A, c, rfl, news, k1, k2, k3⟩ := uL hH hd hy
 have hbt : dZ P e = i.bytes := by simp [dZ, hi]
 rw [hbt] at hb h1
 have hcat : (Sh.arr (xs ++ ys).length s).K I.R w (xs ++ ys) (cs ++ news) := by
  refine ⟨rfl, by simp [hk.2.1, k1.2.1, bk], fun i x hx => ?_⟩
  rcases aq i xs.length with h | h
  ·rw [aV h] at hx
   have := hk.2.2 i x hx
   have hle : i * s.sz + s.sz ≤ xs.length * s.sz := by rw [← aG]; exact aL _ h
   rw [bJ (by rw [hk.2.1]; omega), bl (by simp [hk.2.1]; omega)]
   exact this
  ·rw [aX h] at hx
   have := k1.2.2 _ x hx
   have e1 : i * s.sz = cs.length + (i - xs.length) * s.sz := by
    rw [hk.2.1, ← bk]
    congr 1
    omega
   rw [e1, List.drop_length_add_append]
   exact this
 cases A with
 | none =>
  have : ys = [] := k2 rfl
  subst this
  refine ⟨v, w, cs, sJ hu hi v xs.length cs hown, by simpa using hown, ⟨rfl, rfl, rfl, ak _, fun _ _ _ => rfl⟩, .inl rfl, by rw [aE]; exact hk⟩
 | some ad =>
  have hzs : z.cells.size = s.sz := by simpa using Sh.K_len hkz
  have h63 : xs.length + ys.length ≤ maxLen := by
   have : (xs.length + ys.length) * 1 ≤ (xs.length + ys.length) * i.bytes := Nat.mul_le_mul_left _ h1
   simp only [maxLen]
   omega
  obtain ⟨v', w', g1, g2, g3, _, g5⟩ := run_append_own_at (P := P) w 0 t ty e i z s.sz i.bytes hu hi hz0 hsz rfl hzs hp v xs.length cs hown ad ys.length c news k1.2.1 (k3 ad rfl) (Sh.K_one k1) h63 hb (az _)
  exact ⟨v', w', cs ++ news, g1, by simpa using g2, g3, g5, hcat⟩
theorem Ct {n sz : Nat} {v v' : Value} {E : TypeId} {s : Sh} {xs : List s.T} {cs : List Value} (hH : HR I w H) (h0 : I.ι n = some (.row sz v)) (hg : w.grownBy w' v.ownBlock) (hv : v'.ownBlock = v.ownBlock ∨ v'.ownBlock = some w.heap.size) (hown : w'.ownsRow 0 E s.sz v' xs.length cs) (hk : (Sh.arr xs.length s).K I.R w xs cs) :
  HR (I.put n (.row s.sz v')) w' ((H.sub n .none).set n (some (.row E s xs))) ∧ Ext I w (I.put n (.row s.sz v')) w' ∧ But n .none I (I.put n (.row s.sz v')) w w' := by
 have hlt : ∀ b, v'.ownBlock = some b → b < w'.heap.size := by
  intro b hb
  rcases hown.2 with ⟨rfl, _⟩ | ⟨g, cap, cur, rfl, _, hh, _⟩
  ·cases hb
  ·simp only [Value.ownBlock, aa] at hb
   subst hb
   exact (Array.getElem?_eq_some_iff.1 hh).1
 have hkeep : Keeps I.R (I.put n (.row s.sz v')).R w w' := ⟨fun _ h => h, fun b hb => hg.block b (hH.rlt b hb) (fun e => (hH.lt n _ b h0 (by simp [Ent.blk, ← e])).2 hb)⟩
 have hbut : But n .none I (I.put n (.row s.sz v')) w w' := by
  refine ⟨hkeep, fun m b h => ?_, fun m sz' u hm h => by rw [dc hm]; exact h, fun s xs h => by cases h⟩
  rw [dc]
  ·exact h
  ·rintro rfl; rw [h0] at h; cases h
 refine ⟨HR.of (fun m b h => ?_) (fun m h => ?_) (fun m e b h hb => ?_) (fun m m' e e' b h h' hb hb' => ?_) (fun b h => ?_), ⟨hbut.obj, fun _ h => h, fun b hb hn => hg.block b hb (fun e => hn n _ h0 (by simp [Ent.blk, ← e])), fun m e b h hb => ?_, fun b h => .inl h, hg.size, hg.os, hg.tape, hg.output⟩, hbut⟩
 ·by_cases hm : m = n
  ·subst hm
   rw [Heap.set_same] at h
   simp only [aa] at h
   subst h
   exact ⟨v', cs, dg, hown, Sh.K_keep hkeep hk⟩
  ·rw [ee hm] at h
   simp only [Heap.sub, hm, ao] at h
   split at h
   ·rename_i b0 hb0
    simp only [aa] at h
    subst h
    have hother : ∀ e g, I.ι m = some e → e.blk = some g → w'.heap[g]? = w.heap[g]? := fun e g h1 h2 => hg.block g (hH.lt m e g h1 h2).1 (fun e3 => hm (hH.inj m n e _ g h1 h0 h2 (by simp [Ent.blk, ← e3])))
    cases b0 with
    | obj cs0 =>
     obtain ⟨b, c, t, k1, k2, k3⟩ := hH.obj m cs0 hb0
     exact ⟨b, c, t, by rw [dc hm]; exact k1, (hother _ b k1 rfl).trans k2, CR.sub hbut k3⟩
    | row E' s' xs' =>
     obtain ⟨u, cs', k1, k2, k3⟩ := hH.row m E' s' xs' hb0
     exact ⟨u, cs', by rw [dc hm]; exact k1, nQ k2 (fun g hg' => hother _ g k1 hg'), Sh.K_keep hkeep k3⟩
    | mp ks vs =>
     obtain ⟨b, es, cl, val, k1, k2, k3, k4⟩ := hH.mp m ks vs hb0
     refine ⟨b, es, cl, val, by rw [dc hm]; exact k1, (hother _ b k1 rfl).trans k2, k3.map (gW ks vs), fun j d hd => ?_⟩
     rw [gW] at hd
     obtain ⟨d0, h0', rfl⟩ := Option.map_eq_some_iff.1 hd
     exact VR.sub hbut (k4 j d0 h0')
   ·cases h
 ·by_cases hm : m = n
  ·subst hm; rw [Heap.set_same] at h; cases h
  ·rw [ee hm] at h
   rw [dc hm]
   simp only [Heap.sub, hm, ao] at h
   split at h
   ·cases h
   ·rename_i hb0
    exact hH.dom m hb0
 ·by_cases hm : m = n
  ·subst hm
   rw [dg] at h
   simp only [aa] at h
   subst h
   refine ⟨hlt b hb, fun hR => ?_⟩
   rcases hv with hv | hv
   ·exact (hH.lt m _ b h0 (by simp only [Ent.blk] at hb ⊢; rw [← hv]; exact hb)).2 hR
   ·have := hH.rlt b hR
    simp only [Ent.blk] at hb
    rw [hv] at hb
    simp only [aa] at hb
    omega
  ·rw [dc hm] at h
   obtain ⟨k1, k2⟩ := hH.lt m e b h hb
   exact ⟨bc k1 hg.size, k2⟩
 ·have key : ∀ m e b, m ≠ n → I.ι m = some e → e.blk = some b → v'.ownBlock = some b → False := by
   intro m e b hm h1 h2 h3
   rcases hv with hv | hv
   ·exact hm (hH.inj m n e _ b h1 h0 h2 (by simp only [Ent.blk]; rw [← hv]; exact h3))
   ·have := (hH.lt m e b h1 h2).1
    rw [hv] at h3
    simp only [aa] at h3
    omega
  by_cases hm : m = n
  ·by_cases hm' : m' = n
   ·rw [hm, hm']
   ·exfalso
    subst hm
    rw [dg] at h
    rw [dc hm'] at h'
    simp only [aa] at h
    subst h
    exact key m' e' b hm' h' hb' hb
  ·by_cases hm' : m' = n
   ·exfalso
    subst hm'
    rw [dg] at h'
    rw [dc hm] at h
    simp only [aa] at h'
    subst h'
    exact key m e b hm h hb hb'
   ·rw [dc hm] at h
    rw [dc hm'] at h'
    exact hH.inj m m' e e' b h h' hb hb'
 ·exact bc (hH.rlt b h) hg.size
 ·by_cases hm : m = n
  ·subst hm
   rw [dg] at h
   simp only [aa] at h
   subst h
   rcases hv with hv | hv
   ·exact .inl ⟨m, _, h0, by simp only [Ent.blk] at hb ⊢; rw [← hv]; exact hb⟩
   ·simp only [Ent.blk] at hb
    rw [hv] at hb
    simp only [aa] at hb
    exact .inr (by omega)
  ·rw [dc hm] at h
   exact .inl ⟨m, e, h, hb⟩
end
section
variable {P : Program} {I : In} {w w' : World} {T : List DV} {a : Act} {H : Heap} {α : Type}
theorem Done.makes {o : Oper} {v : DV} {s : Sem Value} (hH : HR I w H) (ho : execOp a.eval o = (do Pure.pure (Next.value (← s)))) (h : f7 P I w s v) : Done P o a I w H v none := by
 obtain ⟨u, h1, h2⟩ := h
 exact Done.pure hH (by rw [ho]; exact gP h1) h2
theorem VR.fn_case {F : Fn} {x y : List DV} {u : Value} (h : VR I w (.fn F x y) u) : ∃ x' y', u = .func F x' y' ∧ LR I w x x'.toList ∧ LR I w y y'.toList := by
 cases h with | fn _ _ _ a' b' h1 h2 => exact ⟨a', b', rfl, h1, h2⟩
theorem gX (hT : TR I w T a) (ps : Array Operand) : LR I w (ps.toList.map (cO T)) (ps.map a.eval).toList := by
 rw [bZ]
 exact LR.map hT _
theorem LR.get : ∀ {ds : List DV} {vs : List Value} {i : Nat} {d : DV}, LR I w ds vs → ds[i]? = some d → ∃ v, vs[i]? = some v ∧ VR I w d v
 | _, _, _, _, .nil, h => by simp at h
 | _, _, 0, _, .cons d r u vs h hr, h1 => by
  simp only [bg, aa] at h1
  subst h1
  exact ⟨u, rfl, h⟩
 | _, _, i + 1, _, .cons d r u vs h hr, h1 => by
  simp only [cf] at h1 ⊢
  exact LR.get hr h1
theorem sK {k : IntKind} : ∀ {r : List DV} {vs : List Value} {x : Int} {v : DV}, LR I w r vs → uw k x r = some v → ∃ n, v = .sc (.int k n) ∧ (vs.foldlM Builtin.min2 (.int k x)).run P w = .ok (.int k n) w
 | _, _, x, v, .nil, h => by
  simp only [uw, aa] at h
  exact ⟨x, h.symm, rfl⟩
 | _, _, x, v, .cons d r u vs hd hr, h => by
  simp only [uw] at h
  split at h
  ·rename_i k' y
   obtain rfl := hd.sc_eq
   split at h
   ·rename_i hk
    subst hk
    obtain ⟨n, h1, h2⟩ := sK hr h
    exact ⟨n, h1, by simp only [List.foldlM_cons, Builtin.min2]; exact h2⟩
   ·cases h
  ·cases h
theorem sL {k : IntKind} : ∀ {r : List DV} {vs : List Value} {x : Int} {v : DV}, LR I w r vs → uy k x r = some v → ∃ n, v = .sc (.int k n) ∧ (vs.foldlM Builtin.max2 (.int k x)).run P w = .ok (.int k n) w
 | _, _, x, v, .nil, h => by
  simp only [uy, aa] at h
  exact ⟨x, h.symm, rfl⟩
 | _, _, x, v, .cons d r u vs hd hr, h => by
  simp only [uy] at h
  split at h
  ·rename_i k' y
   obtain rfl := hd.sc_eq
   split at h
   ·rename_i hk
    subst hk
    obtain ⟨n, h1, h2⟩ := sL hr h
    exact ⟨n, h1, by simp only [List.foldlM_cons, Builtin.max2]; exact h2⟩
   ·cases h
  ·cases h
theorem eY {o : Oper} {c : Call} {b : Builtin} {s : Sem Value} (ho : o.op = .call c) (hc : c.callee = .builtin b) (hb : builtin b c.argTypes o.type (c.args.map fun | .const _ => true | _ => false) (c.args.map a.eval) = (do pure (Next.value (← s)))) : execOp a.eval o = (do pure (Next.value (← s))) := by
 unfold execOp
 rw [ho]
 simp only [resolve, hc]
 exact hb
theorem hU {d : Nat} {o : Oper} {b : Blk} {v : Nat → DV} {k : DV → eg → Option α} {r : α} (h : eC d o H b v k = some r) : ∃ n, H n = none ∧ k (v n) (some (n, b)) = some r := by
 unfold eC at h
 simp only at h
 split at h
 ·cases h
 ·rename_i hn
  exact ⟨_, hn, h⟩
theorem eA {β : Type} {k : DV → Option β} {x : Option DV} {r : β} (h : (match x with | some x => k x | none => none) = some r) : ∃ y, x = some y ∧ k y = some r := by
 cases x with
 | none => cases h
 | some y => exact ⟨y, rfl, h⟩
theorem Cu (hT : TR I w T a) (x : Option Operand) : (x.map (cO T) = none ∧ x.map a.eval = none) ∨ ∃ d u, x.map (cO T) = some d ∧ x.map a.eval = some u ∧ VR I w d u := by
 cases x with
 | none => exact .inl ⟨rfl, rfl⟩
 | some y => exact .inr ⟨_, _, rfl, rfl, cR hT y⟩
end
section
variable {P : Program} {I : In} {w w' : World} {T : List DV} {a : Act} {H : Heap} {α : Type}
theorem qd : ∀ {ks : List (List Int)} {vs : List DV} {z : DV} {n : Int} {k : DV → Bool → Option α} {r : α}, p8 ks vs z n k = some r → (∃ d, dD ks vs n = some d ∧ k d true = some r) ∨ (dD ks vs n = none ∧ k z false = some r)
 | [], vs, z, n, k, r, h => by
  refine .inr ⟨by cases vs <;> rfl, ?_⟩
  cases vs <;> exact h
 | l :: ks, [], z, n, k, r, h => .inr ⟨rfl, h⟩
 | l :: ks, d :: vs, z, n, k, r, h => by
  simp only [p8] at h
  simp only [dD]
  split at h
  ·rename_i hc
   rw [if_pos hc]
   exact .inl ⟨d, rfl, h⟩
  ·rename_i hc
   rw [if_neg hc]
   exact qd h
theorem zZ {d : DV} {v : Value} {ks : List (List Int)} {vs : List DV} (hH : HR I w H) (hv : VR I w d v) (h : iq H d = some (ks, vs)) : ∃ b es clock val, v = .map (some b) ∧ w.heap[b]? = some (.map es clock) ∧ TabE ks vs val es.toList ∧ ∀ m d, dD ks vs m = some d → VR I w d (val m) := by
 unfold iq at h
 split at h
 ·simp only [aa, ae] at h
  obtain ⟨rfl, rfl⟩ := h
  cases hv with | tab _ _ val b es cl hR hb hE hL => exact ⟨b, es, cl, val, rfl, hb, hE, hL⟩
 ·rename_i n
  split at h
  ·rename_i ks' vs' hn
   simp only [aa, ae] at h
   obtain ⟨rfl, rfl⟩ := h
   cases hv with | mh _ b hi =>
   obtain ⟨b', es, cl, val, k1, k2, k3, k4⟩ := hH.mp n _ _ hn
   rw [hi] at k1
   simp only [aa, Ent.obj.injEq] at k1
   subst k1
   exact ⟨b, es, cl, val, rfl, k2, k3, k4⟩
  ·cases h
 ·cases h
theorem xc {o : Oper} {t : TypeId} {n : Nat} (ho : o.op = .makeMap t none) (hH : HR I w H) (hn : H n = none) : Done P o a I w H (.mh n) (some (n, .mp [] [])) := by
 have he : ∀ b, (Ent.obj w.heap.size).blk = some b → b = w.heap.size := fun b h => by simpa [Ent.blk] using h.symm
 have hr : (execOp a.eval o).run P w = .ok (.value (.map (some w.heap.size))) (w.alloc (.map #[] 0)) := by
  unfold execOp
  rw [ho]
  refine gP ?_
  simp [Instr.makeMap, Sem.run_bind]
 refine ⟨I.put n (.obj w.heap.size), _, _, hr, Ext.alloc hH hn he, Rows.alloc hH hn _, ?_, ?_⟩
 ·refine HR.alloc hH hn he ⟨w.heap.size, #[], 0, fun _ => undef, dg, mu w _, ⟨fun e h => by simp at h, fun e h => by simp at h, fun m h => by simp [dD] at h⟩, fun m d h => by simp [dD] at h⟩
 ·exact VR.mh n w.heap.size dg
theorem xd {t kt e : TypeId} {b clock : Nat} {es : Array MapEntry} {j : Int} {v : Value} (ht : P.underlying t = some (.map kt e)) (hk : P.underlying kt = some (.int .i64)) (hb : w.heap[b]? = some (.map es clock)) (hkeys : ∀ x ∈ es.toList, ∃ n, x.key = .int .i64 n) (hfr : ∀ x ∈ es.toList, x.key ≠ .int .i64 j) :
  (Instr.mapUpdate t (.map (some b)) (.int .i64 j) v).run P w = .ok () { w with heap := w.heap.setIfInBounds b (.map (es.push { key := .int .i64 j, val := v, born := clock }) (clock + 1)) } := by
 have hK : MapKept.IsKey (.int .i64) (.int .i64 j) := rfl
 have hck := MapKept.run_checkKey (w := w) hk hK false 9999
 rcases MapKept.findNow_spec hK es.toList 0 (fun x hx => by obtain ⟨m, hm⟩ := hkeys x hx; rw [hm]; rfl) with ⟨h1, h2⟩ | ⟨i, e0, h1, h2, h3⟩
 ·have hf := MapKept.run_findKey (w := w) hk h1
  simp [Instr.mapUpdate, run_underlying ht, MapKept.run_getObj_map hb, hck, hf, MapKept.run_setObj_map _ hb, Result.andThen]
 ·exact absurd h3 (hfr e0 (ce h2))
theorem yj {o : Oper} {t kt e : TypeId} {m i x : Operand} {n : Nat} {j : Int} {ks : List (List Int)} {vs : List DV} {dx : DV} (ho : o.op = .insert t m i x) (hH : HR I w H) (ht : P.underlying t = some (.map kt e)) (hk : P.underlying kt = some (.int .i64)) (hn : H n = some (.mp ks vs)) (hm : VR I w (.mh n) (a.eval m)) (hi : a.eval i = .int .i64 j) (hx : VR I w dx (a.eval x)) (hfr : (dD ks vs j).isNone = true) :
  Done P o a I w H .undef (some (n, .mp ([j] :: ks) (dx :: vs))) := by
 obtain ⟨b, es, cl, val, k1, k2, k3, k4⟩ := hH.mp n _ _ hn
 generalize hmv : a.eval m = mv at hm
 cases hm with | mh _ b' hb' =>
 rw [k1] at hb'
 simp only [aa, Ent.obj.injEq] at hb'
 subst hb'
 have hno : ∀ x ∈ es.toList, x.key ≠ .int .i64 j := fun x hx hxk => by
  have := (k3.here x hx j hxk).2
  rw [Option.isNone_iff_eq_none] at hfr
  rw [hfr] at this
  cases this
 have hrun := xd (v := a.eval x) ht hk k2 k3.keys hno
 have hr : (execOp a.eval o).run P w = .ok .skip { w with heap := w.heap.setIfInBounds b (.map (es.push { key := .int .i64 j, val := a.eval x, born := cl }) (cl + 1)) } := by
  unfold execOp
  rw [ho]
  show ((do Instr.mapUpdate t (a.eval m) (a.eval i) (a.eval x); pure Next.skip) : Sem Next).run P w = _
  rw [hmv, hi]
  simp [Sem.run_bind, hrun]
 obtain ⟨g1, g2⟩ := MapKept.heap_set (o' := .map (es.push { key := .int .i64 j, val := a.eval x, born := cl }) (cl + 1)) k2
 have hbk : (Ent.obj b).blk = some b := rfl
 refine ⟨I, _, _, hr, Ext.write k1 hbk g2 (by simp) rfl rfl rfl, ⟨fun _ _ _ h => h⟩, ?_, rfl⟩
 have hs : Same I I w { w with heap := w.heap.setIfInBounds b (.map (es.push { key := .int .i64 j, val := a.eval x, born := cl }) (cl + 1)) } := Same.write hH k1 hbk g2
 refine HR.write hH k1 hbk g2 (by simp) ⟨b, _, _, fun q => if q = j then a.eval x else val q, k1, g1, ⟨fun e he => ?_, fun e he q hq => ?_, fun q hq => ?_⟩, fun q d hd => ?_⟩
 ·simp only [ck, au, aw] at he
  rcases he with he | rfl
  ·exact k3.keys e he
  ·exact ⟨j, rfl⟩
 ·simp only [ck, au, aw] at he
  rcases he with he | rfl
  ·have hne : q ≠ j := fun h => hno e he (by rw [hq, h])
   obtain ⟨h1, h2⟩ := k3.here e he q hq
   refine ⟨by simp only [hne, ao]; exact h1, ?_⟩
   simp only [dD]
   split
   ·rfl
   ·exact h2
  ·simp only [Value.int.injEq, true_and] at hq
   subst hq
   simp [dD]
 ·by_cases hqj : q = j
  ·exact ⟨_, by simp only [ck, au, aw]; exact .inr rfl, by rw [hqj]⟩
  ·have hq' : (dD ks vs q).isSome = true := by simpa [dD, hqj] using hq
   obtain ⟨e0, h1, h2⟩ := k3.all q hq'
   exact ⟨e0, by simp only [ck, au]; exact .inl h1, h2⟩
 ·by_cases hqj : q = j
  ·subst hqj
   simp only [dD, List.any_cons, List.any_nil, bx, aY, if_true, aa] at hd
   subst hd
   simp only [if_true]
   exact VR.keep hs hx
  ·have hq' : dD ks vs q = some d := by simpa [dD, hqj] using hd
   simp only [hqj, ao]
   exact VR.keep hs (k4 q d hq')
theorem z9 {t kt e : TypeId} {b clock : Nat} {es : Array MapEntry} {ks : List (List Int)} {vs : List DV} {val : Int → Value} {n : Int} {c : Bool} {z : Value} (ht : P.underlying t = some (.map kt e)) (hk : P.underlying kt = some (.int .i64)) (hz : (zeroValue e).run P w = .ok z w) (hb : w.heap[b]? = some (.map es clock)) (hE : TabE ks vs val es.toList) :
  ((dD ks vs n).isSome = true ∧ (Instr.lookup t (.map (some b)) (.int .i64 n) c).run P w = .ok (if c then .tuple #[val n, .bool true] else val n) w) ∨ (dD ks vs n = none ∧ (Instr.lookup t (.map (some b)) (.int .i64 n) c).run P w = .ok (if c then .tuple #[z, .bool false] else z) w) := by
 have hK : MapKept.IsKey (.int .i64) (.int .i64 n) := rfl
 have hck := MapKept.run_checkKey (w := w) hk hK es.isEmpty 9999
 rcases MapKept.findNow_spec hK es.toList 0 (fun x hx => by obtain ⟨m, hm⟩ := hE.keys x hx; rw [hm]; rfl) with ⟨h1, h2⟩ | ⟨j, e0, h1, h2, h3⟩
 ·refine .inr ⟨?_, ?_⟩
  ·cases hp : dD ks vs n with
   | none => rfl
   | some u =>
    obtain ⟨e0, he, hk0⟩ := hE.all n (by rw [hp]; rfl)
    exact absurd hk0 (h2 e0 he)
  ·have hf := MapKept.run_findKey (w := w) hk h1
   simp [Instr.lookup, run_underlying ht, MapKept.run_getObj_map hb, hck, hf, hz, Result.andThen]
 ·obtain ⟨k1, k2⟩ := hE.here e0 (ce h2) n h3
  refine .inl ⟨k2, ?_⟩
  rw [k1]
  have hf := MapKept.run_findKey (w := w) hk h1
  simp [Instr.lookup, run_underlying ht, MapKept.run_getObj_map hb, hck, hf, Result.andThen]
end
theorem HR.grow {I I' : In} {w w' : World} {H : Heap} (hH : HR I w H) (hι : I'.ι = I.ι) (hR : ∀ b, I'.R b ↔ I.R b ∨ (w.heap.size ≤ b ∧ b < w'.heap.size)) (hw : ∀ b, b < w.heap.size → w'.heap[b]? = w.heap[b]?) (hsz : w.heap.size ≤ w'.heap.size) : HR I' w' H ∧ Same I I' w w' := by
 have hs : Same I I' w w' := ⟨⟨fun b h => (hR b).2 (.inl h), fun b h => hw b (hH.rlt b h)⟩, fun n b h => by rw [hι]; exact h, fun n sz v h => by rw [hι]; exact h⟩
 refine ⟨HR.of (fun n b hb => (hH.br hb).keep hs (fun e g h1 h2 => hw g (hH.lt n e g h1 h2).1)) (fun n h => by rw [hι]; exact hH.dom n h) (fun n e b h1 h2 => ?_) (fun n m e e' b h1 h2 h3 h4 => ?_) (fun b h => ?_), hs⟩
 ·rw [hι] at h1
  obtain ⟨k1, k2⟩ := hH.lt n e b h1 h2
  refine ⟨by omega, fun h => ?_⟩
  rcases (hR b).1 h with h | h
  ·exact k2 h
  ·omega
 ·rw [hι] at h1 h2
  exact hH.inj n m e e' b h1 h2 h3 h4
 ·rcases (hR b).1 h with h | h
  ·have := hH.rlt b h; omega
  ·exact h.2
section
variable {α : Type} {P : Program} {I : In} {w : World} {T : List DV} {a : Act} {H : Heap}
theorem yk {xs : List Int} {news : List Value} (h : (Sh.arr xs.length (.int .u8)).K I.R w xs news) : news = xs.map (Value.int .u8) := by
 obtain ⟨_, h2, h3⟩ := h
 have hl : news.length = xs.length := by simpa [Sh.sz] using h2
 refine List.ext_getElem (by simpa using hl) fun i h1 h4 => ?_
 have hi : i < xs.length := by omega
 have := h3 i xs[i] (aC hi)
 simp only [Sh.sz, Nat.mul_one, Sh.K] at this
 have h5 : (news.drop i).take 1 = [news[i]] := by
  rw [bP h1]
  rfl
 rw [h5] at this
 simpa using this
theorem yl {src dst e : TypeId} {A : Option Addr} {c : Nat} {xs : List Int} {news : List Value} (hs : P.underlying src = some (.slice e)) (he : P.underlying e = some (.int .u8)) (hd : P.underlying dst = some .string) (n1 : (Sh.arr xs.length (.int .u8)).K I.R w xs news) (n2 : A = none → xs = []) (n3 : ∀ ad, A = some ad → ∀ j u, news[j]? = some u → w.cell? (ad.add j) = some u) : (convert src dst (.slice A xs.length c)).run P w = .ok (.string (oY xs)) w := by
 cases A with
 | none =>
  have := n2 rfl
  subst this
  exact run_convert_bytes_nil w src e hs he 0 c dst hd
 | some ad =>
  have hn := yk n1
  subst hn
  have hl : (loadCells ad xs.length).run P w = .ok (xs.map (Value.int .u8)).toArray w := by
   have := run_loadCells_list (P := P) w ad (xs.map (Value.int .u8)) (fun j v hj => n3 ad rfl j v hj)
   simpa using this
  rw [run_convert_bytes_string w src dst e _ _ c hs he hd, run_bytesToString w _ _ c xs hl, foldl_push_bytes]
  simp [oY, ByteArray.empty, ByteArray.emptyWithCapacity]
  rfl
theorem BV {o : Oper} {src dst e : TypeId} {s : ByteArray} {x : Operand} (hH : HR I w H) (ho : execOp a.eval o = (do Pure.pure (Next.value (← convert src dst (a.eval x))))) (hv : a.eval x = .string s) (hs : P.underlying src = some .string) (hd : P.underlying dst = some (.slice e)) (he : P.underlying e = some (.int .u8)) : Done P o a I w H (.vs (.int .u8) (oZ s)) none := by
 have hr := run_bytes_of_string (P := P) w src dst e s hs hd he
 generalize hcap : grownCap w s.size 0 e = cap at hr
 have hge : s.size ≤ cap := by rw [← hcap]; exact grownCap_ge w s.size 0 e
 generalize hob : Obj.cells (bytesRow s cap) e ((bytesRow s cap).size, (bytesRow s cap).size + 1) = ob at hr
 have hsz : (w.drew.alloc ob).heap.size = w.heap.size + 1 := by
  show (w.heap.push ob).size = _
  simp
 have hold : ∀ b, b < w.heap.size → (w.drew.alloc ob).heap[b]? = w.heap[b]? := fun b hb => by
  show (w.heap.push ob)[b]? = _
  rw [Array.getElem?_push_lt hb, Array.getElem?_eq_getElem hb]
 obtain ⟨q1, q2⟩ := hH.grow (I' := ⟨I.ι, fun b => I.R b ∨ (w.heap.size ≤ b ∧ b < (w.drew.alloc ob).heap.size)⟩) (w' := w.drew.alloc ob) rfl (fun b => Iff.rfl) hold (by omega)
 refine ⟨⟨I.ι, fun b => I.R b ∨ (w.heap.size ≤ b ∧ b < (w.drew.alloc ob).heap.size)⟩, w.drew.alloc ob, .value (.slice (some ⟨w.heap.size, 0, none⟩) s.size cap), ?_, ⟨fun n b h => h, fun b h => .inl h, fun b hb _ => hold b hb, fun n e b h hb => .inl ⟨n, e, h, hb⟩, fun b h => ?_, by omega, rfl, rfl, rfl⟩, ⟨fun n sz v h => h⟩, q1, ?_⟩
 ·rw [ho, hv]
  exact gP hr
 ·rcases h with h | h
  ·exact .inl h
  ·exact .inr (.inr h.1)
 ·have hlen : (oZ s).length = s.size := by
   show (s.data.toList.map _).length = s.data.size
   rw [b6, Array.length_toList]
  refine .vs _ _ _ ⟨some ⟨w.heap.size, 0, none⟩, cap, by rw [hlen], by omega, fun _ => ⟨_, rfl, rfl, .inr ⟨ak _, (by show w.heap.size < (w.drew.alloc ob).heap.size; omega)⟩, fun i y hy => ?_⟩⟩
  refine ⟨[.int .u8 y], rfl, rfl, fun j u hu => ?_⟩
  have hi : i < s.data.size := by
   have := (List.getElem?_eq_some_iff.1 hy).1
   rw [hlen] at this
   exact this
  have hj : j = 0 := by
   have := (List.getElem?_eq_some_iff.1 hu).1
   simp at this
   omega
  subst hj
  simp only [bg, aa] at hu
  subst hu
  have hy2 : y = (s.data[i].toNat : Int) := by
   have := (List.getElem?_eq_some_iff.1 hy).2
   simp [oZ] at this
   exact this.symm
  have ha : Addr.add ⟨w.heap.size, 0, none⟩ (i * Sh.sz (.int .u8) + 0) = ⟨w.heap.size, i, none⟩ := by
   unfold Addr.add
   split <;> simp_all [Sh.sz]
  rw [ha, ← hob]
  have := World.cell?_alloc_mark w.drew (bytesRow s cap) e ((bytesRow s cap).size, (bytesRow s cap).size + 1) i
  rw [show w.drew.heap.size = w.heap.size from rfl] at this
  rw [this, bytesRow_at s cap i hi, hy2]
theorem ym {d : Nat} {o : Oper} {k : DV → eg → Option α} {r : α} (hT : TR I w T a) (hH : HR I w H) (h : dI P d o T H k = some r) : ∃ v act, k v act = some r ∧ Done P o a I w H v act := by
 unfold dI at h
 simp only at h
 split at h
 ·rename_i x ho
  exact ⟨_, _, h, Done.pure hH (tf ho) (cR hT x)⟩
 ·rename_i x ho
  exact ⟨_, _, h, Done.pure hH (pC ho) (cR hT x)⟩
 ·rename_i c x y ho
  obtain ⟨v, h1, h2⟩ := uE (P := P) (cR hT c) (cR hT x) (cR hT y) h
  refine ⟨_, _, h1, ?_⟩
  obtain ⟨u, g1, g2⟩ := h2
  refine Done.pure hH ?_ g2
  unfold execOp
  rw [ho]
  simp only [Sem.run_bind] at g1 ⊢
  cases hb : (asBool (a.eval c)).run P w <;> rw [hb] at g1 <;> simp_all
 ·rename_i e ho
  split at h
  ·rename_i its hz
   obtain ⟨n, hn, h1⟩ := hU h
   exact ⟨_, _, h1, zW ho hH hn hz⟩
  ·cases h
 ·rename_i e x ho
  split at h
  ·rename_i its hz
   split at h
   ·rename_i hs
    obtain ⟨n, hn, h1⟩ := hU h
    exact ⟨_, _, h1, Cr ho hT hH hn hs hz⟩
   ·cases h
  ·cases h
 ·rename_i t ps ho
  split at h
  ·rename_i its hz
   split at hz
   ·rename_i hne
    split at h
    ·rename_i out hf
     exact ⟨_, _, h, zY ho hT hH hne hz hf⟩
    ·cases h
   ·cases hz
  ·cases h
 ·rename_i t n ps ho
  split at h
  ·rename_i e hu
   split at h
   ·rename_i s hsh
    split at h
    ·rename_i hi
     split at h
     ·rename_i hs
      split at h
      ·rename_i xs hx
       split at h
       ·rename_i h1
        split at h
        ·rename_i h2
         simp only [ag, ay, aj, ah] at h2
         obtain ⟨m, hn, h3⟩ := hU h
         exact ⟨_, _, h3, t0 ho hT hH hn hu hi hs hx h1 h2.1 h2.2⟩
        ·cases h
       ·cases h
      ·cases h
     ·cases h
    ·cases h
   ·cases h
  ·cases h
 ·rename_i t x ho
  obtain ⟨v, h1, h2⟩ := eA h
  exact ⟨_, _, h2, BQ ho hT hH h1⟩
 ·rename_i t x y ho
  split at h
  ·rename_i q hq
   exact ⟨_, _, h, zX ho hT hH hq⟩
  ·cases h
 ·rename_i x ho
  have hx := cR hT x
  generalize hd : cO T x = dx at h hx
  generalize hv : a.eval x = u at hx
  have he : ∀ {v : Value}, u = v → (match v with | .pointer (some _) => True | .func (.func _) _ _ => True | _ => False) → (execOp a.eval o).run P w = .ok (.value v) w := by
   rintro v rfl hm
   unfold execOp
   rw [ho]
   simp only [hv]
   cases u with
   | pointer q => cases q with
    | none => exact hm.elim
    | some q => rfl
   | func F x y => cases F with
    | func f => rfl
    | _ => exact hm.elim
   | _ => exact hm.elim
  split at h
  ·refine ⟨_, _, h, ?_⟩
   cases hx with | ptr _ _ _ b h1 hp => exact Done.pure hH (he rfl trivial) (.ptr _ _ _ b h1 hp)
  ·refine ⟨_, _, h, ?_⟩
   cases hx with | rp _ _ _ _ b len cap h1 hi hp => exact Done.pure hH (he rfl trivial) (.rp _ _ _ _ b len cap h1 hi hp)
  ·refine ⟨_, _, h, ?_⟩
   cases hx with | pi _ ad cs h0 hR him hC hc => exact Done.pure hH (he rfl trivial) (.pi _ ad cs h0 hR him hC hc)
  ·refine ⟨_, _, h, ?_⟩
   cases hx with | fn F q1 q2 a' b' h1 h2 => exact Done.pure hH (he rfl trivial) (.fn _ _ _ a' b' h1 h2)
  ·cases h
 ·rename_i op t x y sp ho
  obtain ⟨v, h1, h2⟩ := wr (P := P) (x := x) (y := y) (cR hT x) (cR hT y) h
  exact ⟨_, _, h1, Done.makes hH (by unfold execOp; rw [ho]) h2⟩
 ·rename_i op t x ho
  have hx := cR hT x
  generalize hd : cO T x = dx at h hx
  generalize hv : a.eval x = u at hx
  split at h
  ·obtain rfl := hx.sc_eq
   exact ⟨_, _, h, Done.makes hH (by unfold execOp; rw [ho]) ⟨_, by rw [hv]; rfl, .sc _ rfl⟩⟩
  ·obtain rfl := hx.sc_eq
   exact ⟨_, _, h, Done.makes hH (by unfold execOp; rw [ho]) ⟨_, by rw [hv]; rfl, .sc _ rfl⟩⟩
  ·cases h
 ·rename_i s t x ho
  have hx := cR hT x
  generalize hd : cO T x = dx at h hx
  generalize hv : a.eval x = u at hx
  split at h
  ·rename_i hs ht
   obtain rfl := hx.sc_eq
   exact ⟨_, _, h, Done.makes hH (by unfold execOp; rw [ho]) ⟨_, by rw [hv]; simp [convert, run_underlying hs, run_underlying ht, Conv.intToInt], .sc _ rfl⟩⟩
  ·rename_i hs ht
   obtain rfl := hx.sc_eq
   exact ⟨_, _, h, Done.makes hH (by unfold execOp; rw [ho]) ⟨_, by rw [hv]; simp [convert, run_underlying hs, run_underlying ht], .sc _ rfl⟩⟩
  ·rename_i e hs ht
   split at h
   ·rename_i he
    split at h
    ·rename_i xs hxs
     obtain ⟨A, c, rfl, news, n1, n2, n3⟩ := uL hH hx hxs
     refine ⟨_, _, h, Done.makes hH (by unfold execOp; rw [ho]) ⟨.string (oY xs), ?_, .sc _ rfl⟩⟩
     rw [hv]
     exact yl hs he ht n1 n2 n3
    ·cases h
   ·cases h
  ·rename_i e s hs ht
   split at h
   ·rename_i he
    obtain rfl := hx.sc_eq
    exact ⟨_, _, h, BV hH (by unfold execOp; rw [ho]) (by rw [hv]) hs ht he⟩
   ·cases h
  ·cases h
 ·rename_i F q1 q2 ho
  exact ⟨_, _, h, Done.makes hH (by unfold execOp; rw [ho]) ⟨_, rfl, .fn _ _ _ _ _ (gX hT q1) (gX hT q2)⟩⟩
 ·rename_i t l c ho
  split at h
  ·rename_i e hu
   split at h
   ·rename_i s n m hsh hl hc
    split at h
    ·rename_i h1
     split at h
     ·rename_i hz
      obtain ⟨q, hn, h3⟩ := hU h
      exact ⟨_, _, h3, uI ho hT hH hn hu hl hc h1 hz⟩
     ·cases h
    ·cases h
   ·cases h
  ·cases h
 ·rename_i t x lo hi mx ho
  obtain ⟨v, h1, h2⟩ := yg (P := P) (mx' := mx.map a.eval) hH (cR hT x) (Cu hT lo) (Cu hT hi) (fun e => by cases mx <;> simp_all) h
  exact ⟨_, _, h1, Done.makes hH (by unfold execOp; rw [ho]) h2⟩
 ·rename_i t x f ho
  obtain ⟨v, h1, h2⟩ := eA h
  exact ⟨_, _, h2, Done.makes hH (by unfold execOp; rw [ho]) (nh (cR hT x) h1)⟩
 ·rename_i t x f ho
  obtain ⟨v, h1, h2⟩ := eA h
  exact ⟨_, _, h2, Done.makes hH (by unfold execOp; rw [ho]) (ti (cR hT x) h1)⟩
 ·rename_i t x i ho
  have hi := cR hT i
  split at h
  ·rename_i kd j hj
   rw [hj] at hi
   obtain ⟨v, h1, h2⟩ := pG (P := P) (kd := kd) hH (cR hT x) h
   exact ⟨_, _, h1, Done.makes hH (by unfold execOp; rw [ho]) (hi.sc_eq ▸ h2)⟩
  ·cases h
 ·rename_i t x i ho
  have hi := cR hT i
  split at h
  ·rename_i kd j hj
   rw [hj] at hi
   obtain ⟨v, h1, h2⟩ := th (P := P) (kd := kd) (cR hT x) h
   exact ⟨_, _, h1, Done.makes hH (by unfold execOp; rw [ho]) (hi.sc_eq ▸ h2)⟩
  ·cases h
 ·rename_i t ho
  split at h
  ·rename_i kt e ht
   obtain ⟨n, h1, h2⟩ := hU h
   exact ⟨_, _, h2, xc ho hH h1⟩
  ·cases h
 ·rename_i t m i x ho
  have hm := cR hT m
  have hi := cR hT i
  split at h
  ·rename_i kt e n j ht hmd hid
   split at h
   ·rename_i ks vs hk hn
    split at h
    ·rename_i hfr
     rw [hid] at hi
     rw [hmd] at hm
     exact ⟨_, _, h, yj ho hH ht hk hn hm hi.sc_eq (cR hT x) hfr⟩
    ·cases h
   ·cases h
  ·cases h
 ·rename_i t x i c ho
  have hx := cR hT x
  have hi := cR hT i
  split at h
  ·rename_i kt e ks vs n ht hxd hid
   split at h
   ·rename_i it hk hit
    split at h
    ·rename_i z hz
     rw [hid] at hi
     obtain ⟨b, es, cl, us, hv, hb, hE, hL⟩ := zZ hH hx hxd
     have hz' : (zeroValue e).run P w = .ok z w := by simp [zeroValue, typeInfo, Sem.run_bind, hit, hz]
     rcases z9 (c := c) (n := n) ht hk hz' hb hE with ⟨g1, g2⟩ | ⟨g1, g2⟩
     ·rcases qd h with ⟨d, k1, k3⟩ | ⟨k1, k3⟩
      ·have k2 := hL n d k1
       refine ⟨_, _, k3, Done.makes hH (by unfold execOp; rw [ho]) ⟨_, by rw [hv, hi.sc_eq]; exact g2, ?_⟩⟩
       cases c
       ·exact k2
       ·exact .tup _ _ (.cons _ _ _ _ k2 (.cons _ _ _ _ (.sc _ rfl) .nil))
      ·rw [k1] at g1; cases g1
     ·rcases qd h with ⟨d, k1, k3⟩ | ⟨k1, k3⟩
      ·rw [g1] at k1; cases k1
      ·refine ⟨_, _, k3, Done.makes hH (by unfold execOp; rw [ho]) ⟨_, by rw [hv, hi.sc_eq]; exact g2, ?_⟩⟩
       cases c
       ·exact rq z
       ·exact .tup _ _ (.cons _ _ _ _ (rq z) (.cons _ _ _ _ (.sc _ rfl) .nil))
    ·cases h
   ·cases h
  ·cases h
 ·rename_i x i ho
  have hx := cR hT x
  generalize hd : cO T x = dx at h hx
  generalize hv : a.eval x = u at hx
  split at h
  ·rename_i vs
   obtain ⟨v, h1, h2⟩ := eA h
   cases hx with | tup _ vs' hL =>
   obtain ⟨u, g1, g2⟩ := hL.get h1
   refine ⟨_, _, h2, Done.makes hH (by unfold execOp; rw [ho]) ⟨u, ?_, g2⟩⟩
   rw [bO] at g1
   simp [Instr.extract, hv, g1]
  ·cases h
 ·rename_i c ho
  split at h
  ·rename_i hc
   split at h
   ·rename_i x t hx ht
    split at h
    ·rename_i n hn
     refine ⟨_, _, h, Done.makes hH (eY (b := .len) (s := Builtin.len_ c.argTypes o.type (c.args.map a.eval)) ho hc rfl) ⟨_, ?_, .sc _ rfl⟩⟩
     have e1 : c.args.map a.eval = #[a.eval x] := by
      apply Array.toList_inj.1
      rw [bZ, hx]; rfl
     have := ws (ty := o.type) hH (cR hT x) hn
     rw [e1]
     have e2 : ∀ (A : Array TypeId), A[0]? = some t → Builtin.len_ A o.type #[a.eval x] = Builtin.len_ #[t] o.type #[a.eval x] := by
      intro A hA
      unfold Builtin.len_
      have : A.getD 0 0 = t := by simp [hA]
      simp [hA]
     rw [e2 _ ht]
     exact this
    ·cases h
   ·cases h
  ·rename_i hc
   split at h
   ·rename_i kk x rr hx
    obtain ⟨v, h1, h2⟩ := eA h
    have hL := gX hT c.args
    rw [hx] at hL
    generalize hA : (c.args.map a.eval).toList = vs at hL
    cases hL with | cons _ _ u vs' hd hr =>
    obtain rfl := hd.sc_eq
    obtain ⟨n, rfl, g2⟩ := sK (P := P) hr h1
    refine ⟨_, _, h2, Done.makes hH (eY (b := .min) (s := Builtin.min_ c.argTypes o.type (c.args.map a.eval)) ho hc rfl) ⟨_, ?_, .sc _ rfl⟩⟩
    unfold Builtin.min_
    rw [hA]
    exact g2
   ·cases h
  ·rename_i hc
   split at h
   ·rename_i kk x rr hx
    obtain ⟨v, h1, h2⟩ := eA h
    have hL := gX hT c.args
    rw [hx] at hL
    generalize hA : (c.args.map a.eval).toList = vs at hL
    cases hL with | cons _ _ u vs' hd hr =>
    obtain rfl := hd.sc_eq
    obtain ⟨n, rfl, g2⟩ := sL (P := P) hr h1
    refine ⟨_, _, h2, Done.makes hH (eY (b := .max) (s := Builtin.max_ c.argTypes o.type (c.args.map a.eval)) ho hc rfl) ⟨_, ?_, .sc _ rfl⟩⟩
    unfold Builtin.max_
    rw [hA]
    exact g2
   ·cases h
  ·cases h
 ·cases h
end
section
variable {P : Program} {I I' : In} {w w' : World} {T : List DV} {a : Act} {H : Heap} {α : Type}
theorem qe (n : Nat) (g : Sub) : ∀ l : List DV, dA n g l = l.map (DV.sub n g)
 | [] => rfl
 | d :: r => by simp [dA, qe n g r]
theorem yn (n : Nat) (g : Sub) (l : List DV) (i : Nat) : (dA n g l).getD i .undef = (l.getD i .undef).sub n g := by
 rw [qe]
 simp only [ax, cm]
 cases l[i]? <;> rfl
theorem nR : ∀ l : List DV, fN l = l.map DV.bare
 | [] => rfl
 | d :: r => by simp [fN, nR r]
theorem xe (l : List DV) (i : Nat) : (fN l).getD i .undef = (l.getD i .undef).bare := by
 rw [nR]
 simp only [ax, cm]
 cases l[i]? <;> rfl
theorem TR.keep (hs : Same I I' w w') (hT : TR I w T a) : TR I' w' T a := ⟨hT.len, fun i => VR.keep hs (hT.val i), hT.df⟩
theorem TR.sub {n : Nat} {g : Sub} (hs : But n g I I' w w') (hT : TR I w T a) : TR I' w' (dA n g T) a :=
 ⟨by rw [qe, b6]; exact hT.len, fun i => by rw [yn]; exact VR.sub hs (hT.val i), hT.df⟩
theorem TR.bare (hs : ObjS I I' w w') (hT : TR I w T a) : TR I' w' (fN T) a :=
 ⟨by rw [nR, b6]; exact hT.len, fun i => by rw [xe]; exact VR.bare hs (hT.val i), hT.df⟩
theorem Cv {n : Nat} {E : TypeId} {s : Sh} {xs : List s.T} (hH : HR I w H) (h : H n = some (.row E s xs)) : ∃ I', HR I' w (H.sub n (.vs s xs)) ∧ Ext I w I' w ∧ But n (.vs s xs) I I' w w := by
 obtain ⟨v, cs, h1, h2, h3⟩ := hH.row n E s xs h
 have hb : But n (.vs s xs) I ⟨fun m => if m = n then none else I.ι m, fun b => I.R b ∨ v.ownBlock = some b⟩ w w := by
  refine ⟨⟨fun b h => .inl h, fun _ _ => rfl⟩, fun m b hm => ?_, fun m sz u hm h => ?_, ?_⟩
  ·show (if m = n then none else I.ι m) = _
   rw [if_neg]
   ·exact hm
   ·rintro rfl; rw [h1] at hm; cases hm
  ·show (if m = n then none else I.ι m) = _
   rw [if_neg hm]
   exact h
  ·intro s' xs' e sz u hu
   rw [h1] at hu
   simp only [aa, Ent.row.injEq] at hu
   obtain ⟨rfl, rfl⟩ := hu
   cases e
   refine ⟨rfl, ?_⟩
   rcases h2.2 with ⟨rfl, h0⟩ | ⟨g, cap, cur, rfl, _, hh, hc, _⟩
   ·have : xs = [] := bb h0
    subst this
    exact ⟨none, 0, rfl, ak _, fun h => absurd rfl h⟩
   ·obtain ⟨_, _, cs', k1, k2, k3⟩ := jy hH h h1
    refine ⟨_, cap, rfl, hc, fun hne => ⟨_, rfl, rfl, .inr rfl, fun i x hx => ?_⟩⟩
    have hi := (List.getElem?_eq_some_iff.1 hx).1
    have hk := k1.2.2 i x hx
    have hl : i * s.sz + s.sz ≤ xs.length * s.sz := by rw [← aG]; exact aL _ hi
    refine ⟨_, Sh.K_len hk, Sh.K_keep ⟨fun b h => .inl h, fun _ _ => rfl⟩ hk, fun j u hu => ?_⟩
    rw [Addr.add_mid, bD]
    refine k3 _ u ?_
    rw [aT] at hu
    split at hu
    ·rw [aU] at hu
     exact hu
    ·cases hu
 refine ⟨_, HR.of (fun m b hm => ?_) (fun m hm => ?_) (fun m e b hm he => ?_) (fun m m' e e' b hm hm' he he' => ?_) (fun b hR => ?_), ⟨hb.obj, fun b h => .inl h, fun _ _ _ => rfl, fun m e b hm he => ?_, fun b hR => ?_, ak _, rfl, rfl, rfl⟩, hb⟩
 ·simp only [Heap.sub] at hm
  split at hm
  ·cases hm
  ·rename_i hmn
   split at hm
   ·rename_i b0 hb0
    simp only [aa] at hm
    subst hm
    cases b0 with
    | obj cs0 =>
     obtain ⟨b, c, t, k1, k2, k3⟩ := hH.obj m cs0 hb0
     exact ⟨b, c, t, hb.obj _ _ k1, k2, CR.sub hb k3⟩
    | row E' s' xs' =>
     obtain ⟨u, cs', k1, k2, k3⟩ := hH.row m E' s' xs' hb0
     exact ⟨u, cs', hb.row _ _ _ hmn k1, k2, Sh.K_keep hb.keeps k3⟩
    | mp ks vs => exact MR.sub hb (hH.mp m ks vs hb0) (fun _ _ => rfl)
   ·cases hm
 ·show (if m = n then none else I.ι m) = none
  split
  ·rfl
  ·rename_i hmn
   simp only [Heap.sub, hmn, ao] at hm
   split at hm
   ·cases hm
   ·rename_i hb0
    exact hH.dom m hb0
 ·dsimp only at hm
  split at hm
  ·cases hm
  ·rename_i hmn
   obtain ⟨k1, k2⟩ := hH.lt m e b hm he
   refine ⟨k1, ?_⟩
   rintro (hR | hR)
   ·exact k2 hR
   ·exact hmn (hH.inj m n e _ b hm h1 he hR)
 ·dsimp only at hm hm'
  split at hm
  ·cases hm
  ·split at hm'
   ·cases hm'
   ·exact hH.inj m m' e e' b hm hm' he he'
 ·rcases hR with hR | hR
  ·exact hH.rlt b hR
  ·exact (hH.lt n _ b h1 hR).1
 ·dsimp only at hm
  split at hm
  ·cases hm
  ·exact .inl ⟨m, e, hm, he⟩
 ·rcases hR with hR | hR
  ·exact .inl hR
  ·exact .inr (.inl ⟨n, _, h1, hR⟩)
theorem f9 : ∀ {r : List Nat} {I : In} {H : Heap} {A T : List DV} {vs : List Value} {A' T' : List DV} {H' : Heap}, HR I w H → TR I w T a → LR I w A vs → kN r A T H = (A', T', H') → ∃ I', HR I' w H' ∧ Ext I w I' w ∧ TR I' w T' a ∧ LR I' w A' vs
 | [], I, H, A, T, vs, A', T', H', hH, hT, hA, h => by
  simp only [kN, ae] at h
  obtain ⟨rfl, rfl, rfl⟩ := h
  exact ⟨I, hH, Ext.refl I w, hT, hA⟩
 | n :: r, I, H, A, T, vs, A', T', H', hH, hT, hA, h => by
  simp only [kN] at h
  split at h
  ·rename_i E s xs hn
   obtain ⟨I1, g1, g2, g3⟩ := Cv hH hn
   obtain ⟨I2, k1, k2, k3, k4⟩ := f9 g1 (TR.sub g3 hT) (LR.sub g3 hA) h
   exact ⟨I2, k1, g2.trans k2, k3, k4⟩
  ·exact f9 hH hT hA h
def Goes (P : Program) (o : Oper) (a : Act) (I : In) (w : World) (T' : List DV) (H' : Heap) : Prop :=
 ∃ I' w' n u, (execOp a.eval o).run P w = .ok n w' ∧ Ext I w I' w' ∧ HR I' w' H' ∧ TR I' w' T' (a.put o.dst u) ∧ (n = .value u ∨ n = .skip ∧ u = undef)
theorem Done.same {o : Oper} {v : DV} {act : eg} (hH : HR I w H) (h : Ext I w I' w') (hr : Rows I I') : Same I I' w w' := ⟨h.keeps hH, h.obj, hr.row⟩
theorem Done.goes {o : Oper} {v : DV} {act : eg} (hT : TR I w T a) (hH : HR I w H) (h : Done P o a I w H v act) : Goes P o a I w (cY T o.dst v) (H.act act) := by
 obtain ⟨I', w', n, h1, h2, h3, h4, h5⟩ := h
 have hs : Same I I' w w' := ⟨h2.keeps hH, h2.obj, h3.row⟩
 cases n with
 | value u => exact ⟨I', w', _, u, h1, h2, h4, (hT.keep hs).put _ h5, .inl rfl⟩
 | skip =>
  have : v = .undef := h5
  subst this
  exact ⟨I', w', _, undef, h1, h2, h4, (hT.keep hs).put _ (.undef _), .inr ⟨rfl, rfl⟩⟩
 | _ => exact h5.elim
theorem Goes.ext {o : Oper} {I1 : In} {T' : List DV} {H' : Heap} (h : Ext I w I1 w) (hg : Goes P o a I1 w T' H') : Goes P o a I w T' H' := by
 obtain ⟨I', w', n, u, h1, h2, h3⟩ := hg
 exact ⟨I', w', n, u, h1, h.trans h2, h3⟩
theorem BW {n : Nat} {v' : Value} {E : TypeId} {s : Sh} {xs : List s.T} {cs : List Value} (hH : HR I w H) (hn : H n = none) (hg : w.grownBy w' none) (hv : v'.ownBlock = none ∨ v'.ownBlock = some w.heap.size) (hown : w'.ownsRow 0 E s.sz v' xs.length cs) (hk : (Sh.arr xs.length s).K I.R w xs cs) :
  HR (I.put n (.row s.sz v')) w' (H.set n (some (.row E s xs))) ∧ Ext I w (I.put n (.row s.sz v')) w' ∧ Same I (I.put n (.row s.sz v')) w w' := by
 have h0 := hH.dom n hn
 have hblk : ∀ b, b < w.heap.size → w'.heap[b]? = w.heap[b]? := fun b hb => hg.block b hb (by simp)
 have hlt : ∀ b, v'.ownBlock = some b → b = w.heap.size ∧ b < w'.heap.size := by
  intro b hb
  refine ⟨by rcases hv with hv | hv <;> rw [hv] at hb <;> simp_all, ?_⟩
  rcases hown.2 with ⟨rfl, _⟩ | ⟨g, cap, cur, rfl, _, hh, _⟩
  ·cases hb
  ·simp only [Value.ownBlock, aa] at hb
   subst hb
   exact (Array.getElem?_eq_some_iff.1 hh).1
 have hs : Same I (I.put n (.row s.sz v')) w w' := by
  refine ⟨⟨fun _ h => h, fun b hb => hblk b (hH.rlt b hb)⟩, fun m b h => ?_, fun m sz u h => ?_⟩
  ·rw [dc]
   ·exact h
   ·rintro rfl; rw [h0] at h; cases h
  ·rw [dc]
   ·exact h
   ·rintro rfl; rw [h0] at h; cases h
 refine ⟨HR.of (fun m b h => ?_) (fun m h => ?_) (fun m e b h hb => ?_) (fun m m' e e' b h h' hb hb' => ?_) (fun b h => ?_), ⟨hs.obj, fun _ h => h, fun b hb _ => hblk b hb, fun m e b h hb => ?_, fun b h => .inl h, hg.size, hg.os, hg.tape, hg.output⟩, hs⟩
 ·by_cases hm : m = n
  ·subst hm
   rw [Heap.set_same] at h
   simp only [aa] at h
   subst h
   exact ⟨v', cs, dg, hown, Sh.K_keep hs.keeps hk⟩
  ·rw [ee hm] at h
   exact (hH.br h).keep hs (fun e g h1 h2 => hblk g (hH.lt m e g h1 h2).1)
 ·by_cases hm : m = n
  ·subst hm; rw [Heap.set_same] at h; cases h
  ·rw [ee hm] at h
   rw [dc hm]
   exact hH.dom m h
 ·by_cases hm : m = n
  ·subst hm
   rw [dg] at h
   simp only [aa] at h
   subst h
   obtain ⟨k1, k2⟩ := hlt b hb
   exact ⟨k2, fun hR => by have := hH.rlt b hR; omega⟩
  ·rw [dc hm] at h
   obtain ⟨k1, k2⟩ := hH.lt m e b h hb
   exact ⟨bc k1 hg.size, k2⟩
 ·by_cases hm : m = n
  ·by_cases hm' : m' = n
   ·rw [hm, hm']
   ·exfalso
    subst hm
    rw [dg] at h
    rw [dc hm'] at h'
    simp only [aa] at h
    subst h
    have := (hlt b hb).1
    have := (hH.lt m' e' b h' hb').1
    omega
  ·by_cases hm' : m' = n
   ·exfalso
    subst hm'
    rw [dg] at h'
    rw [dc hm] at h
    simp only [aa] at h'
    subst h'
    have := (hlt b hb').1
    have := (hH.lt m e b h hb).1
    omega
   ·rw [dc hm] at h
    rw [dc hm'] at h'
    exact hH.inj m m' e e' b h h' hb hb'
 ·exact bc (hH.rlt b h) hg.size
 ·by_cases hm : m = n
  ·subst hm
   rw [dg] at h
   simp only [aa] at h
   subst h
   exact .inr (by have := (hlt b hb).1; omega)
  ·rw [dc hm] at h
   exact .inl ⟨m, e, h, hb⟩
theorem nS {E : TypeId} {sz n l cap : Nat} {b : Nat} {cs : List Value} (h : w.ownsRow 0 E sz (.slice (some ⟨b, 0, none⟩) n cap) n cs) (hl : l ≤ n) : w.ownsRow 0 E sz (.slice (some ⟨b, 0, none⟩) l cap) l (cs.take (l * sz)) := by
 have hle : l * sz ≤ n * sz := aL _ hl
 refine ⟨by rw [List.length_take, h.1]; omega, ?_⟩
 rcases h.2 with ⟨e, _⟩ | ⟨g, cap', cur, e, h1, h2, h3, h4, h5, h6⟩
 ·cases e
 ·simp only [Value.slice.injEq, aa, Addr.mk.injEq, bn] at e
  obtain ⟨rfl, _, rfl⟩ := e
  refine .inr ⟨b, cap, cur, rfl, h1, h2, by omega, h4, h5, ?_⟩
  rw [← h6, List.take_take]
  congr 1
  omega
theorem rz {R : Nat → Prop} {s : Sh} {n l : Nat} {xs : List s.T} {cs : List Value} (h : (Sh.arr n s).K R w xs cs) (hl : l ≤ n) : (Sh.arr (xs.take l).length s).K R w (xs.take l) (cs.take (l * s.sz)) := by
 have hle : l * s.sz ≤ n * s.sz := aL _ hl
 have h1 := h.1
 have h2 := h.2.1
 refine ⟨rfl, by simp only [List.length_take]; rw [h1, h2, Nat.min_eq_left hl, Nat.min_eq_left hle], fun i x hx => ?_⟩
 rw [aT] at hx
 split at hx
 ·rename_i hil
  have h3 := h.2.2 i x hx
  have : i * s.sz + s.sz ≤ l * s.sz := by rw [← aG]; exact aL _ hil
  rw [List.drop_take, List.take_take]
  have e : min s.sz (l * s.sz - i * s.sz) = s.sz := by omega
  rw [e]
  exact h3
 ·cases hx
theorem ts {R : Nat → Prop} (s : Sh) : (Sh.arr ([] : List s.T).length s).K R w ([] : List s.T) [] := ⟨rfl, by simp, fun i x hx => by simp at hx⟩
theorem lz {o : Oper} {c : Call} {x y : Operand} {t : TypeId} {v : Value} (ho : o.op = .call c) (hc : c.callee = .builtin .append) (hx : c.args.toList = [x, y]) (ht : c.argTypes.toList = [t, t]) (h : (Builtin.append_ #[t, t] o.type #[a.eval x, a.eval y]).run P w = .ok v w') : (execOp a.eval o).run P w = .ok (.value v) w' := by
 rw [eY (b := .append) (s := Builtin.append_ c.argTypes o.type (c.args.map a.eval)) ho hc rfl]
 refine gP ?_
 have e1 : c.args.map a.eval = #[a.eval x, a.eval y] := by
  apply Array.toList_inj.1
  rw [bZ, hx]; rfl
 have e2 : c.argTypes = #[t, t] := Array.toList_inj.1 ht
 rw [e1, e2]
 exact h
theorem xf {d : Nat} {o : Oper} {c : Call} {x y : Operand} {t e : TypeId} {s : Sh} {ys : List s.T} {k : List DV → Heap → Option α} {r : α} (hT : TR I w T a) (hH : HR I w H) (ho : o.op = .call c) (hc : c.callee = .builtin .append) (hx : c.args.toList = [x, y]) (ht : c.argTypes.toList = [t, t])
  (hu : P.underlying t = some (.slice e)) (hz : gB P e s = true) (hy : d4 H s (cO T y) = some ys) (h : f0 P d o e s (cO T x) ys T H k = some r) : ∃ T' H', k T' H' = some r ∧ Goes P o a I w T' H' := by
 have hvx := cR hT x
 have hvy := cR hT y
 generalize cO T x = dx at h hvx
 generalize hax : a.eval x = ux at hvx
 unfold f0 at h
 split at h
 ·rename_i z cp
  obtain rfl := hvx.sc_eq
  split at h
  ·rename_i hcnd
   simp only [ag, aj] at hcnd
   obtain ⟨⟨⟨rfl, rfl⟩, hb⟩, h1⟩ := hcnd
   obtain ⟨n, hn, h2⟩ := hU h
   obtain ⟨v', w', cs', g1, g2, g3, g4, g5⟩ := mz (P := P) (t := t) (ty := o.type) (xs := []) (v := .slice none 0 0) (cs := []) hH hz hu ⟨by simp, .inl ⟨rfl, rfl⟩⟩ (ts s) hvy hy (by simpa using hb) h1
   obtain ⟨k1, k2, k3⟩ := BW hH hn g3 g4 g2 g5
   refine ⟨_, _, h2, _, w', _, v', lz ho hc hx ht (by rw [hax]; exact g1), k2, k1, (hT.keep k3).put _ (VR.rw n s.sz v' dg ?_), .inl rfl⟩
   rcases g2.2 with ⟨rfl, _⟩ | ⟨g, c', cur, rfl, _⟩
   ·exact ⟨_, _, _, rfl⟩
   ·exact ⟨_, _, _, rfl⟩
  ·cases h
 ·rename_i n
  split at h
  ·rename_i E' s' xs hrow
   split at h
   ·rename_i hE
    subst hE
    split at h
    ·rename_i hs' hq
     cases hs'
     split at h
     ·rename_i hcnd
      simp only [ag, aj] at hcnd
      cases hvx with | rw _ sz v hi hs =>
      obtain ⟨v0, cs, m1, m2, m3⟩ := hH.row n E' s xs hrow
      rw [hi] at m1
      simp only [aa, Ent.row.injEq] at m1
      obtain ⟨rfl, rfl⟩ := m1
      obtain ⟨v', w', cs', g1, g2, g3, g4, g5⟩ := mz (P := P) (t := t) (ty := o.type) hH hz hu m2 m3 hvy hy hcnd.1 hcnd.2
      obtain ⟨k1, k2, k3⟩ := Ct hH hi g3 g4 g2 g5
      refine ⟨_, _, h, _, w', _, v', lz ho hc hx ht (by rw [hax]; exact g1), k2, k1, (hT.sub k3).put _ (VR.rw n s.sz v' dg ?_), .inl rfl⟩
      rcases g2.2 with ⟨rfl, _⟩ | ⟨g, c', cur, rfl, _⟩
      ·exact ⟨_, _, _, rfl⟩
      ·exact ⟨_, _, _, rfl⟩
     ·cases h
    ·cases h
   ·cases h
  ·cases h
 ·rename_i n z l
  split at h
  ·rename_i E' s' xs hrow
   split at h
   ·rename_i hz0
    subst hz0
    split at h
    ·rename_i hE
     subst hE
     split at h
     ·rename_i hs' hq
      cases hs'
      split at h
      ·rename_i hcnd
       simp only [ag, aj] at hcnd
       cases hvx with | sl _ _ _ sz A A' len cap cap' hi hl h0' h1' hc' =>
       obtain ⟨rfl, rfl⟩ := h0' rfl
       obtain ⟨v0, cs, m1, m2, m3⟩ := hH.row n E' s xs hrow
       rw [hi] at m1
       simp only [aa, Ent.row.injEq] at m1
       obtain ⟨rfl, rfl⟩ := m1
       obtain ⟨_, rfl, _, _⟩ := gq hH hrow hi
       have hl' : l ≤ xs.length := by omega
       have hlen : (xs.take l).length = l := by simp; omega
       have hown : w.ownsRow 0 E' s.sz (.slice A' l cap') (xs.take l).length (cs.take (l * s.sz)) := by
        rw [hlen]
        rcases m2.2 with ⟨e, e0⟩ | ⟨g, c', cur, e, _⟩
        ·simp only [Value.slice.injEq] at e
         obtain ⟨rfl, _, rfl⟩ := e
         have : l = 0 := by omega
         subst this
         exact ⟨by simp, .inl ⟨rfl, rfl⟩⟩
        ·simp only [Value.slice.injEq] at e
         obtain ⟨rfl, _, rfl⟩ := e
         exact nS m2 hl'
       obtain ⟨v', w', cs', g1, g2, g3, g4, g5⟩ := mz (P := P) (t := t) (ty := o.type) hH hz hu hown (rz m3 hl') hvy hy hcnd.1 hcnd.2
       have e0 : ∀ (A : Option Addr) (n m c c' : Nat), (Value.slice A n c).ownBlock = (Value.slice A m c').ownBlock := by
        intro A n m c c'
        cases A <;> rfl
       obtain ⟨k1, k2, k3⟩ := Ct (v' := v') hH hi (by rw [e0 A' xs.length l cap' cap']; exact g3) (by rw [e0 A' xs.length l cap' cap']; exact g4) g2 g5
       refine ⟨_, _, h, _, w', _, v', lz ho hc hx ht (by rw [hax]; exact g1), k2, k1, (hT.sub k3).put _ (VR.rw n s.sz v' dg ?_), .inl rfl⟩
       rcases g2.2 with ⟨rfl, _⟩ | ⟨g, c', cur, rfl, _⟩
       ·exact ⟨_, _, _, rfl⟩
       ·exact ⟨_, _, _, rfl⟩
      ·cases h
     ·cases h
    ·cases h
   ·cases h
  ·cases h
 ·cases h
theorem uM {d : Nat} {o : Oper} {k : K α} {r : α} (hT : TR I w T a) (hH : HR I w H) (h : iu P d o T H k = some r) : ∃ T' H', k T' H' = some r ∧ Goes P o a I w T' H' := by
 have plain : ∀ {I : In} {T : List DV} {H : Heap}, TR I w T a → HR I w H → (dI P d o T H fun v a => k (cY T o.dst v) (H.act a)) = some r → ∃ T' H', k T' H' = some r ∧ Goes P o a I w T' H' := by
  intro I T H hT hH h
  obtain ⟨v, act, h1, h2⟩ := ym hT hH h
  exact ⟨_, _, h1, h2.goes hT hH⟩
 unfold iu at h
 split at h
 ·rename_i t n ps ho
  split at h
  rename_i A' T' H' hs
  have hLR : LR I w (ps.toList.map fun e => cO T e.2) (ps.toList.map fun e => a.eval e.2) := by
   have := LR.map hT (ps.toList.map (·.2))
   simpa [List.map_map, Function.comp_def] using this
  obtain ⟨I1, g1, g2, g3, _⟩ := f9 hH hT hLR hs
  obtain ⟨T2, H2, k1, k2⟩ := plain g3 g1 h
  exact ⟨T2, H2, k1, k2.ext g2⟩
 ·rename_i q x y ho
  split at h
  ·split at h
   rename_i A' T' H' hs
   have hLR : LR I w [cO T y] [a.eval y] := .cons _ _ _ _ (cR hT y) .nil
   obtain ⟨I1, g1, g2, g3, _⟩ := f9 hH hT hLR hs
   obtain ⟨T2, H2, k1, k2⟩ := plain g3 g1 h
   exact ⟨T2, H2, k1, k2.ext g2⟩
  ·exact plain hT hH h
 ·rename_i c ho
  split at h
  ·rename_i hc
   split at h
   ·rename_i x y t t' hx ht
    split at h
    ·rename_i htt
     subst htt
     split at h
     ·rename_i e hu
      split at h
      ·rename_i s hsh
       split at h
       ·rename_i hz
        split at h
        ·rename_i ys hy
         exact xf hT hH ho hc hx ht hu hz hy h
        ·cases h
       ·cases h
      ·cases h
     ·cases h
    ·cases h
   ·cases h
  ·exact plain hT hH h
 ·exact plain hT hH h
end
section
variable {P : Program} {I I' : In} {w w' : World} {T : List DV} {a : Act} {H : Heap} {α : Type}
def Aa (u : Option (List Nat)) (I I' : In) : Prop := ∀ l, u = some l → ∀ n sz v, n ∉ l → I.ι n = some (.row sz v) → I'.ι n = some (.row sz v)
def nT (R : Value → World → Prop) : Ending → World → Prop
 | .returned z, w => R z w
 | _, _ => False
def rA (P : Program) (f : FuncId) : Prop := ∀ (args : Array Value) (w : World), (callFunc f args).run P w = .ok (.enter f args) w
theorem hZ {f : FuncId} (h : eT P f = true) : rA P f := by
 intro args w
 unfold eT at h
 split at h
 ·rename_i fn hf
  simp only [ag, aB, ne_eq] at h
  have h1 : (fn.name == "runtime.NumGoroutine") = false := by simp [h.1]
  have h2 : fn.body.isNone = false := by
   cases hb : fn.body with
   | none => rw [hb] at h; simp at h
   | some c => rfl
  have h3 : fn.body ≠ none := by
   intro e
   rw [e] at h
   simp at h
  simp [callFunc, hf, h.1, h3]
 ·cases h
def mA (P : Program) (call : fp α) : Prop := ∀ {I : In} {w : World} {H : Heap} {A : List DV} {args : List Value} {f : FuncId} {k : DV → Heap → Option (List Nat) → Option α} {r : α}, HR I w H → LR I w A args → call f A H k = some r →
 rA P f ∧ Calls P f args.toArray w (nT fun z w' => ∃ I' v H' u, k v H' u = some r ∧ Ext I w I' w' ∧ HR I' w' H' ∧ VR I' w' v z ∧ Aa u I I')
def In.drop (I : In) (n : Nat) : In := ⟨fun m => if m = n then (match I.ι m with | some (.row _ _) => none | x => x) else I.ι m, I.R⟩
theorem In.drop_but (I : In) (n : Nat) (w : World) : But n .none I (I.drop n) w w := by
 refine ⟨⟨fun _ h => h, fun _ _ => rfl⟩, fun m b h => ?_, fun m sz v hm h => ?_, fun s xs h => by cases h⟩
 ·show (if m = n then _ else _) = _
  split
  ·rw [h]
  ·exact h
 ·show (if m = n then _ else _) = _
  rw [if_neg hm]
  exact h
theorem uN : ∀ {l : List Nat} {I : In} {T : List DV}, TR I w T a → Keeps I.R I'.R w w' → (∀ n b, I.ι n = some (.obj b) → I'.ι n = some (.obj b)) → (∀ n sz v, n ∉ l → I.ι n = some (.row sz v) → I'.ι n = some (.row sz v)) → TR I' w' (di l T) a
 | [], I, T, hT, hk, ho, hr => hT.keep ⟨hk, ho, fun n sz v h => hr n sz v (by simp) h⟩
 | n :: l, I, T, hT, hk, ho, hr => by
  show TR I' w' (di l (dA n .none T)) a
  refine uN (l := l) (I := I.drop n) (hT.sub (I.drop_but n w)) hk (fun m b h => ?_) (fun m sz v hm h => ?_)
  ·refine ho m b ?_
   by_cases hmn : m = n
   ·simp only [In.drop, hmn, if_true] at h ⊢
    split at h
    ·cases h
    ·exact h
   ·simpa only [In.drop, hmn, ao] using h
  ·by_cases hmn : m = n
   ·simp only [In.drop, hmn, if_true] at h
    split at h
    ·cases h
    ·rename_i h2
     exact (h2 _ _ h).elim
   ·simp only [In.drop, hmn, ao] at h
    exact hr m sz v (by simp [hmn, hm]) h
theorem uO {u : Option (List Nat)} (hT : TR I w T a) (hH : HR I w H) (he : Ext I w I' w') (hk : Aa u I I') : TR I' w' (gN T u) a := by
 cases u with
 | none => exact hT.bare (he.toObj hH)
 | some l => exact uN hT (he.keeps hH) he.obj (hk l rfl)
theorem rB {g : Nat} {v : DV} (h : T.getD g .undef = v) (hv : v ≠ .undef) : T.set g v = T := by
 apply cg
 intro i
 rw [bB]
 split
 ·rename_i e
  subst e
  split
  ·rename_i hl
   rw [← h, ax, aC hl]
   rfl
  ·rename_i hl
   rw [ax, ch (by omega)] at h
   exact absurd h.symm hv
 ·rfl
theorem lA {ops : Array Oper} {j : Nat} {g : Tmp} {b : Bool} (hT : TR I w T a) (hj : (ops[j]?).bind (·.dst) = some g) (h : T.getD g .undef = .sc (.bool b)) : yielded ops a.tmps j = some b := by
 have := hT.val g
 rw [h] at this
 have h1 := this.sc_eq
 unfold yielded
 rw [hj]
 simp only [ab]
 rw [bC] at h1
 cases hg : a.tmps[g]? with
 | none => rw [hg] at h1; cases h1
 | some x =>
  rw [hg] at h1
  simp only [b7] at h1
  subst h1
  rfl
theorem lB {ops : Array Oper} {j : Nat} {g : Tmp} (hT : TR I w T a) (hj : (ops[j]?).bind (·.dst) = some g) (h : T.getD g .undef = .tup []) : yielded ops a.tmps j = none := by
 have := hT.val g
 rw [h] at this
 unfold yielded
 rw [hj]
 simp only [ab]
 generalize hx : a.tmps.getD g undef = x at this
 cases this with
 | tup _ vs hl =>
  rw [bC] at hx
  cases hg : a.tmps[g]? with
  | none => rfl
  | some y =>
   rw [hg] at hx
   simp only [b7] at hx
   subst hx
   rfl
theorem i7 (hT : TR I w T a) (d : Option Tmp) : TR I w (cY T d (.tup [])) (a.put d undef) := hT.put d (.tup [] #[] .nil)
theorem Goes.wp {o : Oper} {T' : List DV} {H' : Heap} {K : Act → World → Prop} {Q : Exit → Act → World → Prop} (h : Goes P o a I w T' H') (hk : ∀ I' w' u, Ext I w I' w' → HR I' w' H' → TR I' w' T' (a.put o.dst u) → K (a.put o.dst u) w') : o.wp P a w K Q := by
 obtain ⟨I', w', n, u, h1, h2, h3, h4, h5⟩ := h
 unfold Oper.wp
 rw [h1]
 rcases h5 with rfl | ⟨rfl, rfl⟩
 ·exact hk I' w' u h2 h3 h4
 ·exact hk I' w' undef h2 h3 h4
theorem fJ {f : Operand} {g : FuncId} {x y : List DV} {c : Call} (hT : TR I w T a) (h : cO T f = .fn (.func g) x y) : ∃ x' y', a.eval f = .func (.func g) x' y' ∧ LR I w (x ++ c.args.toList.map (cO T) ++ y) (x' ++ c.args.map a.eval ++ y').toList := by
 have hf := cR hT f
 rw [h] at hf
 obtain ⟨x', y', e, h1, h2⟩ := hf.fn_case
 refine ⟨x', y', e, ?_⟩
 have app : ∀ {l m : List DV} {l' m' : List Value}, LR I w l l' → LR I w m m' → LR I w (l ++ m) (l' ++ m') := by
  intro l m l' m' hl hm
  induction l generalizing l' with
  | nil => cases hl with | nil => exact hm
  | cons d r ih => cases hl with | cons _ _ u vs hd hr => exact .cons _ _ _ _ hd (ih hr)
 simp only [Array.toList_append]
 exact app (app h1 (gX hT c.args)) h2
theorem ga {o : Oper} {c : Call} {f : Operand} {g : FuncId} {x' y' : Array Value} (ho : o.op = .call c) (hc : c.callee = .value f) (hf : a.eval f = .func (.func g) x' y') (he : rA P g) : (execOp a.eval o).run P w = .ok (.enter g (x' ++ c.args.map a.eval ++ y')) w := by
 unfold execOp
 rw [ho]
 simp only [resolve, hc, hf, Deferred.ofValue]
 exact he _ _
end
section
variable {P : Program} {α : Type}
theorem uP {call : fp α} (hcall : mA P call) {I : In} {w : World} {T : List DV} {a : Act} {H : Heap} {o : Oper} {c : Call} {f : Operand} {g : FuncId} {x y : List DV} {sp : Bool} {k : K α} {r : α} {K : Act → World → Prop} {Q : Exit → Act → World → Prop} (hT : TR I w T a) (hH : HR I w H)
  (ho : o.op = .call c) (hc : c.callee = .value f) (hf : cO T f = .fn (.func g) x y)
  (h : (match (if sp = true then (x ++ c.args.toList.map (cO T) ++ y, T, H) else gC (x ++ c.args.toList.map (cO T) ++ y) T H) with
   | (A, T, H) => call g A H fun v H u => k (cY (gN T u) o.dst v) H) = some r)
  (hk : ∀ I' w' T' H' u, Ext I w I' w' → HR I' w' H' → TR I' w' T' (a.put o.dst u) → k T' H' = some r → K (a.put o.dst u) w') : o.wp P a w K Q := by
 obtain ⟨x', y', e1, e2⟩ := fJ (c := c) hT hf
 split at h
 rename_i A1 T1 H1 hs
 obtain ⟨I1, g1, g2, g3, g4⟩ : ∃ I1, HR I1 w H1 ∧ Ext I w I1 w ∧ TR I1 w T1 a ∧ LR I1 w A1 (x' ++ c.args.map a.eval ++ y').toList := by
  split at hs
  ·simp only [ae] at hs
   obtain ⟨rfl, rfl, rfl⟩ := hs
   exact ⟨I, hH, Ext.refl I w, hT, e2⟩
  ·exact f9 hH hT e2 hs
 obtain ⟨k1, k2⟩ := hcall g1 g4 h
 unfold Oper.wp
 rw [ga ho hc e1 k1, Oper.upon_enter]
 refine Calls.mono k2 ?_
 rintro e w' he
 cases e with
 | returned z =>
  obtain ⟨I', v, H', u, m1, m2, m3, m4, m5⟩ := he
  exact hk I' w' _ H' z (g2.trans m2) m3 ((uO g3 g1 m2 m5).put _ m4) m1
 | _ => exact he.elim
theorem uQ {cx : Cx} {call : fp α} (hcall : mA cx.P call) {d : Nat} {ops : Array Oper} {k : K α} {r : α} {Q : Exit → Act → World → Prop} : ∀ {l : List Oper} {I : In} {w : World} {T : List DV} {a : Act} {H : Heap}, TR I w T a → HR I w H → d6 cx call d ops l T H k = some r →
  (∀ I' w' T' H' a', Ext I w I' w' → HR I' w' H' → TR I' w' T' a' → k T' H' = some r → Q .normal a' w') → wpList cx.P ops Q l a w
 | [], I, w, T, a, H, hT, hH, h, hQ => hQ I w T H a (Ext.refl I w) hH hT h
 | o :: l, I, w, T, a, H, hT, hH, h, hQ => by
  have next : ∀ {I' : In} {w' : World} {T' : List DV} {H' : Heap} {a' : Act}, Ext I w I' w' → HR I' w' H' → TR I' w' T' a' → d6 cx call d ops l T' H' k = some r → wpList cx.P ops Q l a' w' := fun he hH' hT' h' =>
   uQ hcall hT' hH' h' fun I2 w2 T2 H2 a2 he2 hH2 hT2 h2 => hQ I2 w2 T2 H2 a2 (he.trans he2) hH2 hT2 h2
  have hrun : ∀ {R : Option α}, (match o.op with
   | .call c => match c.callee with
    | .value f => match cO T f with
     | .fn (.func g) a b => match (if kf g = true then (a ++ c.args.toList.map (cO T) ++ b, T, H) else gC (a ++ c.args.toList.map (cO T) ++ b) T H) with
      | (A, T, H) => call g A H fun v H u => d6 cx call d ops l (cY (gN T u) o.dst v) H k
     | _ => none
    | _ => iu cx.P d o T H fun T H => d6 cx call d ops l T H k
   | _ => iu cx.P d o T H fun T H => d6 cx call d ops l T H k) = some r → o.wp cx.P a w (wpList cx.P ops Q l) Q := by
   intro R h
   have plain : (iu cx.P d o T H fun T H => d6 cx call d ops l T H k) = some r → o.wp cx.P a w (wpList cx.P ops Q l) Q := by
    intro h
    obtain ⟨T', H', h1, h2⟩ := uM hT hH h
    exact h2.wp fun I' w' u he hH' hT' => next he hH' hT' h1
   split at h
   ·rename_i c ho
    split at h
    ·rename_i f hc
     split at h
     ·rename_i g x y hf
      exact uP hcall (sp := kf g) (k := fun T H => d6 cx call d ops l T H k) hT hH ho hc hf h fun I' w' T' H' u he hH' hT' h' => next he hH' hT' h'
     ·cases h
    ·exact plain h
   ·exact plain h
  unfold d6 at h
  simp only [td, ya] at h
  try simp only at h
  unfold wpList
  split at h
  ·rename_i hg
   rw [if_pos (by simp [Region.wanted, hg])]
   exact .inl (hrun (R := some r) h)
  ·rename_i j want hg
   split at h
   ·rename_i g hj
    split at h
    ·rename_i b hb
     have hy := lA hT hj hb
     have hfix : T.set g (.sc (.bool b)) = T := rB hb (by simp)
     cases b with
     | true =>
      rw [hfix] at h
      cases want with
      | true =>
       rw [if_pos (by simp [Region.wanted, hg, hy])]
       exact .inl (hrun (R := some r) h)
      | false =>
       rw [if_neg (by simp [Region.wanted, hg, hy])]
       exact next (Ext.refl I w) hH (i7 hT o.dst) h
     | false =>
      rw [hfix] at h
      cases want with
      | true =>
       rw [if_neg (by simp [Region.wanted, hg, hy])]
       exact next (Ext.refl I w) hH (i7 hT o.dst) h
      | false =>
       rw [if_pos (by simp [Region.wanted, hg, hy])]
       exact .inl (hrun (R := some r) h)
    ·rename_i hb
     have hy := lB hT hj hb
     rw [if_neg (by simp [Region.wanted, hg, hy])]
     exact next (Ext.refl I w) hH (i7 hT o.dst) h
    ·cases h
   ·cases h
end
section
variable {P : Program} {α : Type}
theorem tu {c x y : DV} {k : DV → Option α} : kQ c x y k = (kQ c x y some).bind k := by
 unfold kQ
 repeat' split
 all_goals first | rfl | simp
theorem uR {op : BinOp} {t : TypeId} {x y : DV} {k : DV → Option α} : sC P op t x y k = (sC P op t x y some).bind k := by
 unfold sC
 repeat' split
 all_goals first | rfl | simp
theorem nU {t : TypeId} {H : Heap} {x : DV} {i : Int} {k : DV → Option α} : fO P t H x i k = (fO P t H x i some).bind k := by
 unfold fO
 repeat' split
 all_goals first | rfl | simp
theorem rC {t : TypeId} {x : DV} {i : Int} {k : DV → Option α} : lK P t x i k = (lK P t x i some).bind k := by
 unfold lK
 repeat' split
 all_goals first | rfl | simp
theorem j7 {x : DV} {n : Nat} {β : Type} {k : Nat → Option β} : im x n k = (im x n some).bind k := by
 unfold im
 repeat' split
 all_goals first | rfl | simp
theorem uS {lo : Option DV} {k : Nat → Nat → Option α} {h : Nat} : nJ lo k h = (nJ lo (fun a b => some (a, b)) h).bind fun e => k e.1 e.2 := by
 unfold nJ
 split
 ·rw [j7, j7 (k := fun l => some (l, h))]
  cases im _ h some <;> rfl
 ·rfl
theorem pH {lo hi : Option DV} {n : Nat} {k : Nat → Nat → Option α} : fi n lo hi k = (fi n lo hi (fun a b => some (a, b))).bind fun e => k e.1 e.2 := by
 unfold fi
 split
 ·rw [j7, j7 (k := nJ lo _)]
  cases im _ n some with
  | none => rfl
  | some x => exact uS
 ·exact uS
theorem rD {t : TypeId} {H : Heap} {x : DV} {lo hi mx : Option DV} {k : DV → Option α} : ip P t H x lo hi mx k = (ip P t H x lo hi mx some).bind k := by
 have B : ∀ {n : Nat} {f : Nat → Nat → DV}, (fi n lo hi fun l h => k (f l h)) = (fi n lo hi fun l h => some (f l h)).bind k := by
  intro n f
  rw [pH, pH (k := fun l h => some (f l h))]
  cases fi n lo hi _ <;> rfl
 unfold ip
 repeat' split
 all_goals first | rfl | exact B | simp
theorem fq {d : Nat} {o : Oper} {H : Heap} {b : Blk} {v : Nat → DV} {k : DV → eg → Option α} : eC d o H b v k = (eC d o H b v fun v a => some (v, a)).bind fun e => k e.1 e.2 := by
 unfold eC
 simp only
 split <;> rfl
theorem tw {z : DV} {n : Int} {g : DV → Bool → DV} {k : DV → eg → Option α} : ∀ {ks : List (List Int)} {vs : List DV}, (p8 ks vs z n fun u b => k (g u b) none) = (p8 ks vs z n fun u b => some (g u b, (none : eg))).bind fun e => k e.1 e.2
 | [], vs => by cases vs <;> rfl
 | l :: ks, [] => rfl
 | l :: ks, v :: vs => by
  simp only [p8]
  split
  ·rfl
  ·exact tw
theorem kg {d : Nat} {o : Oper} {T : List DV} {H : Heap} {k : DV → eg → Option α} : dI P d o T H k = (dI P d o T H fun v a => some (v, a)).bind fun e => k e.1 e.2 := by
 have bd : ∀ {x : Option DV} {k : DV → eg → Option α}, x.bind (fun v => k v none) = (x.bind fun v => some (v, (none : eg))).bind fun e => k e.1 e.2 := by
  intro x k
  cases x <;> rfl
 unfold dI
 simp only
 split
 all_goals try first | rfl | exact fq
 ·rw [tu, tu (k := fun x => some (x, none))]; exact bd
 ·split
  ·exact fq
  ·rfl
 ·split
  ·split
   ·exact fq
   ·rfl
  ·rfl
 ·split
  ·split <;> rfl
  ·rfl
 ·repeat' split
  all_goals first | rfl | exact fq
 ·split <;> rfl
 ·split <;> rfl
 ·split <;> rfl
 ·rw [uR, uR (k := fun x => some (x, none))]; exact bd
 ·split <;> rfl
 ·repeat' split
  all_goals rfl
 ·repeat' split
  all_goals first | rfl | exact fq
 ·rw [rD, rD (k := fun x => some (x, none))]; exact bd
 ·split <;> rfl
 ·split <;> rfl
 ·split
  ·rw [nU, nU (k := fun x => some (x, none))]; exact bd
  ·rfl
 ·split
  ·rw [rC, rC (k := fun x => some (x, none))]; exact bd
  ·rfl
 ·split
  ·exact fq
  ·rfl
 ·split
  ·split
   ·split <;> rfl
   ·rfl
  ·rfl
 ·split
  ·split
   ·split
    ·exact tw (g := fun u b => if _ = true then .tup [u, .sc (.bool b)] else u)
    ·rfl
   ·rfl
  ·rfl
 ·split
  ·split <;> rfl
  ·rfl
 ·split
  ·repeat' split
   all_goals rfl
  ·repeat' split
   all_goals rfl
  ·repeat' split
   all_goals rfl
  ·rfl
end
section
variable {P : Program} {α : Type} {H H' : Heap}
theorem xg {T : List DV} {o : Oper} {x : Operand} {n : Nat} (ho : nK o = true) (hx : x ∈ o.op.operands.toList) (hn : n ∈ fD (cO T x)) : n ∈ d9 T o := by
 unfold d9
 rw [if_pos ho]
 exact List.mem_flatMap.2 ⟨x, hx, hn⟩
theorem yo {t : TypeId} {x : DV} (h : ∀ n ∈ fD x, H n = H' n) : gM P t H x = gM P t H' x := by
 cases x <;> simp only [gM] <;> rw [h _ (by simp [fD])]
theorem xh {t : TypeId} {x v : DV} (h : ∀ n ∈ fD x, H n = H' n) : lM P t H x v = lM P t H' x v := by
 unfold lM
 cases x <;> simp only <;> rw [h _ (by simp [fD])]
theorem uT {t : TypeId} {x : DV} {i : Int} {k : DV → Option α} (h : ∀ n ∈ fD x, H n = H' n) : fO P t H x i k = fO P t H' x i k := by
 unfold fO
 cases x <;> simp only <;> rw [h _ (by simp [fD])]
theorem xi {t : TypeId} {x : DV} {lo hi mx : Option DV} {k : DV → Option α} (h : ∀ n ∈ fD x, H n = H' n) : ip P t H x lo hi mx k = ip P t H' x lo hi mx k := by
 cases mx with
 | some _ => rfl
 | none =>
  unfold ip
  cases x <;> first | (simp only; rw [h _ (by simp [fD])]; done) | (generalize P.underlying t = u; cases u with | none => rfl | some ty => (cases ty <;> first | rfl | (simp only; rw [h _ (by simp [fD])]; done) | (rename_i v _; cases v <;> first | rfl | (rename_i A _ _; cases A <;> rfl)) | (rename_i v; cases v <;> first | rfl | (rename_i A _ _; cases A <;> rfl)) | (rename_i v _ _; cases v <;> first | rfl | (rename_i A _ _; cases A <;> rfl))))
theorem Ab {t : TypeId} {x : DV} (h : ∀ n ∈ fD x, H n = H' n) : sB P t H x = sB P t H' x := by
 unfold sB
 cases x <;> first | (simp only; rw [h _ (by simp [fD])]; done) | (generalize P.underlying t = u; cases u with | none => rfl | some ty => (cases ty <;> first | rfl | (simp only; rw [h _ (by simp [fD])]; done) | (rename_i v _; cases v <;> first | rfl | (rename_i A _ _; cases A <;> rfl)) | (rename_i v; cases v <;> first | rfl | (rename_i A _ _; cases A <;> rfl)) | (rename_i v _ _; cases v <;> first | rfl | (rename_i A _ _; cases A <;> rfl))))
theorem tx : ∀ {m b : Nat}, (∀ n, b ≤ n → n ≤ b + m → H n = H' n) → ij H m b = ij H' m b ∧ b ≤ ij H m b ∧ ij H m b ≤ b + m
 | 0, b, h => ⟨rfl, ak _, ak _⟩
 | m + 1, b, h => by
  have h0 := h b (ak _) (by omega)
  obtain ⟨g1, g2, g3⟩ := tx (m := m) (b := b + 1) (fun n h1 h2 => h n (by omega) (by omega))
  simp only [ij]
  rw [← h0]
  cases H b with
  | none => exact ⟨rfl, ak _, Nat.le_add_right _ _⟩
  | some _ => exact ⟨g1, aP (Nat.le_succ b) g2, aP g3 (by omega)⟩
theorem iy {d : Nat} {o : Oper} {b : Blk} {v : Nat → DV} {k : DV → eg → Option α} (h : ∀ n, base d o.dst ≤ n → n < base d o.dst + 64 → H n = H' n) : eC d o H b v k = eC d o H' b v k := by
 obtain ⟨g1, g2, g3⟩ := tx (m := 63) (b := base d o.dst) (fun n h1 h2 => h n h1 (by omega))
 unfold eC
 simp only
 rw [← g1, h _ g2 (by omega)]
theorem yp {s : Sh} {y : DV} (h : ∀ n ∈ fD y, H n = H' n) : d4 H s y = d4 H' s y := by
 cases y
 case rw n => simp only [d4]; rw [h n (by simp [fD])]
 case sl n o l => simp only [d4]; rw [h n (by simp [fD])]
 case sc v =>
  cases v with
  | slice a n c => cases a <;> rfl
  | _ => rfl
 all_goals rfl
theorem BX {d : Nat} {o : Oper} {T T' : List DV} {k : DV → eg → Option α} (hT : ∀ x ∈ o.op.operands.toList, cO T x = cO T' x) (hR : ∀ n ∈ d9 T o, H n = H' n) (hB : sE o = true → ∀ n, base d o.dst ≤ n → n < base d o.dst + 64 → H n = H' n) : dI P d o T H k = dI P d o T' H' k := by
 have hN : nK o = true → ∀ x ∈ o.op.operands.toList, ∀ n ∈ fD (cO T' x), H n = H' n := fun ho x hx n hn => hR n (xg ho hx (by rw [hT x hx]; exact hn))
 have pairs : ∀ ps : Array (Nat × Operand), (∀ x ∈ (ps.toList.map (·.2)), cO T x = cO T' x) → (ps.toList.map fun e => (e.1, cO T e.2)) = ps.toList.map fun e => (e.1, cO T' e.2) := fun ps hp => bi fun p hm => by rw [hp p.2 (bf hm)]
 have pairs2 : ∀ ps : Array (Nat × Operand), (∀ x ∈ (ps.toList.map (·.2)), cO T x = cO T' x) → (ps.toList.map fun e => cO T e.2) = ps.toList.map fun e => cO T' e.2 := fun ps hp => bi fun p hm => by rw [hp p.2 (bf hm)]
 obtain ⟨dst, op, type, pos, after, guard⟩ := o
 cases op
 case move x => simp only [dI]; rw [hT x (by simp [Op.operands])]
 case assign x => simp only [dI]; rw [hT x (by simp [Op.operands])]
 case pick c a b => simp only [dI]; rw [hT c (by simp [Op.operands]), hT a (by simp [Op.operands]), hT b (by simp [Op.operands])]
 case alloc e =>
  simp only [dI]
  split
  ·exact iy (hB rfl)
  ·rfl
 case box e x =>
  simp only [dI]
  rw [hT x (by simp [Op.operands])]
  repeat' split
  all_goals first | rfl | exact iy (hB rfl)
 case build t ps => simp only [dI]; rw [pairs ps fun x hx => hT x (by simpa [Op.operands] using hx)]
 case buildSlice t n ps =>
  simp only [dI]
  rw [pairs2 ps fun x hx => hT x (by simpa [Op.operands] using hx)]
  repeat' split
  all_goals first | rfl | exact iy (hB rfl)
 case load t x => simp only [dI]; rw [hT x (by simp [Op.operands]), yo (hN rfl x (by simp [Op.operands]))]
 case store t x v => simp only [dI]; rw [hT x (by simp [Op.operands]), hT v (by simp [Op.operands]), xh (hN rfl x (by simp [Op.operands]))]
 case nilCheck x => simp only [dI]; rw [hT x (by simp [Op.operands])]
 case binOp q t x y z => simp only [dI]; rw [hT x (by simp [Op.operands]), hT y (by simp [Op.operands])]
 case unOp q t x => simp only [dI]; rw [hT x (by simp [Op.operands])]
 case convert q t x =>
  simp only [dI]
  rw [hT x (by simp [Op.operands])]
  have he : d4 H (.int .u8) (cO T' x) = d4 H' (.int .u8) (cO T' x) := yp (hN rfl x (by simp [Op.operands]))
  generalize cO T' x = y at he
  split
  ·rfl
  ·rfl
  ·rw [he]
  ·rfl
  ·rfl
 case makeFunc F a b =>
  simp only [dI]
  rw [bi (l := a.toList) fun x hx => hT x (by simp only [Op.operands, Array.toList_append, au]; exact .inl hx), bi (l := b.toList) fun x hx => hT x (by simp only [Op.operands, Array.toList_append, au]; exact .inr hx)]
 case makeSlice t l c =>
  simp only [dI]
  rw [hT l (by simp [Op.operands]), hT c (by simp [Op.operands])]
  repeat' split
  all_goals first | rfl | exact iy (hB rfl)
 case slice t x lo hi mx =>
  simp only [dI]
  have m : ∀ y : Option Operand, (∀ z, y = some z → cO T z = cO T' z) → y.map (cO T) = y.map (cO T') := fun y hy => by
   cases y with
   | none => rfl
   | some z => simp [hy z rfl]
  rw [hT x (by simp [Op.operands]), m lo fun z hz => hT z (by simp [Op.operands, hz]), m hi fun z hz => hT z (by simp [Op.operands, hz]), m mx fun z hz => hT z (by simp [Op.operands, hz]), xi (hN rfl x (by simp [Op.operands]))]
 case fieldAddr t x f => simp only [dI]; rw [hT x (by simp [Op.operands])]
 case field t x f => simp only [dI]; rw [hT x (by simp [Op.operands])]
 case indexAddr t x i =>
  simp only [dI]
  rw [hT x (by simp [Op.operands]), hT i (by simp [Op.operands])]
  split
  ·exact uT (hN rfl x (by simp [Op.operands]))
  ·rfl
 case index t x i => simp only [dI]; rw [hT x (by simp [Op.operands]), hT i (by simp [Op.operands])]
 case makeMap t r =>
  cases r with
  | none =>
   simp only [dI]
   split
   ·exact iy (hB rfl)
   ·rfl
  | some r => rfl
 case insert t m i x =>
  simp only [dI]
  rw [hT m (by simp [Op.operands]), hT i (by simp [Op.operands]), hT x (by simp [Op.operands])]
  split
  ·rename_i hm _
   rw [hN rfl m (by simp [Op.operands]) _ (by rw [hm]; simp [fD])]
  ·rfl
 case lookup t x i c =>
  simp only [dI]
  have : iq H (cO T' x) = iq H' (cO T' x) := by
   have hx := hN rfl x (by simp [Op.operands])
   unfold iq
   cases hd : cO T' x <;> simp only
   rw [hx _ (by rw [hd]; simp [fD])]
  rw [hT x (by simp [Op.operands]), hT i (by simp [Op.operands]), this]
 case extract x i => simp only [dI]; rw [hT x (by simp [Op.operands])]
 case call c =>
  have hA : c.args.toList.map (cO T) = c.args.toList.map (cO T') := bi fun x hx => hT x (by simp [Op.operands, Call.operands, Array.mem_toList_iff.1 hx])
  simp only [dI]
  rw [hA]
  split
  ·split
   ·rename_i x t hx ht
    have hm : x ∈ (Op.call c).operands.toList := by
     have : x ∈ c.args.toList := by rw [hx]; simp
     simp [Op.operands, Call.operands, Array.mem_toList_iff.1 this]
    rw [hT x hm, Ab (hN rfl x hm)]
   ·rfl
  ·rfl
  ·rfl
  ·rfl
 all_goals rfl
end
abbrev St := List DV × Heap
def dX (u : List Nat) (n : Nat) (b : Option Blk) : Option Blk := u.foldl (fun b m => if n = m then none else match b with | some b => some (b.sub m .none) | none => none) b
theorem gb : ∀ (u : List Nat) (H : Heap) (n : Nat), (cZ u H) n = dX u n (H n)
 | [], H, n => rfl
 | m :: u, H, n => by
  show (cZ u (H.sub m .none)) n = dX u n _
  rw [gb u]
  rfl
theorem lC : ∀ (u : List Nat) (n : Nat), dX u n none = none
 | [], n => rfl
 | m :: u, n => by
  show dX u n (if n = m then none else none) = none
  rw [ite_self]
  exact lC u n
mutual
theorem DV.sub_clean {m : Nat} {g : Sub} : ∀ (d : DV), m ∉ d.rows → d.sub m g = d
 | .rp n sz i p, h => by
  have : n ≠ m := fun e => h (by simp [DV.rows, e])
  simp [DV.sub, this]
 | .rw n, h => by
  have : n ≠ m := fun e => h (by simp [DV.rows, e])
  simp [DV.sub, this]
 | .sl n o l, h => by
  have : n ≠ m := fun e => h (by simp [DV.rows, e])
  simp [DV.sub, this]
 | .fn F a b, h => by
  simp only [DV.rows, au, not_or] at h
  simp only [DV.sub]
  rw [fu a h.1, fu b h.2]
 | .agg cs, h => by
  simp only [DV.rows] at h
  simp only [DV.sub]
  rw [fu cs h]
 | .tup cs, h => by
  simp only [DV.rows] at h
  simp only [DV.sub]
  rw [fu cs h]
 | .tab ks vs, h => by
  simp only [DV.rows] at h
  simp only [DV.sub]
  rw [fu vs h]
 | .undef, h => rfl
 | .sc v, h => rfl
 | .ptr n o p, h => rfl
 | .pi its, h => rfl
 | .vs s xs, h => rfl
 | .arr s n xs, h => rfl
 | .mh n, h => rfl
theorem fu {m : Nat} {g : Sub} : ∀ (l : List DV), m ∉ jk l → dA m g l = l
 | [], h => rfl
 | d :: r, h => by
  simp only [jk, au, not_or] at h
  simp only [dA]
  rw [DV.sub_clean d h.1, fu r h.2]
end
theorem Blk.sub_clean {m : Nat} {g : Sub} {b : Blk} (h : m ∉ jl (some b)) : b.sub m g = b := by
 cases b with
 | obj cs => simp only [Blk.sub]; rw [fu cs h]
 | mp ks vs => simp only [Blk.sub]; rw [fu vs h]
 | row E s xs => rfl
theorem disjB_iff {u h : List Nat} : eh u h = true ↔ ∀ n ∈ u, n ∉ h := by
 unfold eh
 simp
theorem pI (m : Nat) (u : List Nat) (n : Nat) (b : Option Blk) : dX (m :: u) n b = dX u n (if n = m then none else match b with | some b => some (b.sub m .none) | none => none) := rfl
theorem eZ : ∀ {u : List Nat} {n : Nat} {b : Option Blk}, n ∉ u → eh u (jl b) = true → dX u n b = b
 | [], n, b, h1, h2 => rfl
 | m :: u, n, b, h1, h2 => by
  rw [disjB_iff] at h2
  simp only [aA, not_or] at h1
  rw [pI, if_neg h1.1]
  cases b with
  | none => exact lC u n
  | some b =>
   simp only
   rw [Blk.sub_clean (h2 m (aI ..))]
   exact eZ h1.2 (disjB_iff.2 fun k hk => h2 k (av _ hk))
mutual
theorem DV.sub_comm (m k : Nat) : ∀ (d : DV), (d.sub m .none).sub k .none = (d.sub k .none).sub m .none
 | .rp n sz i p => by
  by_cases h1 : n = m <;> by_cases h2 : n = k <;> simp [DV.sub, h1, h2] <;> (try split) <;> simp_all [DV.sub]
 | .rw n => by
  by_cases h1 : n = m <;> by_cases h2 : n = k <;> simp [DV.sub, h1, h2, Sub.whole] <;> (try split) <;> simp_all [DV.sub, Sub.whole]
 | .sl n o l => by
  by_cases h1 : n = m <;> by_cases h2 : n = k <;> simp [DV.sub, h1, h2, Sub.part] <;> (try split) <;> simp_all [DV.sub, Sub.part]
 | .fn F a b => by simp only [DV.sub]; rw [fv m k a, fv m k b]
 | .agg cs => by simp only [DV.sub]; rw [fv m k cs]
 | .tup cs => by simp only [DV.sub]; rw [fv m k cs]
 | .tab ks vs => by simp only [DV.sub]; rw [fv m k vs]
 | .undef => rfl
 | .sc v => rfl
 | .ptr n o p => rfl
 | .pi its => rfl
 | .vs s xs => rfl
 | .arr s n xs => rfl
 | .mh n => rfl
theorem fv (m k : Nat) : ∀ (l : List DV), dA k .none (dA m .none l) = dA m .none (dA k .none l)
 | [] => rfl
 | d :: r => by
  simp only [dA]
  rw [DV.sub_comm m k d, fv m k r]
end
theorem Blk.sub_comm (m k : Nat) : ∀ (b : Blk), (b.sub m .none).sub k .none = (b.sub k .none).sub m .none
 | .obj cs => by simp only [Blk.sub]; rw [fv]
 | .mp ks vs => by simp only [Blk.sub]; rw [fv]
 | .row E s xs => rfl
def fd (n m : Nat) (b : Option Blk) : Option Blk := if n = m then none else match b with | some b => some (b.sub m .none) | none => none
theorem iz (n m : Nat) : fd n m none = none := by unfold fd; split <;> rfl
theorem j8 (n : Nat) (b : Option Blk) : fd n n b = none := by unfold fd; rw [if_pos rfl]
theorem mB {n m : Nat} (h : n ≠ m) (b : Blk) : fd n m (some b) = some (b.sub m .none) := by unfold fd; rw [if_neg h]
theorem xj (n m k : Nat) (b : Option Blk) : fd n k (fd n m b) = fd n m (fd n k b) := by
 cases b with
 | none => rw [iz, iz, iz]
 | some b =>
  by_cases h1 : n = m
  ·subst h1
   rw [j8, iz, j8]
  ·by_cases h2 : n = k
   ·subst h2
    rw [j8, j8, iz]
   ·rw [mB h1, mB h2, mB h2, mB h1, Blk.sub_comm]
theorem nV (n m : Nat) : ∀ (u : List Nat) (b : Option Blk), dX u n (fd n m b) = fd n m (dX u n b)
 | [], b => rfl
 | k :: u, b => by
  show dX u n (fd n k (fd n m b)) = fd n m (dX u n (fd n k b))
  rw [xj, nV n m u]
theorem pJ (n : Nat) : ∀ (u v : List Nat) (b : Option Blk), dX u n (dX v n b) = dX v n (dX u n b)
 | u, [], b => rfl
 | u, m :: v, b => by
  show dX u n (dX v n (fd n m b)) = dX v n (fd n m (dX u n b))
  rw [pJ n u v, nV]
def mC (u : List Nat) (d : DV) : DV := u.foldl (fun d m => d.sub m .none) d
theorem rE (m : Nat) : ∀ (T : List DV) (t : Nat), (dA m .none T).getD t .undef = (T.getD t .undef).sub m .none
 | [], t => rfl
 | d :: r, 0 => rfl
 | d :: r, t + 1 => by
  have := rE m r t
  simpa [dA] using this
theorem pK (m : Nat) : ∀ (T : List DV), (dA m .none T).length = T.length
 | [] => rfl
 | d :: r => by simp [dA, pK m r]
theorem jm : ∀ (u : List Nat) (T : List DV) (t : Nat), (di u T).getD t .undef = mC u (T.getD t .undef)
 | [], T, t => rfl
 | m :: u, T, t => by
  show (di u (dA m .none T)).getD t .undef = mC u ((T.getD t .undef).sub m .none)
  rw [jm u, rE]
theorem gQ : ∀ (u : List Nat) (T : List DV), (di u T).length = T.length
 | [], T => rfl
 | m :: u, T => by
  show (di u (dA m .none T)).length = _
  rw [gQ u, pK]
theorem jn : ∀ {u : List Nat} {d : DV}, eh u d.rows = true → mC u d = d
 | [], d, h => rfl
 | m :: u, d, h => by
  rw [disjB_iff] at h
  show mC u (d.sub m .none) = d
  rw [DV.sub_clean d (h m (aI ..))]
  exact jn (disjB_iff.2 fun k hk => h k (av _ hk))
theorem uU (m : Nat) (v : DV) : ∀ (T : List DV) (d : Nat), dA m .none (T.set d v) = (dA m .none T).set d (v.sub m .none)
 | [], d => rfl
 | x :: r, 0 => rfl
 | x :: r, d + 1 => by simp [dA, uU m v r d]
theorem rF : ∀ (u : List Nat) (T : List DV) (d : Nat) (v : DV), di u (T.set d v) = (di u T).set d (mC u v)
 | [], T, d, v => rfl
 | m :: u, T, d, v => by
  show di u (dA m .none (T.set d v)) = (di u (dA m .none T)).set d (mC u (v.sub m .none))
  rw [uU, rF u]
theorem rG {u : List Nat} {T : List DV} {d : Option Tmp} {v : DV} (h : eh u v.rows = true) : di u (cY T d v) = cY (di u T) d v := by
 cases d with
 | none => rfl
 | some d => simp only [cY]; rw [rF, jn h]
theorem rH (m : Nat) : ∀ (u : List Nat) (T : List DV), di u (dA m .none T) = dA m .none (di u T)
 | [], T => rfl
 | k :: u, T => by
  show di u (dA k .none (dA m .none T)) = dA m .none (di u (dA k .none T))
  rw [fv, rH m u]
theorem pL : ∀ (u v : List Nat) (T : List DV), di u (di v T) = di v (di u T)
 | u, [], T => rfl
 | u, m :: v, T => by
  show di u (di v (dA m .none T)) = di v (dA m .none (di u T))
  rw [pL u v, rH]
theorem sM (H : Heap) (a : eg) : H.act2 (Act2.of a) = H.act a := by
 funext n
 cases a with
 | none => rfl
 | some p =>
  obtain ⟨m, b⟩ := p
  unfold Heap.act2 Act2.of Heap.act Heap.set
  by_cases e : n = m
  ·simp [e]
  ·simp [e]
   rfl
structure Rec where
 o : Oper
 v : DV
 act : Act2
 r : List Nat
 h : List Nat
 T : List DV
 H : Heap
def Rec.did (e : Rec) : Did := ⟨e.o, e.r, e.act.W, e.act.u, e.h, e.T, e.H⟩
def Rec.eff (e : Rec) (s : St) : St := (cY (di e.act.u s.1) e.o.dst e.v, s.2.act2 e.act)
def dY : Nat → (Nat → Bool) → List Rec → St → St
 | _, _, [], s => s
 | m, S, e :: r, s => dY (m + 1) S r (if S m then e.eff s else s)
def cU : List Rec → St → St
 | [], s => s
 | e :: r, s => cU r (e.eff s)
def Agr (L : List Tmp) (N : Nat → Prop) (s s' : St) : Prop := s.1.length = s'.1.length ∧ (∀ t ∈ L, s.1.getD t .undef = s'.1.getD t .undef) ∧ ∀ n, N n → s.2 n = s'.2 n
def rI (e : Rec) (L : List Tmp) (N : Nat → Prop) (s : St) : Prop := (∀ d, e.o.dst = some d → d ∉ L) ∧ (∀ n ∈ e.act.W, ¬ N n) ∧ (∀ n, N n → dX e.act.u n (s.2 n) = s.2 n) ∧ ∀ t ∈ L, mC e.act.u (s.1.getD t .undef) = s.1.getD t .undef
section
variable {L : List Tmp} {N : Nat → Prop} {s s' : St} {e : Rec} {S S' : Nat → Bool}
theorem qf {T : List DV} {d : Option Tmp} {v : DV} {t : Nat} (h : ∀ x, d = some x → x ≠ t) : (cY T d v).getD t .undef = T.getD t .undef := by
 cases d with
 | none => rfl
 | some d =>
  have : d ≠ t := h d rfl
  simp [cY, ax, bB, this]
theorem rJ (T : List DV) (d : Option Tmp) (v : DV) : (cY T d v).length = T.length := by cases d <;> simp [cY]
theorem Agr.both (h : Agr L N s s') (e : Rec) : Agr L N (e.eff s) (e.eff s') := by
 obtain ⟨h1, h2, h3⟩ := h
 refine ⟨?_, fun t ht => ?_, fun n hn => ?_⟩
 ·simp only [Rec.eff, rJ, gQ, h1]
 ·simp only [Rec.eff]
  by_cases hd : e.o.dst = some t
  ·rw [hd]
   simp only [cY, ax, bB, gQ, h1, if_true]
  ·have hne : ∀ x, e.o.dst = some x → x ≠ t := fun x hx e' => hd (by rw [hx, e'])
   rw [qf hne, qf hne, jm, jm, h2 t ht]
 ·simp only [Rec.eff, Heap.act2]
  split
  ·rfl
  ·rw [gb, gb, h3 n hn]
theorem Agr.right (h : Agr L N s s') (hf : rI e L N s) : Agr L N s (e.eff s') := by
 obtain ⟨h1, h2, h3⟩ := h
 refine ⟨?_, fun t ht => ?_, fun n hn => ?_⟩
 ·simp only [Rec.eff, rJ, gQ, h1]
 ·simp only [Rec.eff]
  rw [qf (fun x hx e' => hf.1 x hx (e' ▸ ht)), jm, ← h2 t ht, hf.2.2.2 t ht]
 ·simp only [Rec.eff, Heap.act2]
  rw [if_neg (fun hc => hf.2.1 n (by simpa using hc) hn), gb, ← h3 n hn, hf.2.2.1 n hn]
theorem Agr.symm (h : Agr L N s s') : Agr L N s' s := ⟨h.1.symm, fun t ht => (h.2.1 t ht).symm, fun n hn => (h.2.2 n hn).symm⟩
theorem Agr.left (h : Agr L N s s') (hf : rI e L N s) : Agr L N (e.eff s) s' := by
 refine (h.symm.right ⟨hf.1, hf.2.1, fun n hn => ?_, fun t ht => ?_⟩).symm
 ·rw [← h.2.2 n hn]
  exact hf.2.2.1 n hn
 ·rw [← h.2.1 t ht]
  exact hf.2.2.2 t ht
theorem wv : ∀ {l : List Rec} {m : Nat} {s s' : St}, Agr L N s s' → (∀ i e, l[i]? = some e → S (m + i) = false → rI e L N (cU (l.take i) s)) → Agr L N (cU l s) (dY m S l s')
 | [], _, _, _, h, _ => h
 | e :: r, m, s, s', h, hO => by
  simp only [cU, dY]
  refine wv ?_ (fun i e' h1 h2 => hO (i + 1) e' h1 (by rw [← h2]; congr 1; omega))
  split
  ·exact h.both e
  ·rename_i hS
   exact h.left (hO 0 e rfl (by simpa using hS))
theorem ww : ∀ {l : List Rec} {m : Nat} {s s' : St}, Agr L N s s' → (∀ i e, l[i]? = some e → S (m + i) = true → rI e L N s) → Agr L N s (dY m S l s')
 | [], _, _, _, h, _ => h
 | e :: r, m, s, s', h, hO => by
  simp only [dY]
  refine ww ?_ (fun i e' h1 h2 => hO (i + 1) e' h1 (by rw [← h2]; congr 1; omega))
  split
  ·rename_i hS
   exact h.right (hO 0 e rfl (by simpa using hS))
  ·exact h
theorem lD : ∀ {l l' : List Rec} {m : Nat} {s : St}, dY m S (l ++ l') s = dY (m + l.length) S l' (dY m S l s)
 | [], _, _, _ => rfl
 | e :: r, l', m, s => by
  simp only [List.cons_append, dY, aJ]
  rw [lD]
  congr 1
  omega
theorem lE : ∀ {l l' : List Rec} {s : St}, cU (l ++ l') s = cU l' (cU l s)
 | [], _, _ => rfl
 | e :: r, l', s => by simp only [List.cons_append, cU]; exact lE
theorem mD : ∀ {l : List Rec} {m : Nat} {s : St}, (∀ i, i < l.length → S (m + i) = S' (m + i)) → dY m S l s = dY m S' l s
 | [], _, _, _ => rfl
 | e :: r, m, s, h => by
  simp only [dY]
  rw [show S m = S' m from h 0 (by simp), mD (l := r) (m := m + 1) (fun i hi => by
   have := h (i + 1) (by simp; omega)
   rw [show m + 1 + i = m + (i + 1) by omega]
   exact this)]
theorem qh : ∀ {l : List Rec} {m : Nat} {s : St}, (∀ i, i < l.length → S (m + i) = true) → dY m S l s = cU l s
 | [], _, _, _ => rfl
 | e :: r, m, s, h => by
  simp only [dY, cU]
  rw [show S m = true from h 0 (by simp), if_pos rfl, qh (l := r) (m := m + 1) (fun i hi => by
   have := h (i + 1) (by simp; omega)
   rw [show m + 1 + i = m + (i + 1) by omega]
   exact this)]
def Com (e f : Rec) : Prop := (∀ d, e.o.dst = some d → f.o.dst ≠ some d) ∧ (∀ n ∈ e.act.W, n ∉ f.act.W) ∧ (∀ n ∈ e.act.W, dX f.act.u n (e.act.B n) = e.act.B n) ∧ (∀ n ∈ f.act.W, dX e.act.u n (f.act.B n) = f.act.B n) ∧ eh e.act.u f.v.rows = true ∧ eh f.act.u e.v.rows = true
theorem Com.eff {e f : Rec} (h : Com e f) (s : St) : f.eff (e.eff s) = e.eff (f.eff s) := by
 obtain ⟨h1, h2, h3, h4, h5, h6⟩ := h
 simp only [Rec.eff, ae]
 constructor
 ·rw [rG h6, rG h5, pL]
  cases he : e.o.dst with
  | none => rfl
  | some d =>
   cases hf : f.o.dst with
   | none => rfl
   | some d' =>
    have : d ≠ d' := fun e' => h1 d he (e' ▸ hf)
    simp only [cY]
    exact List.set_comm _ _ this
 ·funext n
  simp only [Heap.act2, gb]
  by_cases he : n ∈ e.act.W
  ·have hf : n ∉ f.act.W := h2 n he
   have c1 : e.act.W.contains n = true := by simpa using he
   have c2 : ¬ f.act.W.contains n = true := by simpa using hf
   rw [if_neg c2, if_pos c1, if_pos c1, h3 n he]
  ·have c1 : ¬ e.act.W.contains n = true := by simpa using he
   by_cases hf : n ∈ f.act.W
   ·have c2 : f.act.W.contains n = true := by simpa using hf
    rw [if_pos c2, if_neg c1, if_pos c2, h4 n hf]
   ·have c2 : ¬ f.act.W.contains n = true := by simpa using hf
    rw [if_neg c2, if_neg c1, if_neg c1, if_neg c2]
    exact pJ n _ _ _
theorem uV : ∀ {l : List Rec} {m : Nat} {s : St}, (∀ i f, l[i]? = some f → S (m + i) = true → Com e f) → dY m S l (e.eff s) = e.eff (dY m S l s)
 | [], _, _, _ => rfl
 | f :: r, m, s, h => by
  simp only [dY]
  have hr := uV (l := r) (m := m + 1) (s := if S m then f.eff s else s) (fun i f' h1 h2 => h (i + 1) f' h1 (by rw [← h2]; congr 1; omega))
  rw [← hr]
  congr 1
  split
  ·rename_i hS
   exact (h 0 f rfl (by simpa using hS)).eff s
  ·rfl
theorem Ac {l : List Rec} {m j : Nat} {s : St} (hj : l[j]? = some e) (hS : S (m + j) = false) (hc : ∀ k f, j < k → l[k]? = some f → S (m + k) = true → Com e f) : dY m (fun i => S i || i == m + j) l s = e.eff (dY m S l s) := by
 have hlt := (List.getElem?_eq_some_iff.1 hj).1
 have hsplit : l = l.take j ++ e :: l.drop (j + 1) := by
  have : l[j] = e := (List.getElem?_eq_some_iff.1 hj).2
  rw [← this, List.getElem_cons_drop, bm]
 have hlen : (l.take j).length = j := by simp; omega
 generalize hp : l.take j = p at hsplit hlen
 generalize hq : l.drop (j + 1) = q at hsplit
 subst hsplit
 simp only [lD, dY, hlen, hS, bx, Bool.or_true, if_true, aD, ao]
 rw [mD (S := fun i => S i || i == m + j) (S' := S) (l := p) (m := m) (fun i hi => by
   have : (m + i == m + j) = false := by rw [aQ]; omega
   simp only [this, aY]),
  mD (S := fun i => S i || i == m + j) (S' := S) (l := q) (m := m + j + 1) (fun i hi => by
   have : (m + j + 1 + i == m + j) = false := by rw [aQ]; omega
   simp only [this, aY])]
 refine uV fun i f h1 h2 => hc (j + 1 + i) f (by omega) ?_ (by rw [← h2]; congr 1; omega)
 rw [aX (by omega), hlen, show j + 1 + i - j = i + 1 by omega]
 exact h1
theorem Ad {l : List Rec} {m j : Nat} {s : St} (hj : l[j]? = some e) (hS : S (m + j) = false) (h1 : ∀ i f, i < j → l[i]? = some f → S (m + i) = false → rI f L N (cU (l.take i) s)) (h2 : ∀ k f, j < k → l[k]? = some f → S (m + k) = true → rI f L N (cU (l.take j) s)) : Agr L N (cU (l.take j) s) (dY m S l s) := by
 have hlt := (List.getElem?_eq_some_iff.1 hj).1
 have hsplit : l = l.take j ++ e :: l.drop (j + 1) := by
  have : l[j] = e := (List.getElem?_eq_some_iff.1 hj).2
  rw [← this, List.getElem_cons_drop, bm]
 have hlen : (l.take j).length = j := by simp; omega
 have htk : ∀ i, i < j → (l.take j).take i = l.take i := fun i hi => by rw [List.take_take, Nat.min_eq_left (by omega)]
 generalize hp : l.take j = p at *
 generalize hq : l.drop (j + 1) = q at hsplit
 have h1' : ∀ i f, i < j → l[i]? = some f → S (m + i) = false → rI f L N (cU (p.take i) s) := fun i f g1 g2 g3 => by rw [htk i g1]; exact h1 i f g1 g2 g3
 subst hsplit
 simp only [lD, dY, hlen, hS, aD, ao]
 refine ww (wv ⟨rfl, fun _ _ => rfl, fun _ _ => rfl⟩ fun i f g1 g2 => ?_) fun i f g1 g2 => ?_
 ·have hi := (List.getElem?_eq_some_iff.1 g1).1
  exact h1' i f (by omega) (by rw [aV hi]; exact g1) g2
 ·refine h2 (j + 1 + i) f (by omega) ?_ (by rw [← g2]; congr 1; omega)
  rw [aX (by omega), hlen, show j + 1 + i - j = i + 1 by omega]
  exact g1
end
section
variable {α : Type} (cx : Cx) (d : Nat) (ops : Array Oper)
def fB (o : Oper) (T : List DV) : Option Bool := match o.guard with
 | none => some true
 | some (j, want) => match (ops[j]?).bind (·.dst) with
  | some g => match T.getD g .undef with
   | .sc (.bool b) => some (b == want)
   | .tup [] => some false
   | _ => none
  | none => none
def DZ (o : Oper) (T : List DV) (H : Heap) (v : DV) (act : Act2) : Prop :=
 (∃ a, dI cx.P d o T H (fun v a => some (v, a)) = some (v, a) ∧ act = Act2.of a) ∨
 (∃ c f g x y S X m Y, o.op = .call c ∧ c.callee = .value f ∧ cO T f = .fn (.func g) x y ∧ eT cx.P g = true ∧ S ∈ cx.specs g ∧ FS.pure S = true ∧ S.tin.pr ⟨[], []⟩ (x ++ c.args.toList.map (cO T) ++ y) (fun _ => none) = some (X, m) ∧ S.fn X = some Y ∧ v = eK (S.tout.T da (S.out Y)) ∧ act = Act2.of none) ∨
 ∃ c f g x y, o.op = .call c ∧ c.callee = .value f ∧ cO T f = .fn (.func g) x y ∧ kp cx g (x ++ c.args.toList.map (cO T) ++ y) = some v ∧ act = Act2.of none
def D0 (o : Oper) (T : List DV) (H : Heap) (v : DV) (act : Act2) : Prop :=
 ∃ c f g x y S X m Y b, o.op = .call c ∧ c.callee = .value f ∧ cO T f = .fn (.func g) x y ∧ eT cx.P g = true ∧ S ∈ cx.specs g ∧ S.tin.pr ⟨[], []⟩ (x ++ c.args.toList.map (cO T) ++ y) H = some (X, m) ∧ S.fn X = some Y ∧ S.tout.free (gV b m) ((cZ m.u H).away m) = true ∧ v = eK (S.tout.T (gV b m) (S.out Y)) ∧ act = ⟨m.u, m.σ.map (·.2) ++ m.u ++ S.tout.names (gV b m), S.tout.H (gV b m) (S.out Y) fun _ => none⟩
def D1 (o : Oper) (T : List DV) (H : Heap) (v : DV) (act : Act2) : Prop :=
 ∃ c x y t e s ys, o.op = .call c ∧ c.callee = .builtin .append ∧ c.args.toList = [x, y] ∧ c.argTypes.toList = [t, t] ∧ cx.P.underlying t = some (.slice e) ∧ fh cx.P 8 e = some s ∧ gB cx.P e s = true ∧ d4 H s (cO T y) = some ys ∧ dz cx.P d o e s (cO T x) ys H (fun v a => some (v, a)) = some (v, act)
def rK (o : Oper) (T : List DV) (H : Heap) (v : DV) (act : Act2) : Prop :=
 ∃ b, fB ops o T = some b ∧ ((b = true ∧ DZ cx d o T H v act) ∨ (b = false ∧ v = .tup [] ∧ act = Act2.of none))
def mE (o : Oper) (T : List DV) (H : Heap) (v : DV) (act : Act2) : Prop := fB ops o T = some true ∧ D0 cx o T H v act
def rL (o : Oper) (T : List DV) (H : Heap) (v : DV) (act : Act2) : Prop := fB ops o T = some true ∧ D1 cx d o T H v act
def pc (o : Oper) (T : List DV) (H : Heap) (v : DV) (act : Act2) (rd : List Nat) : Prop := fB ops o T = some true ∧
 ∃ c f g x y S X m Y, o.op = .call c ∧ c.callee = .value f ∧ cO T f = .fn (.func g) x y ∧ eT cx.P g = true ∧ S ∈ cx.qs g ∧ S.tin.pr ⟨[], []⟩ (x ++ c.args.toList.map (cO T) ++ y) H = some (X, m) ∧ S.fn X = some Y ∧ v = eK (S.tout.T da (S.out Y)) ∧ act = ⟨[], [], fun _ => none⟩ ∧ rd = m.σ.map (·.2) ++ m.u
end
section
variable {α : Type} {cx : Cx} {d : Nat} {ops : Array Oper} {o : Oper} {T T' : List DV} {H H' : Heap} {v : DV} {act : Act2}
theorem kX (h : ∀ t ∈ o.looksAt ops, T.getD t .undef = T'.getD t .undef) : fB ops o T = fB ops o T' := by
 unfold fB
 split
 ·rfl
 ·rename_i j want hg
  split
  ·rename_i g hj
   rw [h g (by simp [Oper.looksAt, hg, hj])]
  ·rfl
theorem yq (h : Agr (o.looksAt ops) (fun n => n ∈ d9 T o ∨ eX d o n = true) (T, H) (T', H')) (hs : rK cx d ops o T H v act) : rK cx d ops o T' H' v act := by
 obtain ⟨h1, h2, h3⟩ := h
 have hop : ∀ x ∈ o.op.operands.toList, cO T x = cO T' x := by
  intro x hx
  cases x with
  | tmp t => exact h2 t (aZ _ (List.mem_filterMap.2 ⟨.tmp t, hx, rfl⟩))
  | _ => rfl
 obtain ⟨b, g1, g2⟩ := hs
 refine ⟨b, by rw [← kX h2]; exact g1, g2.imp (fun g => ⟨g.1, ?_⟩) id⟩
 rcases g.2 with ⟨ac, k, kk⟩ | ⟨c, f, g, x, y, S, X, m, Y, k1, k2, k3, k4, k5, k6, k7, k8⟩ | ⟨c, f, g, x, y, k1, k2, k3, k4, k5⟩
 ·refine .inl ⟨ac, ?_, kk⟩
  rw [← BX hop (fun n hn => h3 n (.inl hn)) (fun hb n n1 n2 => h3 n (.inr (by simp [eX, hb, n1, n2])))]
  exact k
 ·have hf : cO T f = cO T' f := hop f (by rw [k1]; simp [Op.operands, Call.operands, k2])
  have hA : c.args.toList.map (cO T) = c.args.toList.map (cO T') := bi fun x hx => hop x (by rw [k1]; simp [Op.operands, Call.operands, Array.mem_toList_iff.1 hx])
  exact .inr (.inl ⟨c, f, g, x, y, S, X, m, Y, k1, k2, hf ▸ k3, k4, k5, k6, hA ▸ k7, k8⟩)
 ·have hf : cO T f = cO T' f := hop f (by rw [k1]; simp [Op.operands, Call.operands, k2])
  have hA : c.args.toList.map (cO T) = c.args.toList.map (cO T') := bi fun x hx => hop x (by rw [k1]; simp [Op.operands, Call.operands, Array.mem_toList_iff.1 hx])
  exact .inr (.inr ⟨c, f, g, x, y, k1, k2, hf ▸ k3, hA ▸ k4, k5⟩)
theorem tz {H H' : Heap} {E : TypeId} {s : Sh} {d : DV} {xs : List s.T} {u : List Nat} (h : gm H E s d = some (xs, u)) (he : ∀ n ∈ u, H n = H' n) : gm H' E s d = some (xs, u) := by
 cases d
 case rw n =>
  simp only [gm] at h ⊢
  cases hb : H n with
  | none => rw [hb] at h; cases h
  | some b =>
   have hn : n ∈ u := by
    rw [hb] at h
    cases b <;> simp only at h <;> try cases h
    split at h
    ·split at h
     ·simp only [aa, ae] at h
      rw [← h.2]; simp
     ·cases h
    ·cases h
   rw [← he n hn]
   exact h
 case sl n o l =>
  simp only [gm] at h ⊢
  cases hb : H n with
  | none => rw [hb] at h; cases h
  | some b =>
   have hn : n ∈ u := by
    rw [hb] at h
    cases b <;> simp only at h <;> try cases h
    split at h
    ·split at h
     ·split at h
      ·simp only [aa, ae] at h
       rw [← h.2]; simp
      ·cases h
     ·cases h
    ·cases h
   rw [← he n hn]
   exact h
 case sc v =>
  cases v with
  | slice a n c =>
   cases a with
   | none => exact h
   | some a => simp only [gm] at h; cases h
  | _ => simp only [gm] at h; cases h
 all_goals (simp only [gm] at h; cases h)
theorem rM : ∀ {l : List Nat} {T : List DV} {m m' : Met}, lJ l T m = some m' → m'.u = m.u ∧ ∀ e ∈ m.σ, e ∈ m'.σ
 | [], T, m, m', h => by
  simp only [lJ] at h
  split at h
  ·simp only [aa] at h; subst h; exact ⟨rfl, fun e he => he⟩
  ·cases h
 | i :: r, T, m, m', h => by
  simp only [lJ] at h
  split at h
  ·split at h
   ·split at h
    ·exact rM h
    ·cases h
   ·obtain ⟨h1, h2⟩ := rM h
    exact ⟨h1, fun e he => h2 e (av _ he)⟩
  ·cases h
def Met.le (m m' : Met) : Prop := (∀ n ∈ m.u, n ∈ m'.u) ∧ ∀ e ∈ m.σ, e ∈ m'.σ
theorem Met.le.refl (m : Met) : m.le m := ⟨fun _ h => h, fun _ h => h⟩
theorem Met.le.trans {a b c : Met} (h : a.le b) (k : b.le c) : a.le c := ⟨fun n hn => k.1 n (h.1 n hn), fun e he => k.2 e (h.2 e he)⟩
theorem jz {H : Heap} : ∀ {ks : List IK} {T : List DV} {m m' : Met} {x : fA ks}, dE H ks T m = some (x, m') → m.le m'
 | [], T, m, m', x, h => by
  simp only [dE] at h
  split at h
  ·simp only [aa, ae] at h; rw [h.2]; exact .refl _
  ·cases h
 | .any :: r, T, m, m', x, h => by
  simp only [dE] at h
  split at h
  ·exact jz h
  ·cases h
 | .val s :: r, T, m, m', x, h => by
  simp only [dE] at h
  split at h
  ·split at h
   ·split at h
    ·rename_i hz
     simp only [aa, ae] at h
     rw [← h.2]
     exact jz hz
    ·cases h
   ·cases h
  ·cases h
 | .agf s F :: r, T, m, m', x, h => by
  simp only [dE] at h
  split at h
  ·split at h
   ·split at h
    ·split at h
     ·rename_i hz
      simp only [aa, ae] at h
      rw [← h.2]
      exact jz hz
     ·cases h
    ·cases h
   ·cases h
  ·cases h
 | .row E s :: r, T, m, m', x, h => by
  simp only [dE] at h
  split at h
  ·split at h
   ·split at h
    ·rename_i hz
     simp only [aa, ae] at h
     rw [← h.2]
     exact Met.le.trans (b := ⟨m.σ, _ ++ m.u⟩) ⟨fun n hn => bo _ hn, fun e he => he⟩ (jz hz)
    ·cases h
   ·cases h
  ·cases h
 | .obj i :: r, T, m, m', x, h => by
  simp only [dE] at h
  split at h
  ·split at h
   ·split at h
    ·exact jz h
    ·cases h
   ·exact Met.le.trans (b := ⟨_ :: m.σ, m.u⟩) ⟨fun n hn => hn, fun e he => av _ he⟩ (jz h)
  ·cases h
 | .clo F is :: r, T, m, m', x, h => by
  simp only [dE] at h
  split at h
  ·split at h
   ·split at h
    ·rename_i hp
     obtain ⟨h1, h2⟩ := rM hp
     exact Met.le.trans ⟨fun n hn => by rw [h1]; exact hn, h2⟩ (jz h)
    ·cases h
   ·cases h
  ·cases h
 | .tab ks vs :: r, T, m, m', x, h => by simp only [dE] at h; cases h
theorem gE {H : Heap} : ∀ {ks : List IK} {T : List DV} {m m' : Met} {x : fA ks}, ew H ks T m = some (x, m') → m.le m'
 | [], T, m, m', x, h => by
  simp only [ew] at h
  split at h
  ·simp only [aa, ae] at h; rw [h.2]; exact .refl _
  ·cases h
 | .any :: r, T, m, m', x, h => by
  simp only [ew] at h
  split at h
  ·cases h
  ·exact gE h
  ·cases h
 | .val s :: r, T, m, m', x, h => by
  simp only [ew] at h
  split at h
  ·split at h
   ·rename_i hz
    simp only [aa, ae] at h
    rw [← h.2]
    exact gE hz
   ·cases h
  ·cases h
 | .agf s F :: r, T, m, m', x, h => by
  simp only [ew] at h
  split at h
  ·split at h
   ·split at h
    ·rename_i hz
     simp only [aa, ae] at h
     rw [← h.2]
     exact gE hz
    ·cases h
   ·cases h
  ·cases h
 | .row E s :: r, T, m, m', x, h => by
  simp only [ew] at h
  split at h
  ·split at h
   ·split at h
    ·rename_i hz
     simp only [aa, ae] at h
     rw [← h.2]
     exact Met.le.trans (b := ⟨m.σ, _ ++ m.u⟩) ⟨fun n hn => bo _ hn, fun e he => he⟩ (gE hz)
    ·cases h
   ·cases h
  ·cases h
 | .obj i :: r, T, m, m', x, h => by
  simp only [ew] at h
  split at h
  ·split at h
   ·split at h
    ·exact gE h
    ·cases h
   ·exact Met.le.trans (b := ⟨_ :: m.σ, m.u⟩) ⟨fun n hn => hn, fun e he => av _ he⟩ (gE h)
  ·cases h
 | .clo F is :: r, T, m, m', x, h => by
  simp only [ew] at h
  split at h
  ·split at h
   ·split at h
    ·rename_i hp
     obtain ⟨h1, h2⟩ := rM hp
     exact Met.le.trans ⟨fun n hn => by rw [h1]; exact hn, h2⟩ (gE h)
    ·cases h
   ·cases h
  ·cases h
 | .tab ks vs :: r, T, m, m', x, h => by simp only [ew] at h; cases h
theorem uW {H : Heap} : ∀ {os : List (List IK)} {i : Nat} {m m' : Met} {x : lu os}, jR H i os m = some (x, m') → m.le m'
 | [], i, m, m', x, h => by
  simp only [jR, aa, ae] at h; rw [h.2]; exact .refl _
 | k :: r, i, m, m', x, h => by
  simp only [jR] at h
  split at h
  ·split at h
   ·split at h
    ·rename_i hc
     split at h
     ·rename_i hz
      simp only [aa, ae] at h
      rw [← h.2]
      exact (gE hc).trans (uW hz)
     ·cases h
    ·cases h
   ·cases h
  ·cases h
theorem h8 {H H' : Heap} : ∀ {ks : List IK} {T : List DV} {m m' : Met} {x : fA ks}, dE H ks T m = some (x, m') → (∀ n ∈ m'.u, H n = H' n) → dE H' ks T m = some (x, m')
 | [], T, m, m', x, h, he => h
 | .any :: r, T, m, m', x, h, he => by
  simp only [dE] at h ⊢
  split at h
  ·exact h8 h he
  ·cases h
 | .val s :: r, T, m, m', x, h, he => by
  simp only [dE] at h ⊢
  split at h
  ·split at h
   ·rename_i hv
    split at h
    ·rename_i hz
     simp only [aa, ae] at h
     obtain ⟨h1, rfl⟩ := h
     simp only [hv, h8 hz he, h1]
    ·cases h
   ·cases h
  ·cases h
 | .agf s F :: r, T, m, m', x, h, he => by
  simp only [dE] at h ⊢
  split at h
  ·split at h
   ·rename_i hv
    split at h
    ·rename_i hF
     split at h
     ·rename_i hz
      simp only [aa, ae] at h
      obtain ⟨h1, rfl⟩ := h
      simp only [hv, hF, if_true, h8 hz he, h1]
     ·cases h
    ·cases h
   ·cases h
  ·cases h
 | .row E s :: r, T, m, m', x, h, he => by
  simp only [dE] at h ⊢
  split at h
  ·split at h
   ·rename_i hv
    split at h
    ·rename_i hz
     simp only [aa, ae] at h
     obtain ⟨h1, rfl⟩ := h
     have hle := (jz hz).1
     simp only [tz hv fun n hn => he n (hle n (aZ _ hn)), h8 hz he, h1]
    ·cases h
   ·cases h
  ·cases h
 | .obj i :: r, T, m, m', x, h, he => by
  simp only [dE] at h ⊢
  split at h
  ·split at h
   ·rename_i hg
    split at h
    ·rename_i hn
     simp only [hg, hn, if_true]
     exact h8 h he
    ·cases h
   ·exact h8 h he
  ·cases h
 | .clo F is :: r, T, m, m', x, h, he => by
  simp only [dE] at h ⊢
  split at h
  ·split at h
   ·rename_i hF
    split at h
    ·rename_i hp
     simp only [hF, if_true, hp]
     exact h8 h he
    ·cases h
   ·cases h
  ·cases h
 | .tab ks vs :: r, T, m, m', x, h, he => by simp only [dE] at h; cases h
theorem h9 {H H' : Heap} : ∀ {ks : List IK} {T : List DV} {m m' : Met} {x : fA ks}, ew H ks T m = some (x, m') → (∀ n ∈ m'.u, H n = H' n) → ew H' ks T m = some (x, m')
 | [], T, m, m', x, h, he => h
 | .any :: r, T, m, m', x, h, he => by
  simp only [ew] at h ⊢
  split at h
  ·cases h
  ·exact h9 h he
  ·cases h
 | .val s :: r, T, m, m', x, h, he => by
  simp only [ew] at h ⊢
  split at h
  ·rename_i hv
   split at h
   ·rename_i hz
    simp only [aa, ae] at h
    obtain ⟨h1, rfl⟩ := h
    simp only [hv, h9 hz he, h1]
   ·cases h
  ·cases h
 | .agf s F :: r, T, m, m', x, h, he => by
  simp only [ew] at h ⊢
  split at h
  ·rename_i hv
   split at h
   ·rename_i hF
    split at h
    ·rename_i hz
     simp only [aa, ae] at h
     obtain ⟨h1, rfl⟩ := h
     simp only [hv, hF, if_true, h9 hz he, h1]
    ·cases h
   ·cases h
  ·cases h
 | .row E s :: r, T, m, m', x, h, he => by
  simp only [ew] at h ⊢
  split at h
  ·split at h
   ·rename_i hv
    split at h
    ·rename_i hz
     simp only [aa, ae] at h
     obtain ⟨h1, rfl⟩ := h
     have hle := (gE hz).1
     simp only [tz hv fun n hn => he n (hle n (aZ _ hn)), h9 hz he, h1]
    ·cases h
   ·cases h
  ·cases h
 | .obj i :: r, T, m, m', x, h, he => by
  simp only [ew] at h ⊢
  split at h
  ·split at h
   ·rename_i hg
    split at h
    ·rename_i hn
     simp only [hg, hn, if_true]
     exact h9 h he
    ·cases h
   ·exact h9 h he
  ·cases h
 | .clo F is :: r, T, m, m', x, h, he => by
  simp only [ew] at h ⊢
  split at h
  ·split at h
   ·rename_i hF
    split at h
    ·rename_i hp
     simp only [hF, if_true, hp]
     exact h9 h he
    ·cases h
   ·cases h
  ·cases h
 | .tab ks vs :: r, T, m, m', x, h, he => by simp only [ew] at h; cases h
theorem get_mem {m : Met} {i n : Nat} (h : m.get i = some n) : (i, n) ∈ m.σ := by
 unfold Met.get at h
 obtain ⟨e, h1, h2⟩ := Option.map_eq_some_iff.1 h
 have h3 := bQ h1
 have h4 := bR h1
 simp only [ah] at h3
 obtain ⟨a, b⟩ := e
 simp only at h2 h3
 rw [← h2, ← h3]
 exact h4
theorem wx {H H' : Heap} : ∀ {os : List (List IK)} {i : Nat} {m m' : Met} {x : lu os}, jR H i os m = some (x, m') → (∀ n, n ∈ m'.u ∨ n ∈ m'.σ.map (·.2) → H n = H' n) → jR H' i os m = some (x, m')
 | [], i, m, m', x, h, he => h
 | k :: r, i, m, m', x, h, he => by
  simp only [jR] at h ⊢
  split at h
  ·rename_i n hg
   split at h
   ·rename_i cs hn
    split at h
    ·rename_i hc
     split at h
     ·rename_i hz
      simp only [aa, ae] at h
      obtain ⟨h1, rfl⟩ := h
      have l1 := gE hc
      have l2 := uW hz
      have hH : H n = H' n := he n (.inr (List.mem_map.2 ⟨_, l2.2 _ (l1.2 _ (get_mem hg)), rfl⟩))
      simp only [hg, ← hH, hn, h9 hc fun n hn => he n (.inl (l2.1 n hn)), wx hz he, h1]
     ·cases h
    ·cases h
   ·cases h
  ·cases h
theorem yr {t : Tmpl} {A : List DV} {H H' : Heap} {m0 m : Met} {X : t.Ty} (h : t.pr m0 A H = some (X, m)) (he : ∀ n, n ∈ m.u ∨ n ∈ m.σ.map (·.2) → H n = H' n) : t.pr m0 A H' = some (X, m) := by
 unfold Tmpl.pr at h ⊢
 split at h
 ·rename_i h1
  split at h
  ·rename_i h2
   split at h
   ·rename_i h3
    simp only [aa, ae] at h
    obtain ⟨h4, rfl⟩ := h
    simp only [h8 h1 fun n hn => he n (.inl ((uW h2).1 n hn)), wx h2 he, h3, if_true, h4]
   ·cases h
  ·cases h
 ·cases h
theorem yt {t : Tmpl} {A : List DV} {H : Heap} {m0 m : Met} {X : t.Ty} (h : t.pr m0 A H = some (X, m)) : ik (m.σ.map (·.1)) = true := by
 unfold Tmpl.pr at h
 split at h
 ·split at h
  ·split at h
   ·rename_i h3
    simp only [aa, ae] at h
    simp only [ag] at h3
    rw [← h.2]
    exact h3.1.2
   ·cases h
  ·cases h
 ·cases h
theorem Ae {H H' : Heap} {m : Met} {n : Nat} (h : H n = H' n) : ((cZ m.u H).away m) n = ((cZ m.u H').away m) n := by
 unfold Heap.away
 split
 ·rfl
 ·rw [gb, gb, h]
theorem Af {t : Tmpl} {ρ : Nam} {H H' : Heap} (h : t.free ρ H = true) (he : ∀ n ∈ t.names ρ, H n = H' n) : t.free ρ H' = true := by
 unfold Tmpl.free at h ⊢
 simp only [ag, aK] at h ⊢
 exact ⟨h.1, fun n hn => by rw [← he n hn]; exact h.2 n hn⟩
theorem yu (h : Agr (o.looksAt ops) (fun n => n ∈ act.W) (T, H) (T', H')) (hs : mE cx ops o T H v act) : mE cx ops o T' H' v act := by
 obtain ⟨h1, h2, h3⟩ := h
 have hop : ∀ x ∈ o.op.operands.toList, cO T x = cO T' x := by
  intro x hx
  cases x with
  | tmp t => exact h2 t (aZ _ (List.mem_filterMap.2 ⟨.tmp t, hx, rfl⟩))
  | _ => rfl
 obtain ⟨g1, c, f, g, x, y, S, X, m, Y, b, k1, k2, k3, k4, k5, k6, k7, k8, k9, k10⟩ := hs
 have hf : cO T f = cO T' f := hop f (by rw [k1]; simp [Op.operands, Call.operands, k2])
 have hA : c.args.toList.map (cO T) = c.args.toList.map (cO T') := bi fun x hx => hop x (by rw [k1]; simp [Op.operands, Call.operands, Array.mem_toList_iff.1 hx])
 have hW : ∀ n, n ∈ m.σ.map (·.2) ∨ n ∈ m.u ∨ n ∈ S.tout.names (gV b m) → H n = H' n := fun n hn => h3 n (by
  show n ∈ act.W
  rw [k10]
  simp only [au]
  rcases hn with hn | hn | hn
  ·exact .inl (.inl hn)
  ·exact .inl (.inr hn)
  ·exact .inr hn)
 refine ⟨by rw [← kX h2]; exact g1, c, f, g, x, y, S, X, m, Y, b, k1, k2, hf ▸ k3, k4, k5, ?_, k7, ?_, k9, k10⟩
 ·rw [← hA]
  exact yr k6 fun n hn => hW n (hn.elim (fun h => .inr (.inl h)) .inl)
 ·exact Af k8 fun n hn => Ae (hW n (.inr (.inr hn)))
theorem yw {rd : List Nat} (h : Agr (o.looksAt ops) (fun n => n ∈ rd) (T, H) (T', H')) (hs : pc cx ops o T H v act rd) : pc cx ops o T' H' v act rd := by
 obtain ⟨h1, h2, h3⟩ := h
 have hop : ∀ x ∈ o.op.operands.toList, cO T x = cO T' x := by
  intro x hx
  cases x with
  | tmp t => exact h2 t (aZ _ (List.mem_filterMap.2 ⟨.tmp t, hx, rfl⟩))
  | _ => rfl
 obtain ⟨g1, c, f, g, x, y, S, X, m, Y, k1, k2, k3, k4, k5, k6, k7, k8, k9, k10⟩ := hs
 have hf : cO T f = cO T' f := hop f (by rw [k1]; simp [Op.operands, Call.operands, k2])
 have hA : c.args.toList.map (cO T) = c.args.toList.map (cO T') := bi fun x hx => hop x (by rw [k1]; simp [Op.operands, Call.operands, Array.mem_toList_iff.1 hx])
 have hW : ∀ n, n ∈ m.σ.map (·.2) ∨ n ∈ m.u → H n = H' n := fun n hn => h3 n (by
  show n ∈ rd
  rw [k10]
  simp only [au]
  exact hn)
 refine ⟨by rw [← kX h2]; exact g1, c, f, g, x, y, S, X, m, Y, k1, k2, hf ▸ k3, k4, k5, ?_, k7, k8, k9, k10⟩
 rw [← hA]
 exact yr k6 fun n hn => hW n (hn.elim .inr .inl)
theorem xk {s : Sh} {y : DV} {ys : List s.T} (h : d4 H s y = some ys) (he : ∀ n ∈ fD y, H n = H' n) : d4 H' s y = some ys := by
 cases y
 case rw n =>
  have := he n (by simp [fD])
  simp only [d4] at h ⊢
  rw [← this]; exact h
 case sl n o l =>
  have := he n (by simp [fD])
  simp only [d4] at h ⊢
  rw [← this]; exact h
 case sc v =>
  cases v with
  | slice a n c =>
   cases a with
   | none => exact h
   | some a => simp only [d4] at h; cases h
  | _ => simp only [d4] at h; cases h
 case vs s' xs => exact h
 all_goals (simp only [d4] at h; cases h)
theorem pM {P : Program} {E : TypeId} {s : Sh} {x : DV} {ys : List s.T} {k : DV → Act2 → Option α} : dz P d o E s x ys H k = (dz P d o E s x ys H fun v a => some (v, a)).bind fun e => k e.1 e.2 := by
 unfold dz
 repeat' split
 all_goals rfl
theorem wc {P : Program} {E : TypeId} {s : Sh} {x : DV} {ys : List s.T} {p : DV × Act2} (h : dz P d o E s x ys H (fun v a => some (v, a)) = some p) (he : ∀ n, n ∈ fD x ∨ n ∈ p.2.W → H n = H' n) : dz P d o E s x ys H' (fun v a => some (v, a)) = some p := by
 cases x
 case rw n =>
  have := he n (.inl (by simp [fD]))
  simp only [dz] at h ⊢
  rw [← this]; exact h
 case sl n o l =>
  have := he n (.inl (by simp [fD]))
  simp only [dz] at h ⊢
  rw [← this]; exact h
 case sc v =>
  cases v with
  | slice a n c =>
   cases a with
   | none =>
    simp only [dz] at h ⊢
    split at h
    ·rename_i h1
     rw [if_pos h1]
     split at h
     ·rename_i h2
      simp only [aa] at h
      have := he (base d o.dst) (.inr (by rw [← h]; simp))
      rw [← this, h2]
      simp only [h]
     ·cases h
    ·cases h
   | some a => simp only [dz] at h; cases h
  | _ => simp only [dz] at h; cases h
 all_goals (simp only [dz] at h; cases h)
theorem yx (h : Agr (o.looksAt ops) (fun n => n ∈ d9 T o ++ act.W) (T, H) (T', H')) (hs : rL cx d ops o T H v act) : rL cx d ops o T' H' v act := by
 obtain ⟨h1, h2, h3⟩ := h
 have hop : ∀ x ∈ o.op.operands.toList, cO T x = cO T' x := by
  intro x hx
  cases x with
  | tmp t => exact h2 t (aZ _ (List.mem_filterMap.2 ⟨.tmp t, hx, rfl⟩))
  | _ => rfl
 obtain ⟨g1, c, x, y, t, e, s, ys, k1, k2, k3, k4, k5, k6, k7, k8, k9⟩ := hs
 have hxm : x ∈ o.op.operands.toList := by rw [k1]; simp [Op.operands, Call.operands, k2, k3]
 have hym : y ∈ o.op.operands.toList := by rw [k1]; simp [Op.operands, Call.operands, k2, k3]
 have hr : ∀ z ∈ o.op.operands.toList, ∀ n ∈ fD (cO T z), H n = H' n := fun z hz n hn => h3 n (by
  refine aZ _ ?_
  unfold d9
  have hl : nK o = true := by unfold nK; rw [k1]
  rw [if_pos hl]
  exact List.mem_flatMap.2 ⟨z, hz, hn⟩)
 refine ⟨by rw [← kX h2]; exact g1, c, x, y, t, e, s, ys, k1, k2, k3, k4, k5, k6, k7, ?_, ?_⟩
 ·rw [← hop y hym]
  exact xk k8 (hr y hym)
 ·rw [← hop x hxm]
  exact wc k9 fun n hn => hn.elim (hr x hxm n) (fun hn => h3 n (bo _ hn))
theorem lF {x y : Did} (h : fU d ops x y = true) : (∀ n ∈ x.w, n ∉ y.r ∧ n ∉ y.w ∧ eX d y.o n = false) ∧ (∀ n ∈ y.w, n ∉ x.r ∧ eX d x.o n = false) ∧ x.o.apart ops y.o = true ∧ (x.u ≠ [] → eh x.u y.h = true ∧ iY x.u x.H d y.o = true ∧ (∀ n ∈ y.r, eh x.u (jl (x.H n)) = true) ∧ ∀ t ∈ y.o.looksAt ops, eh x.u (x.T.getD t .undef).rows = true) ∧ (y.u ≠ [] → eh y.u x.h = true ∧ iY y.u x.H d x.o = true) := by
 unfold fU xb w9 at h
 simp only [ag, aK, ay, bM, b8, decide_eq_false_iff_not, List.isEmpty_iff] at h
 obtain ⟨⟨h1, h2, h3, h4⟩, h5⟩ := h
 refine ⟨fun n hn => ?_, fun n hn => ?_, h5, fun hc => ?_, fun hc => ?_⟩
 ·obtain ⟨a, b, c⟩ := h1 n hn
  exact ⟨a, b, c⟩
 ·exact h2 n hn
 ·rcases h3 with h3 | h3
  ·exact absurd h3 hc
  ·exact ⟨h3.1, h3.2.1, h3.2.2.1, h3.2.2.2⟩
 ·rcases h4 with h4 | h4
  ·exact absurd h4 hc
  ·exact h4
theorem pN {u : List Nat} {H : Heap} {o : Oper} {n : Nat} (h : iY u H d o = true) (hn : eX d o n = true) : eh u (jl (H n)) = true := by
 unfold eX at hn
 simp only [ag, aj] at hn
 unfold iY at h
 rw [hn.1.1] at h
 simp only [b9, bF, aK, aW] at h
 have := h (n - base d o.dst) (by omega)
 rw [show base d o.dst + (n - base d o.dst) = n by omega] at this
 exact this
structure Rec.Fit (ops : Array Oper) (e : Rec) (s : St) : Prop where
 T : e.T = s.1
 H : e.H = s.2
 h : e.h = uo ops s.1 s.2 e.o e.v e.r e.act
 u : ∀ n ∈ e.act.u, n ∈ e.act.W
variable {s s' : St}
theorem Rec.Fit.rows {e : Rec} (he : e.Fit ops s) {u : List Nat} (h : eh u e.h = true) : eh u e.v.rows = true ∧ (∀ t ∈ e.o.looksAt ops, eh u (s.1.getD t .undef).rows = true) ∧ (∀ n ∈ e.r, eh u (jl (s.2 n)) = true) ∧ ∀ n ∈ e.act.W, eh u (jl (e.act.B n)) = true := by
 rw [he.h, disjB_iff] at h
 unfold uo at h
 simp only [au, not_or, List.mem_flatMap, not_exists, not_and] at h
 exact ⟨disjB_iff.2 fun n hn => (h n hn).1, fun t ht => disjB_iff.2 fun n hn => (h n hn).2.1 t ht, fun q hq => disjB_iff.2 fun n hn => (h n hn).2.2.1 q hq, fun q hq => disjB_iff.2 fun n hn => (h n hn).2.2.2 q hq⟩
theorem Ag {e f : Rec} (he : e.Fit ops s) (h : fU d ops e.did f.did = true) : rI e (f.o.looksAt ops) (fun n => n ∈ f.r ∨ eX d f.o n = true) s := by
 obtain ⟨h1, h2, h3, h4, h5⟩ := lF h
 obtain ⟨g1, g2, g3⟩ := Oper.apart_spec h3
 refine ⟨fun t ht => g1 t ht, fun n hn => ?_, fun n hn => ?_, fun t ht => ?_⟩
 ·obtain ⟨k1, k2, k3⟩ := h1 n hn
  rintro (k | k)
  ·exact k1 k
  ·have k3' : eX d f.o n = false := k3
   rw [k3'] at k; cases k
 ·by_cases hu : e.act.u = []
  ·rw [hu]; rfl
  ·obtain ⟨q1, q2, q3, q4⟩ := h4 hu
   rcases hn with hnr | k
   ·refine eZ (fun hu => ?_) (by rw [← he.H]; exact q3 n hnr)
    exact (h1 n (he.u n hu)).1 hnr
   ·refine eZ (fun hu => ?_) (by rw [← he.H]; exact pN q2 k)
    have k3 : eX d f.o n = false := (h1 n (he.u n hu)).2.2
    rw [k3] at k; cases k
 ·by_cases hu : e.act.u = []
  ·rw [hu]; rfl
  ·obtain ⟨q1, q2, q3, q4⟩ := h4 hu
   rw [← he.T]
   exact jn (q4 t ht)
theorem yy {e f : Rec} (he : e.Fit ops s) (hf : f.Fit ops s') (h : fU d ops e.did f.did = true) : rI f (e.o.looksAt ops) (fun n => n ∈ e.r ∨ eX d e.o n = true) s := by
 obtain ⟨h1, h2, h3, h4, h5⟩ := lF h
 obtain ⟨g1, g2, g3⟩ := Oper.apart_spec h3
 refine ⟨fun t ht => g3 t ht, fun n hn => ?_, fun n hn => ?_, fun t ht => ?_⟩
 ·obtain ⟨k1, k2⟩ := h2 n hn
  rintro (k | k)
  ·exact k1 k
  ·have k2' : eX d e.o n = false := k2
   rw [k2'] at k; cases k
 ·by_cases hu : f.act.u = []
  ·rw [hu]; rfl
  ·obtain ⟨q1, q2⟩ := h5 hu
   rcases hn with hnr | k
   ·refine eZ (fun hu => ?_) ((he.rows q1).2.2.1 n hnr)
    exact (h2 n (hf.u n hu)).1 hnr
   ·refine eZ (fun hu => ?_) (by rw [← he.H]; exact pN q2 k)
    have k2 : eX d e.o n = false := (h2 n (hf.u n hu)).2
    rw [k2] at k; cases k
 ·by_cases hu : f.act.u = []
  ·rw [hu]; rfl
  ·obtain ⟨q1, q2⟩ := h5 hu
   exact jn ((he.rows q1).2.1 t ht)
theorem Cw {e f : Rec} (he : e.Fit ops s) (hf : f.Fit ops s') (h : fU d ops e.did f.did = true) : Com e f := by
 obtain ⟨h1, h2, h3, h4, h5⟩ := lF h
 obtain ⟨g1, g2, g3⟩ := Oper.apart_spec h3
 have nil : ∀ h, eh [] h = true := fun h => rfl
 refine ⟨fun t ht => g2 t ht, fun n hn => (h1 n hn).2.1, fun n hn => ?_, fun n hn => ?_, ?_, ?_⟩
 ·by_cases hu : f.act.u = []
  ·rw [hu]; rfl
  ·refine eZ (fun hu => ?_) ((he.rows (h5 hu).1).2.2.2 n hn)
   exact (h1 n hn).2.1 (hf.u n hu)
 ·by_cases hu : e.act.u = []
  ·rw [hu]; rfl
  ·refine eZ (fun hu => ?_) ((hf.rows (h4 hu).1).2.2.2 n hn)
   exact (h1 n (he.u n hu)).2.1 hn
 ·by_cases hu : e.act.u = []
  ·rw [hu]; rfl
  ·exact (hf.rows (h4 hu).1).1
 ·by_cases hu : f.act.u = []
  ·rw [hu]; rfl
  ·exact (he.rows (h5 hu).1).1
end
def gc (P : Program) (f : FuncId) (S : FS) : Prop := ∀ {α : Type} {I : In} {w : World} {H : Heap} {A : List DV} {args : List Value} {ρ : Nam} {k : DV → Heap → Option (List Nat) → Option α} {r : α} {x : S.tin.Ty} {m : Met}, HR I w H → LR I w A args → S.tin.pr ⟨[], []⟩ A H = some (x, m) → (∀ i n, (i, n) ∈ m.σ → ρ.o i = n) →
 ((S.fn x).bind fun y => if S.tout.free ρ ((cZ m.u H).away m) = true then k (eK (S.tout.T ρ (S.out y))) (S.tout.H ρ (S.out y) ((cZ m.u H).away m)) (some m.u) else none) = some r →
 Calls P f args.toArray w (nT fun z w' => ∃ I' v H' u, k v H' u = some r ∧ Ext I w I' w' ∧ HR I' w' H' ∧ VR I' w' v z ∧ Aa u I I')
theorem gt {ρ : Nam} : ∀ {ks : List IK} {c : Nat} {x : fA ks} {H : Heap} {n : Nat}, n ∉ du ρ c ks → ef ρ c ks x H n = H n
 | [], c, x, H, n, h => rfl
 | .any :: r, c, x, H, n, h => gt (ks := r) h
 | .val s :: r, c, x, H, n, h => gt (ks := r) h
 | .agf s F :: r, c, x, H, n, h => gt (ks := r) h
 | .obj i :: r, c, x, H, n, h => gt (ks := r) h
 | .clo F is :: r, c, x, H, n, h => gt (ks := r) h
 | .tab ks vs :: r, c, x, H, n, h => gt (ks := r) h
 | .row E s :: r, c, x, H, n, h => by
  simp only [du, aA, not_or] at h
  show ef ρ (c + 1) r x.2 (H.set (ρ.r c) (some (.row E s x.1))) n = H n
  rw [gt (ks := r) h.2]
  simp only [Heap.set, h.1, ao]
theorem fV {ρ : Nam} : ∀ {ks : List IK} {c : Nat} {x : fA ks} {H H' : Heap} {n : Nat}, n ∈ du ρ c ks ∨ H n = H' n → ef ρ c ks x H n = ef ρ c ks x H' n
 | [], c, x, H, H', n, h => h.elim (fun h => by cases h) id
 | .any :: r, c, x, H, H', n, h => fV (ks := r) h
 | .val s :: r, c, x, H, H', n, h => fV (ks := r) h
 | .agf s F :: r, c, x, H, H', n, h => fV (ks := r) h
 | .obj i :: r, c, x, H, H', n, h => fV (ks := r) h
 | .clo F is :: r, c, x, H, H', n, h => fV (ks := r) h
 | .tab ks vs :: r, c, x, H, H', n, h => fV (ks := r) h
 | .row E s :: r, c, x, H, H', n, h => by
  refine fV (ks := r) ?_
  simp only [du, aA] at h
  simp only [Heap.set]
  rcases h with (h | h) | h
  ·right; simp [h]
  ·exact .inl h
  ·right
   split
   ·rfl
   ·exact h
theorem wy {ρ : Nam} : ∀ {os : List (List IK)} {i : Nat} {x : lu os} {H : Heap} {n : Nat}, n ∉ eq ρ i os → nF ρ i os x H n = H n
 | [], i, x, H, n, h => rfl
 | k :: r, i, x, H, n, h => by
  simp only [eq, aA, au, not_or] at h
  show nF ρ (i + 1) r x.2 (ef ρ (1000 * (i + 1)) k x.1 (H.set (ρ.o i) (some (.obj (kO ρ (1000 * (i + 1)) k x.1))))) n = H n
  rw [wy (os := r) h.2.2, gt h.2.1]
  simp only [Heap.set, h.1, ao]
theorem yz {ρ : Nam} : ∀ {os : List (List IK)} {i : Nat} {x : lu os} {H H' : Heap} {n : Nat}, n ∈ eq ρ i os ∨ H n = H' n → nF ρ i os x H n = nF ρ i os x H' n
 | [], i, x, H, H', n, h => h.elim (fun h => by cases h) id
 | k :: r, i, x, H, H', n, h => by
  refine yz (os := r) ?_
  simp only [eq, aA, au] at h
  have hset : n = ρ.o i ∨ H n = H' n → (H.set (ρ.o i) (some (.obj (kO ρ (1000 * (i + 1)) k x.1)))) n = (H'.set (ρ.o i) (some (.obj (kO ρ (1000 * (i + 1)) k x.1)))) n := fun h => by
   simp only [Heap.set]
   rcases h with h | h
   ·simp [h]
   ·split
    ·rfl
    ·exact h
  rcases h with (h | h | h) | h
  ·exact .inr (fV (.inr (hset (.inl h))))
  ·exact .inr (fV (.inl h))
  ·exact .inl h
  ·exact .inr (fV (.inr (hset (.inr h))))
theorem rN {t : Tmpl} {ρ : Nam} {x : t.Ty} {H : Heap} {n : Nat} (h : n ∉ t.names ρ) : t.H ρ x H n = H n := by
 simp only [Tmpl.names, au, not_or] at h
 unfold Tmpl.H
 rw [gt h.1, wy h.2]
theorem yA {t : Tmpl} {ρ : Nam} {x : t.Ty} {H H' : Heap} {n : Nat} (h : n ∈ t.names ρ) : t.H ρ x H n = t.H ρ x H' n := by
 simp only [Tmpl.names, au] at h
 unfold Tmpl.H
 rcases h with h | h
 ·exact fV (.inl h)
 ·exact fV (.inr (yz (.inl h)))
theorem Cy {t : Tmpl} {ρ : Nam} {z : t.Ty} {m : Met} {H : Heap} : t.H ρ z ((cZ m.u H).away m) = H.act2 ⟨m.u, m.σ.map (·.2) ++ m.u ++ t.names ρ, t.H ρ z fun _ => none⟩ := by
 funext n
 show _ = if (m.σ.map (·.2) ++ m.u ++ t.names ρ).contains n = true then t.H ρ z (fun _ => none) n else cZ m.u H n
 by_cases hn : n ∈ t.names ρ
 ·have c : (m.σ.map (·.2) ++ m.u ++ t.names ρ).contains n = true := by simp [hn]
  rw [if_pos c]
  exact yA hn
 ·have hB : t.H ρ z (fun _ => none) n = none := rN hn
  rw [rN hn, hB]
  unfold Heap.away
  by_cases hs : n ∈ m.σ.map (·.2)
  ·have c : (m.σ.map (·.2) ++ m.u ++ t.names ρ).contains n = true := by
    simp only [b8, au, hs, true_or, decide_true]
   have c2 : (m.σ.any fun e => e.2 == n) = true := by
    obtain ⟨e, e1, e2⟩ := List.mem_map.1 hs
    exact List.any_eq_true.2 ⟨e, e1, by simpa using e2⟩
   rw [if_pos c, if_pos c2]
  ·have c2 : ¬ (m.σ.any fun e => e.2 == n) = true := fun h => by
    obtain ⟨e, e1, e2⟩ := List.any_eq_true.1 h
    exact hs (List.mem_map.2 ⟨e, e1, by simpa using e2⟩)
   rw [if_neg c2]
   by_cases hu : n ∈ m.u
   ·have c : (m.σ.map (·.2) ++ m.u ++ t.names ρ).contains n = true := by
     simp only [b8, au, hu, or_true, true_or, decide_true]
    rw [if_pos c, gb]
    have : ∀ (u : List Nat) (b : Option Blk), n ∈ u → dX u n b = none := by
     intro u
     induction u with
     | nil => intro b h; cases h
     | cons k u ih =>
      intro b h
      rw [pI]
      by_cases e : n = k
      ·rw [if_pos e]; exact lC u n
      ·rw [if_neg e]
       rcases aA.1 h with h | h
       ·exact absurd h e
       ·exact ih _ h
    exact this m.u _ hu
   ·have c : ¬ (m.σ.map (·.2) ++ m.u ++ t.names ρ).contains n = true := by
     simp only [b8, au, hs, hu, hn, or_self, decide_false]
     decide
    rw [if_neg c]
structure GrowW (w w' : World) : Prop where
 size : w.heap.size ≤ w'.heap.size
 same : ∀ b, b < w.heap.size → w'.heap[b]? = w.heap[b]?
 os : w'.os = w.os
 tape : w'.tape = w.tape
 output : w'.output = w.output
def In.grow (I : In) (w w' : World) : In := ⟨I.ι, fun b => I.R b ∨ (w.heap.size ≤ b ∧ b < w'.heap.size)⟩
theorem GrowW.refl (w : World) : GrowW w w := ⟨ak _, fun _ _ => rfl, rfl, rfl, rfl⟩
theorem GrowW.trans {w w1 w2 : World} (h : GrowW w w1) (k : GrowW w1 w2) : GrowW w w2 :=
 ⟨aP h.size k.size, fun b hb => (k.same b (bc hb h.size)).trans (h.same b hb), k.os.trans h.os, k.tape.trans h.tape, k.output.trans h.output⟩
theorem uX (I : In) (w : World) : I.grow w w = I := by
 unfold In.grow
 obtain ⟨ι, R⟩ := I
 congr 1
 funext b
 exact propext ⟨fun h => h.elim id fun h => absurd h.2 (Nat.not_lt.2 h.1), .inl⟩
theorem gd {I : In} {w w1 w2 : World} (h : GrowW w w1) (k : GrowW w1 w2) : (I.grow w w1).grow w1 w2 = I.grow w w2 := by
 unfold In.grow
 congr 1
 funext b
 have h1 := h.size
 have h2 := k.size
 refine propext ⟨fun g => ?_, fun g => ?_⟩
 ·rcases g with (g | g) | g
  ·exact .inl g
  ·exact .inr ⟨g.1, by omega⟩
  ·exact .inr ⟨by omega, g.2⟩
 ·rcases g with g | g
  ·exact .inl (.inl g)
  ·rcases aq b w1.heap.size with h3 | h3
   ·exact .inl (.inr ⟨g.1, h3⟩)
   ·exact .inr ⟨h3, g.2⟩
theorem GrowW.hr {I : In} {w w' : World} {H : Heap} (g : GrowW w w') (hH : HR I w H) : HR (I.grow w w') w' H ∧ Same I (I.grow w w') w w' := HR.grow hH rfl (fun b => Iff.rfl) g.same g.size
theorem GrowW.ext {w w' : World} (g : GrowW w w') (I : In) : Ext I w (I.grow w w') w' :=
 ⟨fun _ _ h => h, fun _ h => .inl h, fun b hb _ => g.same b hb, fun n e b h hb => .inl ⟨n, e, h, hb⟩, fun b h => h.elim .inl fun h => .inr (.inr h.1), g.size, g.os, g.tape, g.output⟩
def nW (P : Program) (f : FuncId) (S : FS) : Prop := ∀ {I : In} {w : World} {H : Heap} {A : List DV} {args : List Value} {X : S.tin.Ty} {m : Met} {Y : S.R}, HR I w H → LR I w A args → S.tin.pr ⟨[], []⟩ A (fun _ => none) = some (X, m) → S.fn X = some Y →
 Calls P f args.toArray w (nT fun z w' => GrowW w w' ∧ VR (I.grow w w') w' (eK (S.tout.T da (S.out Y))) z)
def kh (P : Program) (f : FuncId) (S : FS) : Prop := ∀ {I : In} {w : World} {H : Heap} {A : List DV} {args : List Value} {X : S.tin.Ty} {m : Met} {Y : S.R}, HR I w H → LR I w A args → S.tin.pr ⟨[], []⟩ A H = some (X, m) → S.fn X = some Y →
 Calls P f args.toArray w (nT fun z w' => GrowW w w' ∧ VR (I.grow w w') w' (eK (S.tout.T da (S.out Y))) z)
def jo (P : Program) (g : FuncId) (t : Nat × List (List Int) × List FuncId) : Prop := ∀ {I : In} {w : World} {H : Heap} {A : List DV} {args : List Value}, HR I w H → LR I w A args → A.length = t.1 → A.all rk = true →
 Calls P g args.toArray w (nT fun z w' => ∃ I', Ext I w I' w' ∧ Rows I I' ∧ HR I' w' H ∧ VR I' w' (.tab t.2.1 (t.2.2.map fun F => .fn (.func F) A [])) z)
theorem pO {cx : Cx} {g : FuncId} {A : List DV} {v : DV} (h : kp cx g A = some v) : eT cx.P g = true ∧ ∃ t, cx.tabs g = some t ∧ A.length = t.1 ∧ A.all rk = true ∧ v = .tab t.2.1 (t.2.2.map fun F => .fn (.func F) A []) := by
 unfold kp at h
 split at h
 ·rename_i he
  split at h
  ·rename_i n ks Fs ht
   split at h
   ·rename_i hn
    split at h
    ·rename_i hp
     simp only [aa] at h
     exact ⟨he, _, ht, hn, hp, h.symm⟩
    ·cases h
   ·cases h
  ·cases h
 ·cases h
theorem nX : ∀ {l : List Nat}, ik l = true → l.Nodup
 | [], h => List.nodup_nil
 | a :: r, h => by
  simp only [ik, ag, bM, b8, decide_eq_false_iff_not] at h
  exact bz.2 ⟨h.1, nX h.2⟩
theorem rO {m : Met} {i n : Nat} (hk : (m.σ.map (·.1)).Nodup) (h : (i, n) ∈ m.σ) : m.get i = some n := by
 unfold Met.get
 generalize m.σ = l at hk h
 induction l with
 | nil => cases h
 | cons e r ih =>
  simp only [List.map_cons, bz] at hk
  simp only [List.find?_cons]
  rcases aA.1 h with h1 | h1
  ·subst h1; simp
  ·have : (e.1 == i) = false := by
    rw [aQ]
    intro e1
    exact hk.1 (List.mem_map.2 ⟨(i, n), h1, e1.symm⟩)
   rw [this]
   exact ih hk.2 h1
section
variable {α : Type} {cx : Cx} {d : Nat} {ops : Array Oper} {o : Oper} {I : In} {w : World} {T T' : List DV} {H H' : Heap} {a : Act} {v : DV} {act : Act2}
theorem kv {b : Bool} (hT : TR I w T a) (h : fB ops o T = some b) : Region.wanted o (yielded ops a.tmps) = b := by
 unfold fB at h
 unfold Region.wanted
 split at h
 ·rename_i hg
  rw [hg]
  simpa using h
 ·rename_i j want hg
  rw [hg]
  split at h
  ·rename_i g hj
   split at h
   ·rename_i b' hb
    have := lA hT hj hb
    simp only [this]
    simp only [aa] at h
    rw [← h]
    cases b' <;> cases want <;> rfl
   ·rename_i hb
    have := lB hT hj hb
    simp only [this]
    simp only [aa] at h
    rw [← h]
    rfl
   ·cases h
  ·cases h
theorem Ah (hp : ∀ g S, S ∈ cx.specs g → FS.pure S = true → nW cx.P g S) (ht : ∀ g t, cx.tabs g = some t → jo cx.P g t) (hT : TR I w T a) (hH : HR I w H) (h : rK cx d ops o T H v act) {K : Act → World → Prop} {Q : Exit → Act → World → Prop}
  (hk : ∀ I' w' u, Ext I w I' w' → HR I' w' (H.act2 act) → TR I' w' (cY (di act.u T) o.dst v) (a.put o.dst u) → K (a.put o.dst u) w') : if Region.wanted o (yielded ops a.tmps) then o.wp cx.P a w K Q ∨ (o.asks cx.P a w ∧ LetsOut Q) else K (a.put o.dst undef) w := by
 obtain ⟨b, h1, h2⟩ := h
 rw [kv hT h1]
 rcases h2 with ⟨rfl, h2⟩ | ⟨rfl, rfl, rfl⟩
 ·rw [if_pos rfl]
  refine .inl ?_
  rcases h2 with ⟨ac, h2, rfl⟩ | ⟨c, f, g, x, y, S, X, m, Y, k1, k2, k3, k4, k5, k6, k7, k8, rfl, rfl⟩ | ⟨c, f, g, x, y, k1, k2, k3, k4, rfl⟩
  ·obtain ⟨v', act', g1, g2⟩ := ym hT hH h2
   simp only [aa, ae] at g1
   obtain ⟨rfl, rfl⟩ := g1
   have hu : (Act2.of act').u = [] := by cases act' <;> rfl
   rw [sM, hu] at hk
   exact (g2.goes hT hH).wp hk
  ·obtain ⟨x', y', e1, e2⟩ := fJ (c := c) hT k3
   unfold Oper.wp
   rw [ga k1 k2 e1 (hZ k4), Oper.upon_enter]
   refine Calls.mono (hp g S k5 k6 hH e2 k7 k8) ?_
   rintro e w' he
   cases e with
   | returned z =>
    obtain ⟨m1, m4⟩ := he
    obtain ⟨m3, hs⟩ := m1.hr hH
    exact hk _ w' z (m1.ext I) m3 ((hT.keep hs).put _ m4)
   | _ => exact he.elim
  ·obtain ⟨x', y', e1, e2⟩ := fJ (c := c) hT k3
   obtain ⟨he, t, ht', hl, hpt, rfl⟩ := pO k4
   unfold Oper.wp
   rw [ga k1 k2 e1 (hZ he), Oper.upon_enter]
   refine Calls.mono (ht g t ht' hH e2 hl hpt) ?_
   rintro e w' he
   cases e with
   | returned z =>
    obtain ⟨I', m1, m2, m3, m4⟩ := he
    have hs : Same I I' w w' := ⟨m1.keeps hH, m1.obj, m2.row⟩
    exact hk I' w' z m1 m3 ((hT.keep hs).put _ m4)
   | _ => exact he.elim
 ·rw [if_neg (by simp)]
  exact hk I w undef (Ext.refl I w) hH (i7 hT o.dst)
theorem uY (H : Heap) : H.act2 ⟨[], [], fun _ => none⟩ = H := by
 funext m
 rfl
theorem Ai {rd : List Nat} (hq : ∀ g S, S ∈ cx.qs g → kh cx.P g S) (hT : TR I w T a) (hH : HR I w H) (h : pc cx ops o T H v act rd) {K : Act → World → Prop} {Q : Exit → Act → World → Prop}
  (hk : ∀ I' w' u, Ext I w I' w' → HR I' w' (H.act2 act) → TR I' w' (cY (di act.u T) o.dst v) (a.put o.dst u) → K (a.put o.dst u) w') : if Region.wanted o (yielded ops a.tmps) then o.wp cx.P a w K Q ∨ (o.asks cx.P a w ∧ LetsOut Q) else K (a.put o.dst undef) w := by
 obtain ⟨h1, c, f, g, x, y, S, X, m, Y, k1, k2, k3, k4, k5, k6, k7, rfl, rfl, k10⟩ := h
 rw [kv hT h1, if_pos rfl]
 refine .inl ?_
 obtain ⟨x', y', e1, e2⟩ := fJ (c := c) hT k3
 unfold Oper.wp
 rw [ga k1 k2 e1 (hZ k4), Oper.upon_enter]
 refine Calls.mono (hq g S k5 hH e2 k6 k7) ?_
 rintro e w' he
 cases e with
 | returned z =>
  obtain ⟨m1, m4⟩ := he
  obtain ⟨m3, hs⟩ := m1.hr hH
  exact hk _ w' z (m1.ext I) (by rw [uY]; exact m3) ((hT.keep hs).put _ m4)
 | _ => exact he.elim
theorem Aj (hs : ∀ g S, S ∈ cx.specs g → gc cx.P g S) (hT : TR I w T a) (hH : HR I w H) (h : mE cx ops o T H v act) {K : Act → World → Prop} {Q : Exit → Act → World → Prop}
  (hk : ∀ I' w' u, Ext I w I' w' → HR I' w' (H.act2 act) → TR I' w' (cY (di act.u T) o.dst v) (a.put o.dst u) → K (a.put o.dst u) w') : if Region.wanted o (yielded ops a.tmps) then o.wp cx.P a w K Q ∨ (o.asks cx.P a w ∧ LetsOut Q) else K (a.put o.dst undef) w := by
 obtain ⟨h1, c, f, g, x, y, S, X, m, Y, b, k1, k2, k3, k4, k5, k6, k7, k8, rfl, rfl⟩ := h
 rw [kv hT h1, if_pos rfl]
 refine .inl ?_
 obtain ⟨x', y', e1, e2⟩ := fJ (c := c) hT k3
 have hkey := nX (yt k6)
 have hρ : ∀ i n, (i, n) ∈ m.σ → (gV b m).o i = n := fun i n hin => by
  have hg : m.get i = some n := rO hkey hin
  simp only [gV, hg]
 unfold Oper.wp
 rw [ga k1 k2 e1 (hZ k4), Oper.upon_enter]
 refine Calls.mono (hs g S k5 (k := fun v H u => some (v, H, u)) hH e2 k6 hρ (by rw [k7, ab, if_pos k8])) ?_
 rintro e w' he
 cases e with
 | returned z =>
  obtain ⟨I', v', H', u, m1, m2, m3, m4, m5⟩ := he
  simp only [aa, ae] at m1
  obtain ⟨rfl, rfl, rfl⟩ := m1
  rw [Cy] at m3
  exact hk I' w' z m2 m3 ((uO hT hH m2 m5).put _ m4)
 | _ => exact he.elim
theorem yB {P : Program} {E : TypeId} {s : Sh} {x : DV} {ys : List s.T} {k : List DV → Heap → Option α} (h : dz P d o E s x ys H (fun v a => some (v, a)) = some (v, act)) : f0 P d o E s x ys T H k = k (cY (di act.u T) o.dst v) (H.act2 act) := by
 have one : ∀ n (b : Blk), ((H.sub n .none).set n (some b)) = H.act2 ⟨[n], [n], fun _ => some b⟩ := fun n b => by
  funext m
  simp only [Heap.set, Heap.act2]
  by_cases e : m = n
  ·simp [e]
  ·simp [e]
   rfl
 cases x
 case rw n =>
  simp only [dz] at h
  simp only [f0]
  split at h
  ·split at h
   ·rename_i hE
    split at h
    ·split at h
     ·rename_i hc
      simp only [aa, ae] at h
      obtain ⟨rfl, rfl⟩ := h
      simp only [hE, if_true, hc, one]
      rfl
     ·cases h
    ·cases h
   ·cases h
  ·cases h
 case sl n z l =>
  simp only [dz] at h
  simp only [f0]
  split at h
  ·split at h
   ·rename_i hz
    split at h
    ·rename_i hE
     split at h
     ·split at h
      ·rename_i hc
       simp only [aa, ae] at h
       obtain ⟨rfl, rfl⟩ := h
       simp only [hz, hE, if_true, hc, one]
       rfl
      ·cases h
     ·cases h
    ·cases h
   ·cases h
  ·cases h
 case sc v' =>
  cases v' with
  | slice ad n c =>
   cases ad with
   | none =>
    simp only [dz] at h
    simp only [f0]
    split at h
    ·rename_i hc
     rw [if_pos hc]
     split at h
     ·rename_i hb
      simp only [aa, ae] at h
      obtain ⟨rfl, rfl⟩ := h
      have hf : ij H 63 (base d o.dst) = base d o.dst := by
       unfold ij
       rw [hb]
      unfold eC
      simp only [hf, hb]
      have : H.act (some (base d o.dst, .row E s ys)) = H.act2 ⟨[], [base d o.dst], fun _ => some (.row E s ys)⟩ := (sM H (some (base d o.dst, .row E s ys))).symm
      rw [this]
      rfl
     ·cases h
    ·cases h
   | some ad => simp only [dz] at h; cases h
  | _ => simp only [dz] at h; cases h
 all_goals (simp only [dz] at h; cases h)
theorem Ak (hT : TR I w T a) (hH : HR I w H) (h : rL cx d ops o T H v act) {K : Act → World → Prop} {Q : Exit → Act → World → Prop}
  (hk : ∀ I' w' u, Ext I w I' w' → HR I' w' (H.act2 act) → TR I' w' (cY (di act.u T) o.dst v) (a.put o.dst u) → K (a.put o.dst u) w') : if Region.wanted o (yielded ops a.tmps) then o.wp cx.P a w K Q ∨ (o.asks cx.P a w ∧ LetsOut Q) else K (a.put o.dst undef) w := by
 obtain ⟨h1, c, x, y, t, e, s, ys, k1, k2, k3, k4, k5, k6, k7, k8, k9⟩ := h
 rw [kv hT h1, if_pos rfl]
 refine .inl ?_
 have hK : iu cx.P d o T H (fun T' H' => some (T', H')) = some (cY (di act.u T) o.dst v, H.act2 act) := by
  unfold iu
  simp only [k1, k2, k3, k4, if_true, k5, k6, k7, k8]
  exact yB k9
 obtain ⟨T', H', g1, g2⟩ := uM hT hH hK
 simp only [aa, ae] at g1
 obtain ⟨rfl, rfl⟩ := g1
 exact g2.wp fun I' w' u he hH' hT' => hk I' w' u he hH' hT'
end
theorem uZ {anc : List Nat} {j i : Nat} : f8 anc j i = true ↔ (anc.getD j 0).testBit i = true := by
 unfold f8
 rw [Nat.testBit_eq_decide_div_mod_eq]
 simp only [aj]
 rw [Nat.beq_eq]
theorem u4 {acc : List Nat} {x : Nat} : ∀ {l : List Edge} {m : Nat}, (o8 acc l m).testBit x = true ↔ m.testBit x = true ∨ ∃ e ∈ l, x = e.on ∨ f8 acc e.on x = true
 | [], m => by simp [o8]
 | e :: r, m => by
  simp only [o8, u4 (l := r), Nat.testBit_or, ay, Nat.testBit_two_pow, aj, aA, exists_eq_or_imp, uZ]
  constructor
  ·rintro ((h | h | h) | h)
   ·exact .inl h
   ·exact .inr (.inl (.inl h.symm))
   ·exact .inr (.inl (.inr h))
   ·exact .inr (.inr h)
  ·rintro (h | (h | h) | h)
   ·exact .inl (.inl h)
   ·exact .inl (.inr (.inl h.symm))
   ·exact .inl (.inr (.inr h))
   ·exact .inr h
theorem nY : ∀ {l : List Oper} {i : Nat} {acc anc : List Nat}, nL i l acc = some anc → acc.length = i → (∃ t, anc = acc ++ t) ∧ ∀ n o, l[n]? = some o → (∀ e ∈ o.after.toList, Region.binds .any e = true → e.on < i + n) ∧ ∀ x, f8 anc (i + n) x = true ↔ ∃ e ∈ o.after.toList.filter (Region.binds .any), x = e.on ∨ f8 anc e.on x = true
 | [], i, acc, anc, h, hl => by
  simp only [nL, aa] at h
  subst h
  exact ⟨⟨[], by simp⟩, fun n o h => by simp at h⟩
 | o :: r, i, acc, anc, h, hl => by
  simp only [nL] at h
  split at h
  ·rename_i hall
   obtain ⟨⟨t, ht⟩, h2⟩ := nY h (by simp [hl])
   refine ⟨⟨_, by rw [ht, aH]⟩, fun n o' hn => ?_⟩
   cases n with
   | zero =>
    simp only [bg, aa] at hn
    subst hn
    have hlt : ∀ e ∈ o.after.toList, Region.binds .any e = true → e.on < i := by
     intro e he hb
     simp only [aK, bS, aj] at hall
     exact hall e ⟨he, hb⟩
    refine ⟨fun e he hb => by have := hlt e he hb; omega, fun x => ?_⟩
    have hg : anc.getD (i + 0) 0 = o8 acc (o.after.toList.filter (Region.binds .any)) 0 := by
     rw [ht, ax, aH, aX (by omega)]
     simp [hl]
    rw [uZ, hg, u4]
    simp only [Nat.zero_testBit, aD, false_or]
    have same : ∀ e ∈ o.after.toList.filter (Region.binds .any), f8 acc e.on x = f8 anc e.on x := by
     intro e he
     rw [bS] at he
     have := hlt e he.1 he.2
     unfold f8
     simp only [ht, ax, aH]
     rw [aV (by omega)]
    constructor
    ·rintro ⟨e, he, h⟩
     exact ⟨e, he, h.imp id fun h => by rw [← same e he]; exact h⟩
    ·rintro ⟨e, he, h⟩
     exact ⟨e, he, h.imp id fun h => by rw [same e he]; exact h⟩
   | succ n =>
    have := h2 n o' (by simpa using hn)
    rw [show i + (n + 1) = i + 1 + n by omega]
    exact this
  ·cases h
section
variable {ops : Array Oper} {anc : List Nat} {listed : Array Bool}
def yC (ops : Array Oper) (listed : Array Bool) (j : Nat) : Prop := ∀ o, ops[j]? = some o → ∀ e ∈ o.after, Region.binds .any e = true → listed.getD e.on false = true
theorem rP (ha : nL 0 ops.toList [] = some anc) (hc : ∀ j, listed.getD j false = true → yC ops listed j) : ∀ (n j : Nat), j ≤ n → j < ops.size → yC ops listed j → ∀ x, f8 anc j x = true → listed.getD x false = true := by
 obtain ⟨_, hs⟩ := nY ha rfl
 intro n
 induction n with
 | zero =>
  intro j hj hlt hA x hx
  obtain ⟨h1, h2⟩ := hs j ops[j] (by simp [hlt])
  rw [show 0 + j = j by omega] at h1 h2
  rw [h2] at hx
  obtain ⟨e, he, hx⟩ := hx
  rw [bS] at he
  have := h1 e he.1 he.2
  omega
 | succ n ih =>
  intro j hj hlt hA x hx
  obtain ⟨h1, h2⟩ := hs j ops[j] (by simp [hlt])
  rw [show 0 + j = j by omega] at h1 h2
  rw [h2] at hx
  obtain ⟨e, he, hx⟩ := hx
  rw [bS] at he
  have hon := h1 e he.1 he.2
  have hl := hA ops[j] (by simp [hlt]) e (Array.mem_toList_iff.1 he.1) he.2
  rcases hx with rfl | hx
  ·exact hl
  ·exact ih e.on (by omega) (by omega) (hc e.on hl) x hx
end
theorem we {ops : Array Oper} {anc : List Nat} (h : ko ops anc = true) {i j : Nat} {x y : Oper} (hij : i < j) (hx : ops.toList[i]? = some x) (hy : ops.toList[j]? = some y) : f8 anc j i = true ∨ x.apart ops y = true := by
 rw [bO] at hx hy
 unfold ko at h
 rw [aK] at h
 have h1 := h j (by rw [aW]; exact (Array.getElem?_eq_some_iff.1 hy).1)
 rw [aK] at h1
 have h2 := h1 i (by rw [aW]; exact hij)
 rw [hx, hy] at h2
 simpa using h2
theorem Al {anc : List Nat} {d j : Nat} {q : Bool} {log : List (Nat × Did)} {x : Did} {ops : Array Oper} (h : nf ops anc d j q log x = true) {i : Nat} {e : Did} (he : (i, e) ∈ log) (hq : q = true → pB e = true) (hs : f8 anc j i = true ∨ e.o.apart ops x.o = true) : f8 anc j i = true ∨ fU d ops e x = true := by
 rcases hs with hs | hs
 ·exact .inl hs
 ·have two : pB e = true → pB x = true → fU d ops e x = true := fun h1 h2 => by
   unfold pB at h1 h2
   simp only [ag, List.isEmpty_iff] at h1 h2
   unfold fU xb w9
   rw [h1.1, h2.1, h1.2, h2.2, hs]
   rfl
  unfold nf at h
  simp only [ay, ag] at h
  rcases h with ⟨h1, h2⟩ | h
  ·exact .inr (two (hq h1) h2)
  ·rw [aK] at h
   have := h _ he
   simp only [ay, ag] at this
   rcases this with ⟨h1, h2⟩ | h1 | h1
   ·exact .inr (two h1 h2)
   ·exact .inl h1
   ·refine .inr ?_
    unfold fU
    rw [hs, Bool.and_true]
    exact h1
def pd (cx : Cx) (d : Nat) (ops : Array Oper) (e : Rec) (s : St) : Prop :=
 (rK cx d ops e.o s.1 s.2 e.v e.act ∧ e.r = d9 s.1 e.o) ∨ (mE cx ops e.o s.1 s.2 e.v e.act ∧ e.r = e.act.W) ∨ (rL cx d ops e.o s.1 s.2 e.v e.act ∧ e.r = d9 s.1 e.o ++ e.act.W) ∨ pc cx ops e.o s.1 s.2 e.v e.act e.r
structure Seg (cx : Cx) (d : Nat) (ops : Array Oper) (anc : List Nat) (m : Nat) (s0 : St) (rs : List Rec) : Prop where
 op : ∀ i e, rs[i]? = some e → ops.toList[m + i]? = some e.o
 st : ∀ i e, rs[i]? = some e → pd cx d ops e (cU (rs.take i) s0)
 fit : ∀ i (e : Rec), rs[i]? = some e → e.Fit ops (cU (rs.take i) s0)
 ap : ∀ i e i' e', i' < i → rs[i']? = some e' → rs[i]? = some e → f8 anc (m + i) (m + i') = true ∨ fU d ops e'.did e.did = true
theorem Seg.nil {cx : Cx} {d : Nat} {ops : Array Oper} {anc : List Nat} {m : Nat} {s0 : St} : Seg cx d ops anc m s0 [] := ⟨fun i e h => by simp at h, fun i e h => by simp at h, fun i e h => by simp at h, fun i e i' e' _ h => by simp at h⟩
def nZ (ops : Array Oper) (s : St) (o : Oper) (v : DV) (r : List Nat) (a : Act2) : Rec := ⟨o, v, a, r, uo ops s.1 s.2 o v r a, s.1, s.2⟩
theorem u5 (ops : Array Oper) (s : St) (o : Oper) (v : DV) (r : List Nat) (a : Act2) : (nZ ops s o v r a).did = fP ops s.1 s.2 o v r a := rfl
theorem u6 {ops : Array Oper} {s : St} {o : Oper} {v : DV} {r : List Nat} {a : Act2} (h : ∀ n ∈ a.u, n ∈ a.W) : (nZ ops s o v r a).Fit ops s := ⟨rfl, rfl, rfl, h⟩
theorem BY {cx : Cx} {ops : Array Oper} {T : List DV} {H : Heap} {o : Oper} {v : DV} {a : Act2} (h : mE cx ops o T H v a) : ∀ n ∈ a.u, n ∈ a.W := by
 obtain ⟨_, c, f, g, x, y, S, X, m, Y, b, k1, k2, k3, k4, k5, k6, k7, k8, k9, k10⟩ := h
 intro n hn
 rw [k10] at hn ⊢
 simp only [au]
 exact .inl (.inr hn)
theorem yD {P : Program} {d : Nat} {o : Oper} {E : TypeId} {s : Sh} {x : DV} {ys : List s.T} {H : Heap} {v : DV} {a : Act2} (h : dz P d o E s x ys H (fun v a => some (v, a)) = some (v, a)) : ∀ n ∈ a.u, n ∈ a.W := by
 cases x
 case rw n =>
  simp only [dz] at h
  split at h
  ·split at h
   ·split at h
    ·split at h
     ·simp only [aa, ae] at h
      obtain ⟨_, rfl⟩ := h
      exact fun n hn => hn
     ·cases h
    ·cases h
   ·cases h
  ·cases h
 case sl n z l =>
  simp only [dz] at h
  split at h
  ·split at h
   ·split at h
    ·split at h
     ·split at h
      ·simp only [aa, ae] at h
       obtain ⟨_, rfl⟩ := h
       exact fun n hn => hn
      ·cases h
     ·cases h
    ·cases h
   ·cases h
  ·cases h
 case sc v' =>
  cases v' with
  | slice ad n c =>
   cases ad with
   | none =>
    simp only [dz] at h
    split at h
    ·split at h
     ·simp only [aa, ae] at h
      obtain ⟨_, rfl⟩ := h
      exact fun n hn => by cases hn
     ·cases h
    ·cases h
   | some ad => simp only [dz] at h; cases h
  | _ => simp only [dz] at h; cases h
 all_goals (simp only [dz] at h; cases h)
theorem Cz (a : eg) : (Act2.of a).u = [] := by cases a <;> rfl
section
variable {α : Type} {cx : Cx} {call : fp α} {d : Nat} {ops : Array Oper} {anc : List Nat} {k : K α} {r : α}
def n4 (cx : Cx) (call : fp α) (d : Nat) (ops : Array Oper) (anc : List Nat) (k : K α) (r : α) (q : Nat) (T : List DV) (H : Heap) : Prop :=
 (ops.toList.drop q = [] ∧ k T H = some r) ∨ ∃ o rest, ops.toList.drop q = o :: rest ∧ rl anc ops.size q = true ∧ fB ops o T = some true ∧
  ((∃ c f g x y, o.op = .call c ∧ c.callee = .value f ∧ cO T f = .fn (.func g) x y ∧ (match (if kf g = true then (x ++ c.args.toList.map (cO T) ++ y, T, H) else gC (x ++ c.args.toList.map (cO T) ++ y) T H) with
   | (A, T, H) => call g A H fun v H u => dh cx call d ops anc rest (q + 1) true [] (cY (gN T u) o.dst v) H k) = some r) ∨
  (iu cx.P d o T H fun T H => dh cx call d ops anc rest (q + 1) true [] T H k) = some r)
theorem iA : ∀ {l : List FS} {A : List DV} {k : DV → Option α} {q : Option α}, gn l A k = some q → ∃ S X m, S ∈ l ∧ FS.pure S = true ∧ S.tin.pr ⟨[], []⟩ A (fun _ => none) = some (X, m) ∧ q = (S.fn X).bind fun y => k (eK (S.tout.T da (S.out y)))
 | [], A, k, q, h => by cases h
 | S :: l, A, k, q, h => by
  simp only [gn] at h
  split at h
  ·rename_i hp
   split at h
   ·rename_i X m hX
    simp only [aa] at h
    exact ⟨S, X, m, by simp, hp, hX, h.symm⟩
   ·obtain ⟨S', X, m, h1, h2⟩ := iA h
    exact ⟨S', X, m, av _ h1, h2⟩
  ·obtain ⟨S', X, m, h1, h2⟩ := iA h
   exact ⟨S', X, m, av _ h1, h2⟩
theorem rQ : ∀ {l : List FS} {A : List DV} {H : Heap} {b : Nat} {k : DV → Act2 → Option α} {q : Option α}, kR l A H b k = some q → ∃ S X m, S ∈ l ∧ S.tin.pr ⟨[], []⟩ A H = some (X, m) ∧ q = (S.fn X).bind fun y =>
   if S.tout.free (gV b m) ((cZ m.u H).away m) = true then k (eK (S.tout.T (gV b m) (S.out y))) ⟨m.u, m.σ.map (·.2) ++ m.u ++ S.tout.names (gV b m), S.tout.H (gV b m) (S.out y) fun _ => none⟩ else none
 | [], A, H, b, k, q, h => by cases h
 | S :: l, A, H, b, k, q, h => by
  simp only [kR] at h
  split at h
  ·rename_i X m hX
   simp only [aa] at h
   exact ⟨S, X, m, by simp, hX, h.symm⟩
  ·obtain ⟨S', X, m, h1, h2⟩ := rQ h
   exact ⟨S', X, m, av _ h1, h2⟩
theorem lG : ∀ {l : List FS} {A : List DV} {H : Heap} {k : DV → List Nat → Option α} {q : Option α}, gD l A H k = some q → ∃ S X m, S ∈ l ∧ S.tin.pr ⟨[], []⟩ A H = some (X, m) ∧ q = (S.fn X).bind fun y => k (eK (S.tout.T da (S.out y))) (m.σ.map (·.2) ++ m.u)
 | [], A, H, k, q, h => by cases h
 | S :: l, A, H, k, q, h => by
  simp only [gD] at h
  split at h
  ·rename_i X m hX
   simp only [aa] at h
   exact ⟨S, X, m, by simp, hX, h.symm⟩
  ·obtain ⟨S', X, m, h1, h2⟩ := lG h
   exact ⟨S', X, m, av _ h1, h2⟩
theorem xl {P : Program} {o : Oper} {c : Call} {T : List DV} {H : Heap} {k : DV → Act2 → Option α} {q : α} (h : o9 P d o c T H k = some q) : ∃ x y t e s ys v a, c.args.toList = [x, y] ∧ c.argTypes.toList = [t, t] ∧ P.underlying t = some (.slice e) ∧ fh P 8 e = some s ∧ gB P e s = true ∧ d4 H s (cO T y) = some ys ∧ dz P d o e s (cO T x) ys H (fun v a => some (v, a)) = some (v, a) ∧ k v a = some q := by
 unfold o9 at h
 split at h
 ·rename_i x y t t' h1 h2
  split at h
  ·rename_i ht
   subst ht
   split at h
   ·rename_i e he
    split at h
    ·rename_i s hs
     split at h
     ·rename_i hz
      split at h
      ·rename_i ys hy
       rw [pM] at h
       obtain ⟨⟨v, a⟩, ha, hk⟩ := Option.bind_eq_some_iff.1 h
       exact ⟨x, y, t, e, s, ys, v, a, h1, h2, he, hs, hz, hy, ha, hk⟩
      ·cases h
     ·cases h
    ·cases h
   ·cases h
  ·cases h
 ·cases h
theorem Seg.snoc {m : Nat} {s0 : St} {rs : List Rec} (hst : ko ops anc = true) (h : Seg cx d ops anc m s0 rs) {e0 : Rec} (ho : ops.toList[m + rs.length]? = some e0.o) (hs : pd cx d ops e0 (cU rs s0)) (hfit : e0.Fit ops (cU rs s0)) {q : Bool} {log : List (Nat × Did)}
  (hlog : ∀ i e, rs[i]? = some e → (m + i, e.did) ∈ log) (hq : q = true → ∀ e ∈ rs, pB e.did = true)
  (hc : nf ops anc d (m + rs.length) q log e0.did = true) : Seg cx d ops anc m s0 (rs ++ [e0]) := by
 have old : ∀ {i : Nat} {e : Rec}, (rs ++ [e0])[i]? = some e → (i < rs.length ∧ rs[i]? = some e ∧ (rs ++ [e0]).take i = rs.take i) ∨ (i = rs.length ∧ e = e0 ∧ (rs ++ [e0]).take i = rs) := by
  intro i e hi
  rcases aq i rs.length with hl | hl
  ·rw [aV hl] at hi
   exact .inl ⟨hl, hi, by rw [bl (by omega)]⟩
  ·rw [aX hl] at hi
   have hlt := (List.getElem?_eq_some_iff.1 hi).1
   simp only [aJ, bY] at hlt
   have : i = rs.length := by omega
   subst this
   simp only [bT, bg, aa] at hi
   exact .inr ⟨rfl, hi.symm, by simp⟩
 refine ⟨fun i e hi => ?_, fun i e hi => ?_, fun i e hi => ?_, fun i e i' e' hlt hi' hi => ?_⟩
 ·rcases old hi with ⟨_, h1, _⟩ | ⟨rfl, rfl, _⟩
  ·exact h.op i e h1
  ·exact ho
 ·rcases old hi with ⟨_, h1, h2⟩ | ⟨rfl, rfl, h2⟩
  ·rw [h2]; exact h.st i e h1
  ·rw [h2]; exact hs
 ·rcases old hi with ⟨_, h1, h2⟩ | ⟨rfl, rfl, h2⟩
  ·rw [h2]; exact h.fit i e h1
  ·rw [h2]; exact hfit
 ·rcases old hi with ⟨hl, h1, h2⟩ | ⟨rfl, rfl, h2⟩
  ·rcases old hi' with ⟨_, h1', _⟩ | ⟨rfl, _, _⟩
   ·exact h.ap i e i' e' hlt h1' h1
   ·omega
  ·rcases old hi' with ⟨_, h1', _⟩ | ⟨rfl, _, _⟩
   ·refine Al hc (hlog i' e' h1') (fun h0 => hq h0 e' (ce h1')) (we hst (by omega) (h.op i' e' h1') ho)
   ·omega
theorem n5 {l : List Oper} {q : Nat} {o : Oper} {rest : List Oper} (h : l.drop q = o :: rest) : l[q]? = some o ∧ l.drop (q + 1) = rest := by
 constructor
 ·rw [← List.head?_drop, h]; rfl
 ·rw [← List.tail_drop, h]; rfl
theorem sN (hst : ko ops anc = true) {m : Nat} {s0 : St} : ∀ {l : List Oper} {rs : List Rec} {j : Nat} {q : Bool} {log : List (Nat × Did)}, ops.toList.drop (m + rs.length) = l → j = m + rs.length → (∀ i e, rs[i]? = some e → (m + i, e.did) ∈ log) → (q = true → ∀ e ∈ rs, pB e.did = true) → Seg cx d ops anc m s0 rs → dh cx call d ops anc l j q log (cU rs s0).1 (cU rs s0).2 k = some r →
  ∃ rs', Seg cx d ops anc m s0 rs' ∧ n4 cx call d ops anc k r (m + rs'.length) (cU rs' s0).1 (cU rs' s0).2
 | [], rs, j, q, log, hl, hj, hlog, hq, hs, h => ⟨rs, hs, .inl ⟨hl, h⟩⟩
 | o :: l, rs, j, q, log, hl, hj, hlog, hq, hs, h => by
  subst hj
  obtain ⟨ho, hl2⟩ := n5 hl
  have more : ∀ {e0 : Rec} {q' : Bool}, Seg cx d ops anc m s0 (rs ++ [e0]) → (q' = true → q = true ∧ pB e0.did = true) → dh cx call d ops anc l (m + rs.length + 1) q' ((m + rs.length, e0.did) :: log) (cU (rs ++ [e0]) s0).1 (cU (rs ++ [e0]) s0).2 k = some r → ∃ rs', Seg cx d ops anc m s0 rs' ∧ n4 cx call d ops anc k r (m + rs'.length) (cU rs' s0).1 (cU rs' s0).2 := by
   intro e0 q' hseg hq' h
   refine sN hst (l := l) (j := m + rs.length + 1) (rs := rs ++ [e0]) (by simp only [aS, aJ, bY]; rw [← hl2]; congr 1) (by simp only [aS, aJ, bY]; omega) (log := (m + rs.length, e0.did) :: log) (q := q') (fun i e hi => ?_) (fun h0 e he => ?_) hseg h
   ·rcases aq i rs.length with hlt | hge
    ·rw [aV hlt] at hi
     exact av _ (hlog i e hi)
    ·rw [aX hge] at hi
     have hlt := (List.getElem?_eq_some_iff.1 hi).1
     simp only [aJ, bY] at hlt
     have : i = rs.length := by omega
     subst this
     simp only [bT, bg, aa] at hi
     subst hi
     exact aI ..
   ·obtain ⟨h1, h2⟩ := hq' h0
    rcases au.1 he with he | he
    ·exact hq h1 e he
    ·simp only [aw] at he
     subst he
     exact h2
  have next : ∀ {v : DV} {act : eg}, rK cx d ops o (cU rs s0).1 (cU rs s0).2 v (Act2.of act) → (if nf ops anc d (m + rs.length) q log (fP ops (cU rs s0).1 (cU rs s0).2 o v (d9 (cU rs s0).1 o) (Act2.of act)) = true then
    dh cx call d ops anc l (m + rs.length + 1) (q && act.isNone) ((m + rs.length, fP ops (cU rs s0).1 (cU rs s0).2 o v (d9 (cU rs s0).1 o) (Act2.of act)) :: log) (cY (cU rs s0).1 o.dst v) ((cU rs s0).2.act act) k else none) = some r → ∃ rs', Seg cx d ops anc m s0 rs' ∧ n4 cx call d ops anc k r (m + rs'.length) (cU rs' s0).1 (cU rs' s0).2 := by
   intro v act hst1 h
   split at h
   ·rename_i hc
    rw [← u5] at hc h
    refine more (e0 := nZ ops (cU rs s0) o v (d9 (cU rs s0).1 o) (Act2.of act)) (q' := q && act.isNone) (hs.snoc hst ho (.inl ⟨hst1, rfl⟩) (u6 (by rw [Cz]; exact fun n hn => by cases hn)) hlog hq hc) (fun h0 => ?_) ?_
    ·simp only [ag] at h0
     refine ⟨h0.1, ?_⟩
     cases act with
     | none => rfl
     | some p => cases h0.2
    ·rw [lE]
     show dh cx call d ops anc l (m + rs.length + 1) (q && act.isNone) _ (cY (di (Act2.of act).u (cU rs s0).1) o.dst v) ((cU rs s0).2.act2 (Act2.of act)) k = some r
     rw [sM, Cz]
     exact h
   ·cases h
  have soft : ∀ {v : DV} {rd : List Nat} {act : Act2}, pd cx d ops (nZ ops (cU rs s0) o v rd act) (cU rs s0) → (∀ n ∈ act.u, n ∈ act.W) → (if nf ops anc d (m + rs.length) q log (fP ops (cU rs s0).1 (cU rs s0).2 o v rd act) = true then
    dh cx call d ops anc l (m + rs.length + 1) false ((m + rs.length, fP ops (cU rs s0).1 (cU rs s0).2 o v rd act) :: log) (cY (di act.u (cU rs s0).1) o.dst v) ((cU rs s0).2.act2 act) k else none) = some r → ∃ rs', Seg cx d ops anc m s0 rs' ∧ n4 cx call d ops anc k r (m + rs'.length) (cU rs' s0).1 (cU rs' s0).2 := by
   intro v rd act hst1 hu h
   split at h
   ·rename_i hc
    rw [← u5] at hc h
    refine more (e0 := nZ ops (cU rs s0) o v rd act) (q' := false) (hs.snoc hst ho hst1 (u6 hu) hlog hq hc) (fun h => by cases h) ?_
    rw [lE]
    exact h
   ·cases h
  have hst0 : cU rs s0 = ((cU rs s0).1, (cU rs s0).2) := rfl
  have hsoft : ∀ {v : DV} {act : Act2}, mE cx ops o (cU rs s0).1 (cU rs s0).2 v act → pd cx d ops (nZ ops (cU rs s0) o v act.W act) (cU rs s0) := fun h => .inr (.inl ⟨h, rfl⟩)
  have hsoftA : ∀ {v : DV} {act : Act2}, rL cx d ops o (cU rs s0).1 (cU rs s0).2 v act → pd cx d ops (nZ ops (cU rs s0) o v (d9 (cU rs s0).1 o ++ act.W) act) (cU rs s0) := fun h => .inr (.inr (.inl ⟨h, rfl⟩))
  have hsoftQ : ∀ {v : DV} {act : Act2} {rd : List Nat}, pc cx ops o (cU rs s0).1 (cU rs s0).2 v act rd → pd cx d ops (nZ ops (cU rs s0) o v rd act) (cU rs s0) := fun h => .inr (.inr (.inr h))
  generalize hTT : (cU rs s0).1 = T at *
  generalize hHH : (cU rs s0).2 = H at *
  have hrun : fB ops o T = some true → ∀ {R : Option α}, sF cx call d ops.size anc o (m + rs.length) T H (fun v act => if nf ops anc d (m + rs.length) q log (fP ops T H o v (d9 T o) (Act2.of act)) = true then
    dh cx call d ops anc l (m + rs.length + 1) (q && act.isNone) ((m + rs.length, fP ops T H o v (d9 T o) (Act2.of act)) :: log) (cY T o.dst v) (H.act act) k else none) (fun rd v act => if nf ops anc d (m + rs.length) q log (fP ops T H o v rd act) = true then
    dh cx call d ops anc l (m + rs.length + 1) false ((m + rs.length, fP ops T H o v rd act) :: log) (cY (di act.u T) o.dst v) (H.act2 act) k else none) (fun T H => dh cx call d ops anc l (m + rs.length + 1) true [] T H k) = some r → ∃ rs', Seg cx d ops anc m s0 rs' ∧ n4 cx call d ops anc k r (m + rs'.length) (cU rs' s0).1 (cU rs' s0).2 := by
   intro hw R h
   have plain : (dI cx.P d o T H fun v act => if nf ops anc d (m + rs.length) q log (fP ops T H o v (d9 T o) (Act2.of act)) = true then
    dh cx call d ops anc l (m + rs.length + 1) (q && act.isNone) ((m + rs.length, fP ops T H o v (d9 T o) (Act2.of act)) :: log) (cY T o.dst v) (H.act act) k else none) = some r → ∃ rs', Seg cx d ops anc m s0 rs' ∧ n4 cx call d ops anc k r (m + rs'.length) (cU rs' s0).1 (cU rs' s0).2 := by
    intro h
    rw [kg] at h
    obtain ⟨⟨v, act⟩, h1, h2⟩ := Option.bind_eq_some_iff.1 h
    exact next ⟨true, hw, .inl ⟨rfl, .inl ⟨act, h1, rfl⟩⟩⟩ h2
   unfold sF at h
   split at h
   ·rename_i c hoc
    split at h
    ·rename_i f hcf
     split at h
     ·rename_i g x y hf
      split at h
      ·rename_i v hv
       exact next (act := none) ⟨true, hw, .inl ⟨rfl, .inr (.inr ⟨c, f, g, x, y, hoc, hcf, hf, hv, rfl⟩)⟩⟩ h
      split at h
      ·rename_i q hq
       split at hq
       ·rename_i hent
        obtain ⟨S, X, mm, h1, h2, h3, rfl⟩ := iA hq
        obtain ⟨Y, h4, h5⟩ := Option.bind_eq_some_iff.1 h
        exact next (act := none) ⟨true, hw, .inl ⟨rfl, .inr (.inl ⟨c, f, g, x, y, S, X, mm, Y, hoc, hcf, hf, hent, h1, h2, h3, h4, rfl, rfl⟩)⟩⟩ h5
       ·cases hq
      split at h
      ·rename_i q hq
       split at hq
       ·rename_i hent
        obtain ⟨S, X, mm, h1, h2, rfl⟩ := lG hq
        obtain ⟨Y, h4, h5⟩ := Option.bind_eq_some_iff.1 h
        have hQ : pc cx ops o T H _ _ _ := ⟨hw, c, f, g, x, y, S, X, mm, Y, hoc, hcf, hf, hent, h1, h2, h4, rfl, rfl, rfl⟩
        exact soft (hsoftQ hQ) (fun n hn => by cases hn) h5
       ·cases hq
      ·split at h
       ·rename_i hb
        exact ⟨rs, hs, .inr ⟨o, l, hl, hb, by rw [hTT]; exact hw, .inl ⟨c, f, g, x, y, hoc, hcf, by rw [hTT]; exact hf, by rw [hTT, hHH]; exact h⟩⟩⟩
       ·split at h
        ·rename_i q hq
         split at hq
         ·rename_i hent
          obtain ⟨S, X, mm, h1, h2, rfl⟩ := rQ hq
          obtain ⟨Y, h4, h5⟩ := Option.bind_eq_some_iff.1 h
          split at h5
          ·rename_i hfree
           have hS : mE cx ops o T H _ _ := ⟨hw, c, f, g, x, y, S, X, mm, Y, _, hoc, hcf, hf, hent, h1, h2, h4, hfree, rfl, rfl⟩
           exact soft (hsoft hS) (BY hS) h5
          ·cases h5
         ·cases hq
        ·cases h
     ·cases h
    ·rename_i hcf
     split at h
     ·rename_i hb
      exact ⟨rs, hs, .inr ⟨o, l, hl, hb, by rw [hTT]; exact hw, .inr (by rw [hTT, hHH]; exact h)⟩⟩
     ·obtain ⟨x, y, t, e, s, ys, v, a, q1, q2, q3, q4, q5, q6, q7, q8⟩ := xl h
      exact soft (hsoftA ⟨hw, c, x, y, t, e, s, ys, hoc, hcf, q1, q2, q3, q4, q5, q6, q7⟩) (yD q7) q8
    ·exact plain h
   ·rename_i q x y ho'
    split at h
    ·rename_i hb
     simp only [ag] at hb
     exact ⟨rs, hs, .inr ⟨o, l, hl, hb.2, by rw [hTT]; exact hw, .inr (by rw [hTT, hHH]; exact h)⟩⟩
    ·exact plain h
   ·exact plain h
  unfold dh at h
  simp only at h
  split at h
  ·rename_i hg
   exact hrun (by simp [fB, hg]) (R := some r) h
  ·rename_i j want hg
   split at h
   ·rename_i g hj
    split at h
    ·rename_i b hb
     have hfix : T.set g (.sc (.bool b)) = T := rB hb (by simp)
     have hw : fB ops o T = some (b == want) := by unfold fB; rw [hg]; simp only [hj, hb]
     cases b with
     | true =>
      rw [hfix] at h
      cases want with
      | true => exact hrun hw (R := some r) h
      | false => exact next (act := none) ⟨false, hw, .inr ⟨rfl, rfl, rfl⟩⟩ h
     | false =>
      rw [hfix] at h
      cases want with
      | true => exact next (act := none) ⟨false, hw, .inr ⟨rfl, rfl, rfl⟩⟩ h
      | false => exact hrun hw (R := some r) h
    ·rename_i hb
     have hw : fB ops o T = some false := by unfold fB; rw [hg]; simp only [hj, hb]
     exact next (act := none) ⟨false, hw, .inr ⟨rfl, rfl, rfl⟩⟩ h
    ·cases h
   ·cases h
end
def fg (S : Nat → Bool) : Nat → Nat
 | 0 => 0
 | n + 1 => fg S n + (if S n then 0 else 1)
theorem tA {S S' : Nat → Bool} : ∀ {n : Nat}, (∀ i, i < n → S i = S' i) → fg S n = fg S' n
 | 0, _ => rfl
 | n + 1, h => by simp only [fg]; rw [tA (fun i hi => h i (by omega)), h n (by omega)]
theorem wz {S : Nat → Bool} {j : Nat} (hj : S j = false) : ∀ {n : Nat}, j < n → fg (fun i => S i || i == j) n + 1 = fg S n
 | 0, h => by omega
 | n + 1, h => by
  simp only [fg]
  rcases aq j n with h1 | h1
  ·have := wz hj h1
   have hne : (n == j) = false := by rw [aQ]; omega
   simp only [hne, aY]
   omega
  ·have : n = j := by omega
   subst this
   rw [tA (S := fun i => S i || i == n) (S' := S) (fun i hi => by
    have hne : (i == n) = false := by rw [aQ]; omega
    simp only [hne, aY])]
   simp [hj]
theorem kw {S : Nat → Bool} : ∀ {n : Nat}, fg S n = 0 → ∀ i, i < n → S i = true
 | n + 1, h, i, hi => by
  simp only [fg] at h
  rcases aq i n with h1 | h1
  ·exact kw (by omega) i h1
  ·have : i = n := by omega
   subst this
   cases hS : S i with
   | true => rfl
   | false => rw [hS] at h; simp at h
theorem u7 {S : Nat → Bool} (h : ∀ i, S i = false) : ∀ n, fg S n = n
 | 0 => rfl
 | n + 1 => by simp only [fg, u7 h n, h n]; rfl
theorem n6 {S : Nat → Bool} : ∀ {l : List Rec} {m : Nat} {s : St}, (∀ i, m ≤ i → S i = false) → dY m S l s = s
 | [], _, _, _ => rfl
 | e :: r, m, s, h => by
  simp only [dY, h m (ak _), aD, ao]
  exact n6 (fun i hi => h i (by omega))
abbrev eS (listed : Array Bool) : Nat → Bool := fun i => listed.getD i false
theorem BZ {listed : Array Bool} {j : Nat} (h : j < listed.size) : eS (listed.setIfInBounds j true) = fun i => eS listed i || i == j := by
 funext i
 simp only [eS, bC, Array.getElem?_setIfInBounds]
 by_cases e : j = i
 ·subst e; simp [h]
 ·have : (i == j) = false := by rw [aQ]; exact fun e' => e e'.symm
  simp [e, this]
theorem qi {listed : Array Bool} {j : Nat} (h : j < listed.size) : listed.getD j true = eS listed j := by
 simp [eS, h]
section
variable {α : Type} {cx : Cx} {call : fp α} {d : Nat} {ops : Array Oper} {anc : List Nat} {k : K α} {r : α} {Q : Exit → Act → World → Prop}
theorem Am (hcall : mA cx.P call) (hsp : ∀ g S, S ∈ cx.specs g → gc cx.P g S) (hp : ∀ g S, S ∈ cx.specs g → FS.pure S = true → nW cx.P g S) (htab : ∀ g t, cx.tabs g = some t → jo cx.P g t) (hqs : ∀ g S, S ∈ cx.qs g → kh cx.P g S) (ha : nL 0 ops.toList [] = some anc) (hstat : ko ops anc = true) : ∀ (fuel : Nat) {listed : Array Bool} {m : Nat} {s0 : St} {rs : List Rec} {I : In} {w : World} {a : Act},
  listed.size = ops.size → fg (eS listed) ops.size = fuel → (∀ j, eS listed j = true → yC ops listed j) → (∀ i, i < m → eS listed i = true) → (∀ i, m + rs.length ≤ i → eS listed i = false) → Seg cx d ops anc m s0 rs → n4 cx call d ops anc k r (m + rs.length) (cU rs s0).1 (cU rs s0).2 →
  TR I w (dY m (eS listed) rs s0).1 a → HR I w (dY m (eS listed) rs s0).2 → (∀ I' w' T' H' a', Ext I w I' w' → HR I' w' H' → TR I' w' T' a' → k T' H' = some r → Q .normal a' w') → wpAny cx.P .any ops Q fuel listed a w := by
 intro fuel
 have done : ∀ {listed : Array Bool} {m : Nat} {s0 : St} {rs : List Rec} {I : In} {w : World} {a : Act}, listed.size = ops.size → (∀ i, i < ops.size → eS listed i = true) → (∀ i, m + rs.length ≤ i → eS listed i = false) → n4 cx call d ops anc k r (m + rs.length) (cU rs s0).1 (cU rs s0).2 → Seg cx d ops anc m s0 rs →
   TR I w (dY m (eS listed) rs s0).1 a → HR I w (dY m (eS listed) rs s0).2 → (∀ I' w' T' H' a', Ext I w I' w' → HR I' w' H' → TR I' w' T' a' → k T' H' = some r → Q .normal a' w') → Q .normal a w := by
  intro listed m s0 rs I w a hsz hall hpost ht hs hT hH hQ
  have hacc : dY m (eS listed) rs s0 = cU rs s0 := qh fun i hi => by
   have := hs.op i rs[i] (aC hi)
   have := (List.getElem?_eq_some_iff.1 this).1
   exact hall (m + i) (by simpa using this)
  rw [hacc] at hT hH
  rcases ht with ⟨_, h⟩ | ⟨o, rest, h, _⟩
  ·exact hQ I w _ _ a (Ext.refl I w) hH hT h
  ·obtain ⟨h1, _⟩ := n5 h
   have h2 := (List.getElem?_eq_some_iff.1 h1).1
   have h3 := hall (m + rs.length) (by simpa using h2)
   rw [hpost _ (ak _)] at h3
   cases h3
 have allOf : ∀ {listed : Array Bool}, listed.size = ops.size → Region.ready .any ops listed = [] → ∀ i, i < ops.size → eS listed i = true := by
  intro listed hsz hr
  intro i
  induction i using Nat.strongRecOn with
  | _ i ih =>
   intro hi
   cases hS : eS listed i with
   | true => rfl
   | false =>
    obtain ⟨_, hsp⟩ := nY ha rfl
    obtain ⟨h1, _⟩ := hsp i ops[i] (by simp [hi])
    have : i ∈ Region.ready .any ops listed := by
     rw [mem_ready]
     refine ⟨by rw [qi (by omega)]; exact hS, ops[i], by simp [hi], fun e he hb => ?_⟩
     have := h1 e (Array.mem_toList_iff.2 he) hb
     exact ih e.on (by omega) (by omega)
    rw [hr] at this
    cases this
 induction fuel with
 | zero =>
  intro listed m s0 rs I w a hsz hcnt hcl hpre hpost hs ht hT hH hQ
  have hall := kw hcnt
  refine ⟨?_, done hsz hall hpost ht hs hT hH hQ⟩
  rw [List.eq_nil_iff_forall_not_mem]
  intro i hi
  rw [mem_ready] at hi
  obtain ⟨h1, o, ho, _⟩ := hi
  have := (Array.getElem?_eq_some_iff.1 ho).1
  rw [qi (by omega), hall i this] at h1
  cases h1
 | succ fuel ih =>
  intro listed m s0 rs I w a hsz hcnt hcl hpre hpost hs ht hT hH hQ
  refine ⟨fun hr => done hsz (allOf hsz hr) hpost ht hs hT hH hQ, fun i hi => ?_⟩
  rw [mem_ready] at hi
  obtain ⟨hun, o, ho, haft⟩ := hi
  have hlt := (Array.getElem?_eq_some_iff.1 ho).1
  rw [qi (by omega)] at hun
  have hA : yC ops listed i := fun o' ho' e he hb => by
   rw [ho] at ho'
   simp only [aa] at ho'
   subst ho'
   exact haft e he hb
  have hanc := rP ha hcl i i (ak _) hlt hA
  have hset := BZ (listed := listed) (j := i) (by omega)
  have hcl' : ∀ j, eS (listed.setIfInBounds i true) j = true → yC ops (listed.setIfInBounds i true) j := by
   intro j hj o' ho' e he hb
   rw [hset] at hj
   simp only [ay, ah] at hj
   rcases hj with hj | rfl
   ·exact getD_set_true (hcl j hj o' ho' e he hb)
   ·exact getD_set_true (hA o' ho' e he hb)
  have hcnt' : fg (eS (listed.setIfInBounds i true)) ops.size = fuel := by
   have := wz hun hlt
   rw [hset]
   omega
  have him : m ≤ i := by
   rcases aq i m with h | h
   ·rw [hpre i h] at hun; cases hun
   ·exact h
  rcases aq i (m + rs.length) with hiq | hiq
  ·obtain ⟨j, rfl⟩ : ∃ j, i = m + j := ⟨i - m, by omega⟩
   have hj : j < rs.length := by omega
   have hje : rs[j]? = some rs[j] := aC hj
   generalize rs[j] = e at hje
   have heo : e.o = o := by
    have := hs.op j e hje
    simp only [bO] at this
    rw [ho] at this
    simpa using this.symm
   have hap1 : ∀ i f, i < j → rs[i]? = some f → eS listed (m + i) = false → fU d ops f.did e.did = true := fun i f hi hf hu => by
    rcases hs.ap j e i f hi hf hje with h | h
    ·rw [show eS listed (m + i) = true from hanc _ h] at hu; cases hu
    ·exact h
   have hap2 : ∀ k f, j < k → rs[k]? = some f → eS listed (m + k) = true → fU d ops e.did f.did = true := fun k f hk hf hl => by
    rcases hs.ap k f j e hk hje hf with h | h
    ·have hkl : m + k < ops.size := by
      have := (List.getElem?_eq_some_iff.1 (hs.op k f hf)).1
      simpa using this
     have := rP ha hcl (m + k) (m + k) (ak _) hkl (hcl _ hl) _ h
     rw [show eS listed (m + j) = true from this] at hun
     cases hun
    ·exact h
   have hfe := hs.fit j e hje
   have hagr := Ad (L := e.o.looksAt ops) (N := fun n => n ∈ e.r ∨ eX d e.o n = true) (s := s0) hje hun (fun i f h1 h2 h3 => Ag (hs.fit i f h2) (hap1 i f h1 h2 h3)) (fun k f h1 h2 h3 => yy hfe (hs.fit k f h2) (hap2 k f h1 h2 h3))
   have hput := Ac (s := s0) hje hun (fun k f h1 h2 h3 => Cw hfe (hs.fit k f h2) (hap2 k f h1 h2 h3))
   rw [← hset] at hput
   have fin : ∀ {K : Act → World → Prop}, (∀ I' w' u, Ext I w I' w' → HR I' w' ((dY m (eS listed) rs s0).2.act2 e.act) → TR I' w' (cY (di e.act.u (dY m (eS listed) rs s0).1) e.o.dst e.v) (a.put e.o.dst u) → K (a.put e.o.dst u) w') → if Region.wanted e.o (yielded ops a.tmps) then e.o.wp cx.P a w K Q ∨ (e.o.asks cx.P a w ∧ LetsOut Q) else K (a.put e.o.dst undef) w := by
    intro K hk
    rcases hs.st j e hje with ⟨hst, hr⟩ | ⟨hst, hr⟩ | ⟨hst, hr⟩ | hst
    ·rw [hr] at hagr
     exact Ah hp htab hT hH (yq hagr hst) hk
    ·exact Aj hsp hT hH (yu ⟨hagr.1, hagr.2.1, fun n hn => hagr.2.2 n (.inl (by rw [hr]; exact hn))⟩ hst) hk
    ·exact Ak hT hH (yx ⟨hagr.1, hagr.2.1, fun n hn => hagr.2.2 n (.inl (by rw [hr]; exact hn))⟩ hst) hk
    ·exact Ai hqs hT hH (yw ⟨hagr.1, hagr.2.1, fun n hn => hagr.2.2 n (.inl hn)⟩ hst) hk
   unfold wpOp
   rw [ho]
   simp only
   rw [← heo]
   refine fin fun I' w' u he hH' hT' => ?_
   refine ih (m := m) (s0 := s0) (rs := rs) (I := I') (by simpa using hsz) hcnt' hcl' (fun i hi => ?_) (fun i hi => ?_) hs ht (by rw [hput]; exact hT') (by rw [hput]; exact hH') (fun I2 w2 T2 H2 a2 he2 => hQ I2 w2 T2 H2 a2 (he.trans he2))
   ·rw [hset]
    simp only [ay]
    exact .inl (hpre i hi)
   ·rw [hset]
    simp only [bp, aQ]
    exact ⟨hpost i hi, by omega⟩
  ·rcases ht with ⟨h0, _⟩ | ⟨o', rest, h0, hbar, hw, hgo⟩
   ·have := congrArg List.length h0
    simp at this
    omega
   ·obtain ⟨h1, h2⟩ := n5 h0
    unfold rl at hbar
    simp only [ag, aK, aW, ay, aj] at hbar
    have hiq' : i = m + rs.length := by
     rcases aq (m + rs.length) i with h | h
     ·rcases hbar.2 i hlt with h' | h'
      ·omega
      ·have := hanc _ h'
       rw [show listed.getD (m + rs.length) false = false from hpost _ (ak _)] at this
       cases this
     ·omega
    subst hiq'
    have hoo : o' = o := by
     rw [bO, ho] at h1
     simpa using h1.symm
    subst hoo
    have hacc : dY m (eS listed) rs s0 = cU rs s0 := qh fun i hi => hanc _ (hbar.1 (m + i) (by omega))
    rw [hacc] at hT hH
    have next : ∀ {I' : In} {w' : World} {T' : List DV} {H' : Heap} {a' : Act}, Ext I w I' w' → HR I' w' H' → TR I' w' T' a' → dh cx call d ops anc rest (m + rs.length + 1) true [] T' H' k = some r → wpAny cx.P .any ops Q fuel (listed.setIfInBounds (m + rs.length) true) a' w' := by
     intro I' w' T' H' a' he hH' hT' hev
     obtain ⟨rs', hs', ht'⟩ := sN hstat (m := m + rs.length + 1) (s0 := (T', H')) (rs := []) (by simpa using h2) rfl (fun i e h => by simp at h) (fun _ e h => by simp at h) Seg.nil hev
     have hnone : ∀ i, m + rs.length + 1 ≤ i → eS (listed.setIfInBounds (m + rs.length) true) i = false := by
      intro i hi
      rw [hset]
      simp only [bp, aQ]
      exact ⟨hpost i (by omega), by omega⟩
     have h0 : dY (m + rs.length + 1) (eS (listed.setIfInBounds (m + rs.length) true)) rs' (T', H') = (T', H') := n6 hnone
     refine ih (m := m + rs.length + 1) (s0 := (T', H')) (rs := rs') (I := I') (by simpa using hsz) hcnt' hcl' (fun i hi => ?_) (fun i hi => hnone i (by omega)) hs' ht' (by rw [h0]; exact hT') (by rw [h0]; exact hH') (fun I2 w2 T2 H2 a2 he2 => hQ I2 w2 T2 H2 a2 (he.trans he2))
     rw [hset]
     simp only [ay, ah]
     rcases aq i (m + rs.length) with h | h
     ·exact .inl (hanc _ (hbar.1 i h))
     ·exact .inr (by omega)
    unfold wpOp
    rw [ho]
    simp only
    rw [kv hT hw, if_pos rfl]
    refine .inl ?_
    rcases hgo with ⟨c, f, g, x, y, k1, k2, k3, k4⟩ | hgo
    ·exact uP hcall (sp := kf g) (k := fun T H => dh cx call d ops anc rest (m + rs.length + 1) true [] T H k) hT hH k1 k2 k3 k4 fun I' w' T' H' u he hH' hT' h' => next he hH' hT' h'
    ·obtain ⟨T', H', h1, h2⟩ := uM hT hH hgo
     exact h2.wp fun I' w' u he hH' hT' => next he hH' hT' h1
theorem Same.world {I : In} {w w' : World} (h : w'.heap = w.heap) : Same I I w w' := ⟨⟨fun _ h => h, fun b _ => by rw [h]⟩, fun _ _ h => h, fun _ _ _ h => h⟩
theorem HR.world {I : In} {w w' : World} {H : Heap} (h : w'.heap = w.heap) (hH : HR I w H) : HR I w' H :=
 HR.of (fun n b hb => (hH.br hb).keep (Same.world h) (fun e g _ _ => by rw [h])) hH.dom (fun n e b h1 h2 => by rw [h]; exact hH.lt n e b h1 h2) hH.inj (fun b hb => by rw [h]; exact hH.rlt b hb)
theorem yE (hcall : mA cx.P call) (hsp : ∀ g S, S ∈ cx.specs g → gc cx.P g S) (hp : ∀ g S, S ∈ cx.specs g → FS.pure S = true → nW cx.P g S) (htab : ∀ g t, cx.tabs g = some t → jo cx.P g t) (hqs : ∀ g S, S ∈ cx.qs g → kh cx.P g S) (hf : cx.P.follows .mixedOrders = true) (ha : nL 0 ops.toList [] = some anc) (hstat : ko ops anc = true) {I : In} {w : World} {T : List DV} {a : Act} {H : Heap} {id : Nat} (hT : TR I w T a) (hH : HR I w H) (h : dh cx call d ops anc ops.toList 0 true [] T H k = some r)
  (hQ : ∀ I' w' T' H' a', Ext I w I' w' → HR I' w' H' → TR I' w' T' a' → k T' H' = some r → Q .normal a' w') : (Code.region id ops true).wp cx.P Q a w := by
 refine wp_region_any hf ?_
 obtain ⟨rs', hs', ht'⟩ := sN hstat (m := 0) (s0 := (T, H)) (rs := []) (by simp) rfl (fun i e h => by simp at h) (fun _ e h => by simp at h) Seg.nil h
 have hn : ∀ i, eS (Array.replicate ops.size false) i = false := by
  intro i
  simp only [eS, bC, Array.getElem?_replicate]
  split <;> rfl
 have h0 : dY 0 (eS (Array.replicate ops.size false)) rs' (T, H) = (T, H) := n6 fun i _ => hn i
 refine Am hcall hsp hp htab hqs ha hstat ops.size (m := 0) (s0 := (T, H)) (rs := rs') (I := I) (by simp) (u7 hn _) (fun j hj => by rw [hn j] at hj; cases hj) (fun i hi => by omega) (fun i _ => hn i) hs' ht' ?_ ?_ ?_
 ·rw [h0]; exact TR.keep (w := w) (Same.world (w := w) rfl) hT
 ·rw [h0]; exact HR.world (w := w) rfl hH
 ·intro I' w' T' H' a' he
  exact hQ I' w' T' H' a' ⟨he.obj, he.ro, he.same, he.own, he.newR, he.size, he.os, he.tape, he.output⟩
end
def EH : Ex → Exit → Prop
 | .norm, .normal => True
 | .exit i, .exit j => i = j
 | .goto i, .goto j => i = j
 | .ret, .ret => True
 | _, _ => False
section
variable {α : Type} {P : Program} {I : In} {w : World} {T : List DV} {a : Act} {H : Heap}
def PostC (I : In) (w : World) (k : Ex → List DV → Heap → Option α) (r : α) : Exit → Act → World → Prop := fun e a' w' => ∃ I' T' H' x, EH x e ∧ Ext I w I' w' ∧ HR I' w' H' ∧ TR I' w' T' a' ∧ k x T' H' = some r
theorem PostC.ext {I I1 : In} {w w1 : World} {k : Ex → List DV → Heap → Option α} {r : α} (h : Ext I w I1 w1) {e : Exit} {a' : Act} {w' : World} (hp : PostC I1 w1 k r e a' w') : PostC I w k r e a' w' := by
 obtain ⟨I', T', H', x, h1, h2, h3⟩ := hp
 exact ⟨I', T', H', x, h1, h.trans h2, h3⟩
def LoopOk (P : Program) (L : Loop) (c : Code) : Prop := ∀ {α : Type} {I : In} {w : World} {T : List DV} {a : Act} {H : Heap} {b : Nat} {k : Ex → List DV → Heap → Option α} {r : α}, TR I w T a → HR I w H → kS L b T H k = some r → c.wp P (PostC I w k r) a w
theorem rR {L : Loop} {c : Code} (h : ∀ {α : Type} {I : In} {w : World} {T : List DV} {a : Act} {H : Heap} {b : Nat} {k : Ex → List DV → Heap → Option α} {r : α}, TR I w T a → HR I w H → nM L b T H k = some r → c.wp P (PostC I w k r) a w) : LoopOk P L c := by
 intro α I w T a H b k r hT hH hk
 unfold kS at hk
 split at hk
 rename_i A T1 H1 hs
 obtain ⟨I1, g1, g2, g3, _⟩ := f9 hH hT .nil hs
 exact Code.wp_mono (fun e a' w' hp => PostC.ext g2 hp) (h g3 g1 hk)
def dO : Code → List (Nat × Code)
 | .seq a b => (EG b, a) :: (dO a ++ dO b)
 | .cond _ a b => dO a ++ dO b
 | .block _ c => dO c
 | .loop c => (eP c, .loop c) :: dO c
 | .scope c => dO c
 | _ => []
structure Good (cx : Cx) : Prop where
 specs : ∀ f S, S ∈ cx.specs f → gc cx.P f S
 loops : ∀ f id L, cx.loops f id = some L → ∀ fn c c', cx.P.funcs[f]? = some fn → fn.body = some c → (id, c') ∈ dO c → LoopOk cx.P L c'
 pures : ∀ f S, S ∈ cx.specs f → FS.pure S = true → nW cx.P f S
 tabs : ∀ f t, cx.tabs f = some t → jo cx.P f t
 qs : ∀ f S, S ∈ cx.qs f → kh cx.P f S
theorem n7 {c : Code} {Q : Exit → Act → World → Prop} {a : Act} {w : World} {n : Nat} (Inv : Nat → Act → World → Prop) (h0 : Inv n a w) (hz : ∀ a w, ¬ Inv 0 a w) (hs : ∀ n a w, Inv (n + 1) a w → c.wp P (Exit.then (Inv n) Q) a w) : (Code.loop c).wp P Q a w := by
 have least : ∀ (p : Nat → Prop) (n : Nat), p n → ∃ m, p m ∧ ∀ k, p k → m ≤ k := by
  intro p n
  induction n using Nat.strongRecOn with
  | _ n ih =>
   intro hn
   by_cases h : ∃ m, m < n ∧ p m
   ·obtain ⟨m, h1, h2⟩ := h
    exact ih m h1 h2
   ·refine ⟨n, hn, fun k hk => ?_⟩
    rcases aq k n with h1 | h1
    ·exact absurd ⟨k, h1, hk⟩ h
    ·exact h1
 have hμ : ∀ p : Act × World, ∃ m : Nat, (∃ n, Inv n p.1 p.2) → Inv m p.1 p.2 ∧ ∀ k, Inv k p.1 p.2 → m ≤ k := by
  intro p
  by_cases h : ∃ n, Inv n p.1 p.2
  ·obtain ⟨n, hn⟩ := h
   obtain ⟨m, h1, h2⟩ := least (fun n => Inv n p.1 p.2) n hn
   exact ⟨m, fun _ => ⟨h1, h2⟩⟩
  ·exact ⟨0, fun h' => absurd h' h⟩
 obtain ⟨μ, hμ⟩ := Classical.axiomOfChoice hμ
 refine wp_loop (fun a w => ∃ n, Inv n a w) (fun a w => μ (a, w)) ⟨n, h0⟩ ?_
 intro a w h
 obtain ⟨hf, _⟩ := hμ (a, w) h
 show c.wp P (Exit.then (fun a' w' => (∃ n, Inv n a' w') ∧ μ (a', w') < μ (a, w)) Q) a w
 generalize μ (a, w) = m at hf
 cases m with
 | zero => exact absurd hf (hz a w)
 | succ m =>
  refine Code.wp_mono ?_ (hs m a w hf)
  intro e a' w' he
  cases e with
  | normal => exact ⟨⟨m, he⟩, Nat.lt_succ_of_le ((hμ (a', w') ⟨m, he⟩).2 m he)⟩
  | _ => exact he
theorem mF {c : Operand} {t : Bool} (h : cO T c = .sc (.bool t)) : uC c t T = T := by
 cases c with
 | tmp i => exact rB h (by simp)
 | _ => rfl
variable {cx : Cx} {call : fp α}
theorem tB {c : Code} {body : List DV → Heap → (Ex → List DV → Heap → Option α) → Option α} (hb : ∀ {I : In} {w : World} {T : List DV} {a : Act} {H : Heap} {k : Ex → List DV → Heap → Option α} {r : α}, TR I w T a → HR I w H → body T H k = some r → c.wp P (PostC I w k r) a w) {n : Nat} {k : Ex → List DV → Heap → Option α} {r : α} (hT : TR I w T a) (hH : HR I w H) (h : iv body n T H k = some r) : (Code.loop c).wp P (PostC I w k r) a w := by
 refine n7 (n := n) (fun n a' w' => ∃ I' T' H', Ext I w I' w' ∧ HR I' w' H' ∧ TR I' w' T' a' ∧ iv body n T' H' k = some r) ⟨I, T, H, Ext.refl I w, hH, hT, h⟩ ?_ ?_
 ·rintro a w ⟨I', T', H', _, _, _, h⟩
  cases h
 ·rintro n a1 w1 ⟨I1, T1, H1, he, hH1, hT1, h1⟩
  simp only [iv] at h1
  refine Code.wp_mono ?_ (hb hT1 hH1 h1)
  rintro e a2 w2 ⟨I2, T2, H2, x, hx, he2, hH2, hT2, h2⟩
  cases e <;> cases x <;> first | exact hx.elim | skip
  ·exact ⟨I2, T2, H2, he.trans he2, hH2, hT2, h2⟩
  ·exact ⟨I2, T2, H2, _, hx, he.trans he2, hH2, hT2, h2⟩
  ·exact ⟨I2, T2, H2, _, hx, he.trans he2, hH2, hT2, h2⟩
  ·exact ⟨I2, T2, H2, _, hx, he.trans he2, hH2, hT2, h2⟩
theorem n8 (hg : Good cx) (hcall : mA cx.P call) {f d : Nat} : ∀ (c : Code), (∀ id L, cx.loops f id = some L → ∀ c', (id, c') ∈ dO c → LoopOk cx.P L c') → ∀ {I : In} {w : World} {T : List DV} {a : Act} {H : Heap} {k : Ex → List DV → Heap → Option α} {r : α}, TR I w T a → HR I w H → dn cx call f d c T H k = some r → c.wp cx.P (PostC I w k r) a w := by
 intro c
 induction c with
 | skip => intro hl I w T a H k r hT hH h; exact wp_skip ⟨I, T, H, .norm, trivial, Ext.refl I w, hH, hT, h⟩
 | label l => intro hl I w T a H k r hT hH h; exact wp_label ⟨I, T, H, .norm, trivial, Ext.refl I w, hH, hT, h⟩
 | exit id => intro hl I w T a H k r hT hH h; exact wp_exit ⟨I, T, H, .exit id, rfl, Ext.refl I w, hH, hT, h⟩
 | goto l => intro hl I w T a H k r hT hH h; exact wp_goto ⟨I, T, H, .goto l, rfl, Ext.refl I w, hH, hT, h⟩
 | ret => intro hl I w T a H k r hT hH h; exact wp_ret ⟨I, T, H, .ret, trivial, Ext.refl I w, hH, hT, h⟩
 | refuse s => intro hl I w T a H k r hT hH h; cases h
 | rangeFunc _ _ _ _ _ _ => intro hl I w T a H k r hT hH h; cases h
 | region id ops draw =>
  intro hl I w T a H k r hT hH h
  simp only [dn] at h
  cases draw with
  | true =>
   simp only [if_true] at h
   split at h
   ·rename_i anc ha
    split at h
    ·rename_i hf
     rw [ag] at hf
     exact yE hcall hg.specs hg.pures hg.tabs hg.qs hf.1 ha hf.2 hT hH h fun I' w' T' H' a' he hH' hT' h' => ⟨I', T', H', .norm, trivial, he, hH', hT', h'⟩
    ·cases h
   ·cases h
  | false =>
   simp only [aD, ao] at h
   exact wp_region_list (uQ hcall hT hH h fun I' w' T' H' a' he hH' hT' h' => ⟨I', T', H', .norm, trivial, he, hH', hT', h'⟩)
 | seq x y ihx ihy =>
  intro hl I w T a H k r hT hH h
  simp only [dn] at h
  have key : x.wp cx.P (PostC I w (fun e T H => zV (dn cx call f d y) k e T H) r) a w := by
   split at h
   ·rename_i L hL
    unfold yb at hL
    split at hL
    ·rename_i L' hL'
     split at hL
     ·simp only [aa] at hL
      subst hL
      exact hl _ _ hL' x (aI ..) hT hH h
     ·cases hL
    ·cases hL
   ·exact ihx (fun id L hL c' hc => hl id L hL c' (av _ (aZ _ hc))) hT hH h
  refine wp_seq (Code.wp_mono ?_ key)
  rintro e a2 w2 ⟨I2, T2, H2, x', hx, he2, hH2, hT2, h2⟩
  cases e <;> cases x' <;> first | exact hx.elim | skip
  ·exact Code.wp_mono (fun e a w hp => PostC.ext he2 hp) (ihy (fun id L hL c' hc => hl id L hL c' (av _ (bo _ hc))) hT2 hH2 h2)
  ·exact ⟨I2, T2, H2, _, hx, he2, hH2, hT2, h2⟩
  ·exact ⟨I2, T2, H2, _, hx, he2, hH2, hT2, h2⟩
  ·exact ⟨I2, T2, H2, _, hx, he2, hH2, hT2, h2⟩
 | cond c x y ihx ihy =>
  intro hl I w T a H k r hT hH h
  simp only [dn] at h
  split at h
  ·rename_i t ht
   have hv := cR hT c
   rw [ht] at hv
   refine wp_cond hv.sc_eq ?_
   cases t with
   | true =>
    simp only [if_true, mF ht] at h ⊢
    exact ihx (fun id L hL c' hc => hl id L hL c' (aZ _ hc)) hT hH h
   | false =>
    simp only [aD, ao, mF ht] at h ⊢
    exact ihy (fun id L hL c' hc => hl id L hL c' (bo _ hc)) hT hH h
  ·cases h
 | block id c ih =>
  intro hl I w T a H k r hT hH h
  simp only [dn] at h
  refine wp_block (Code.wp_mono ?_ (ih hl hT hH h))
  rintro e a2 w2 ⟨I2, T2, H2, x', hx, he2, hH2, hT2, h2⟩
  cases e <;> cases x' <;> first | exact hx.elim | skip
  ·exact ⟨I2, T2, H2, .norm, trivial, he2, hH2, hT2, h2⟩
  ·rename_i i j
   have : j = i := hx
   subst this
   simp only [Exit.inBlock] at *
   split at h2
   ·rename_i hj
    rw [if_pos hj]
    exact ⟨I2, T2, H2, .norm, trivial, he2, hH2, hT2, h2⟩
   ·rename_i hj
    rw [if_neg hj]
    exact ⟨I2, T2, H2, .exit j, rfl, he2, hH2, hT2, h2⟩
  ·exact ⟨I2, T2, H2, _, hx, he2, hH2, hT2, h2⟩
  ·exact ⟨I2, T2, H2, _, hx, he2, hH2, hT2, h2⟩
 | loop c ih =>
  intro hl I w T a H k r hT hH h
  simp only [dn] at h
  split at h
  ·rename_i L hL
   split at h
   ·exact hl _ L hL _ (aI ..) hT hH h
   ·exact tB (fun hT hH h => ih (fun id L hL c' hc => hl id L hL c' (av _ hc)) hT hH h) hT hH h
  ·exact tB (fun hT hH h => ih (fun id L hL c' hc => hl id L hL c' (av _ hc)) hT hH h) hT hH h
 | scope c ih =>
  intro hl I w T a H k r hT hH h
  simp only [dn] at h
  refine wp_scope_straight (Code.wp_mono ?_ (ih hl hT hH h))
  rintro e a2 w2 ⟨I2, T2, H2, x', hx, he2, hH2, hT2, h2⟩
  cases e <;> cases x' <;> first | exact hx.elim | skip
  ·exact ⟨I2, T2, H2, _, hx, he2, hH2, hT2, h2⟩
  ·exact ⟨I2, T2, H2, _, hx, he2, hH2, hT2, h2⟩
  ·cases h2
  ·exact ⟨I2, T2, H2, _, hx, he2, hH2, hT2, h2⟩
end
section
variable {α : Type} {P : Program} {I : In} {w : World} {T : List DV} {a : Act} {H : Heap}
def n9 (tmps : Array Value) : ResultVar → Sem Value
 | .tmp t => pure (tmps.getD t undef)
 | .cell x t => do loadVar t (← asAddr (tmps.getD x undef))
theorem sO (hT : TR I w T a) (hH : HR I w H) : ∀ {l : List ResultVar} {vs : List DV}, iZ P T H l = some vs → ∃ zs : List Value, (l.mapM (n9 a.tmps)).run P w = .ok zs w ∧ LR I w vs zs
 | [], vs, h => by
  simp only [iZ, aa] at h
  subst h
  exact ⟨[], rfl, .nil⟩
 | .tmp t :: r, vs, h => by
  simp only [iZ] at h
  split at h
  ·rename_i l hl
   simp only [aa] at h
   subst h
   obtain ⟨zs, h1, h2⟩ := sO hT hH hl
   refine ⟨a.tmps.getD t undef :: zs, ?_, .cons _ _ _ _ (hT.val t) h2⟩
   simp only [List.mapM_cons, Sem.run_bind, n9]
   rw [show (pure (a.tmps.getD t undef) : Sem Value).run P w = .ok (a.tmps.getD t undef) w from rfl]
   show ((List.mapM (n9 a.tmps) r).run P w).andThen _ = _
   rw [h1]
   rfl
  ·cases h
 | .cell x t :: r, vs, h => by
  simp only [iZ] at h
  split at h
  ·rename_i v l hv hl
   simp only [aa] at h
   subst h
   obtain ⟨zs, h1, h2⟩ := sO hT hH hl
   obtain ⟨ad, u, g1, g2, g3⟩ := sH (hT.val x) hH hv
   refine ⟨u :: zs, ?_, .cons _ _ _ _ g3 h2⟩
   simp only [List.mapM_cons, Sem.run_bind, n9]
   rw [g1]
   show (((loadVar t ad).run P w).andThen fun a_1 w' => ((List.mapM (n9 a.tmps) r).run P w').andThen fun a w' => (pure (a_1 :: a) : Sem (List Value)).run P w') = _
   rw [g2]
   show ((List.mapM (n9 a.tmps) r).run P w).andThen _ = _
   rw [h1]
   rfl
  ·cases h
theorem rS {fn : Func} {vs : List DV} (hT : TR I w T a) (hH : HR I w H) (h : iZ P T H fn.results.toList = some vs) : ∃ z, (results fn a.tmps).run P w = .ok z w ∧ VR I w (eK vs) z := by
 obtain ⟨zs, h1, h2⟩ := sO (P := P) hT hH h
 rw [show results fn a.tmps = (do let vs ← fn.results.mapM (n9 a.tmps); pure (if h : vs.size = 1 then vs[0] else .tuple vs)) from rfl, Array.mapM_eq_mapM_toList]
 have h3 : ((List.toArray <$> (fn.results.toList.mapM (n9 a.tmps))) : Sem (Array Value)).run P w = .ok zs.toArray w := by
  rw [map_eq_pure_bind, Sem.run_bind, h1]
  rfl
 refine ⟨_, by rw [Sem.run_bind, h3]; rfl, ?_⟩
 cases h2 with
 | nil => exact .tup [] #[] .nil
 | cons d r u us hd hr => cases hr with
  | nil => exact hd
  | cons d' r' u' us' hd' hr' => exact .tup _ _ (.cons _ _ _ _ hd (.cons _ _ _ _ hd' hr'))
theorem rT : ∀ {l : List FS} {A : List DV} {b : Nat} {k : DV → Heap → Option (List Nat) → Option α} {q : Option α}, kT l A H b k = some q → ∃ S X m, S ∈ l ∧ S.tin.pr ⟨[], []⟩ A H = some (X, m) ∧ q = (S.fn X).bind fun y => if S.tout.free (jx (cZ m.u H) b m) ((cZ m.u H).away m) = true then k (eK (S.tout.T (jx (cZ m.u H) b m) (S.out y))) (S.tout.H (jx (cZ m.u H) b m) (S.out y) ((cZ m.u H).away m)) (some m.u) else none
 | [], A, b, k, q, h => by cases h
 | S :: l, A, b, k, q, h => by
  simp only [kT] at h
  split at h
  ·rename_i X m hX
   simp only [aa] at h
   exact ⟨S, X, m, by simp, hX, h.symm⟩
  ·obtain ⟨S', X, m, h1, h2⟩ := rT h
   exact ⟨S', X, m, av _ h1, h2⟩
theorem LR.length : ∀ {ds : List DV} {vs : List Value}, LR I w ds vs → ds.length = vs.length
 | _, _, .nil => rfl
 | _, _, .cons d r u vs h hr => by simp [LR.length hr]
theorem LR.getD : ∀ {ds : List DV} {vs : List Value} (i : Nat), LR I w ds vs → VR I w (ds.getD i .undef) (vs.getD i undef)
 | _, _, _, .nil => .undef _
 | _, _, 0, .cons d r u vs h hr => h
 | _, _, i + 1, .cons d r u vs h hr => by simpa using LR.getD i hr
theorem u9 {A : List DV} {args : List Value} {n : Nat} (hl : A.length ≤ args.length) (hA : ∀ i, VR I w (A.getD i .undef) (args.getD i undef)) : TR I w (A ++ List.replicate (n - A.length) .undef) { tmps := args.toArray ++ Array.replicate (n - args.toArray.size) undef, defers := [] } := by
 refine ⟨by simp; omega, fun i => ?_, rfl⟩
 rcases aq i A.length with h | h
 ·have := hA i
  simp only [ax, bC] at this ⊢
  rw [aV h, Array.getElem?_append_left (by simp; omega)]
  simpa using this
 ·have : (A ++ List.replicate (n - A.length) DV.undef).getD i .undef = .undef := by
   rw [ax, aX h, bN]
   split <;> rfl
  rw [this]
  exact .undef _
variable {cx : Cx} {call : fp α}
theorem qj (hg : Good cx) (hcall : mA cx.P call) {d : Nat} {f : FuncId} {A : List DV} {args : List Value} {k : DV → Heap → Option α} {r : α} (hH : HR I w H) (hl : A.length ≤ args.length) (hA : ∀ i, VR I w (A.getD i .undef) (args.getD i undef)) (h : gO cx call f d A H k = some r) :
  Calls cx.P f args.toArray w (nT fun z w' => ∃ I' v H', k v H' = some r ∧ Ext I w I' w' ∧ HR I' w' H' ∧ VR I' w' v z) := by
 unfold gO at h
 split at h
 ·rename_i fn hf
  split at h
  ·rename_i c hb
   refine calls_of_wp hf hb (Code.wp_mono ?_ (n8 hg hcall c (fun id L hL c' hc => hg.loops f id L hL fn c c' hf hb hc) (u9 (n := fn.ntmps) hl hA) hH h))
   rintro e a' w' ⟨I', T', H', x, hx, he, hH', hT', h'⟩
   have fin : (match iZ cx.P T' H' fn.results.toList with | some vs => k (eK vs) H' | none => none) = some r → a'.defers = [] ∧ ∃ v, (results fn a'.tmps).run cx.P w' = .ok v w' ∧ ∃ I' v' H', k v' H' = some r ∧ Ext I w I' w' ∧ HR I' w' H' ∧ VR I' w' v' v := by
    intro h'
    split at h'
    ·rename_i vs hvs
     obtain ⟨z, g1, g2⟩ := rS (P := cx.P) hT' hH' hvs
     exact ⟨hT'.df, z, g1, I', _, H', h', he, hH', g2⟩
    ·cases h'
   cases e <;> cases x <;> first | exact hx.elim | skip
   ·exact fin h'
   ·cases h'
   ·cases h'
   ·exact fin h'
  ·cases h
 ·cases h
theorem kY (hg : Good cx) (n : Nat) : ∀ d : Nat, mA cx.P (en (α := α) cx n d) := by
 induction n with
 | zero =>
  intro d I w H A args f k r hH hA h
  cases h
 | succ n ih =>
  intro d I w H A args f k r hH hA h
  simp only [en] at h
  split at h
  ·rename_i hent
   refine ⟨hZ hent, ?_⟩
   split at h
   ·rename_i v hv
    obtain ⟨_, t, ht, hl, hp, rfl⟩ := pO hv
    refine Calls.mono (hg.tabs f t ht hH hA hl hp) ?_
    rintro e w' he
    cases e with
    | returned z =>
     obtain ⟨I', m1, m2, m3, m4⟩ := he
     exact ⟨I', _, H, _, h, m1, m3, m4, fun l hl n sz v _ hn => m2.row n sz v hn⟩
    | _ => exact he.elim
   split at h
   ·rename_i q hq
    obtain ⟨S, X, m, h1, h2, rfl⟩ := rT hq
    exact hg.specs f S h1 hH hA h2 (fun i n hin => by simp only [jx, rO (nX (yt h2)) hin]) h
   ·split at h
    ·refine Calls.mono (qj hg (ih (d + 1)) hH (aN hA.length) (fun i => hA.getD i) h) ?_
     rintro e w' he
     cases e with
     | returned z =>
      obtain ⟨I', v, H', k1, k2, k3, k4⟩ := he
      exact ⟨I', v, H', none, k1, k2, k3, k4, fun l hl => by cases hl⟩
     | _ => exact he.elim
    ·cases h
  ·cases h
end
end Go.Proofs.Dk
