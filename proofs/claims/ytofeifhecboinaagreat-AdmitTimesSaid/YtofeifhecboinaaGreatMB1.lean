/- A part of the proofs: What is appended. -/
import Derived.Test.YtofeifhecboinaaGreatMB0
import Derived.Laws.BytesArg
import Derived.Laws.IdiomStrings
import Derived.Laws.AppendOwn
import Derived.MapKept
import Derived.Tactics
import Derived.Orders
import Derived.Scope
set_option linter.unusedVariables false
set_option linter.unusedSimpArgs false
noncomputable section
namespace Go.Proofs.Dk
open Go Go.RowKit
section
variable {P : Program} {I : In} {w w' : World} {T : List DV} {a : Act} {H : Heap} {α : Type}
theorem CO {s : Sh} {d : DV} {v : Value} {ys : List s.T} (hH : HR I w H) (hd : VR I w d v) (h : eJ H s d = some ys) :
  ∃ A c, v = .slice A ys.length c ∧ ∃ news : List Value, (Sh.arr ys.length s).K I.R w ys news ∧ (A = none → ys = []) ∧ ∀ ad, A = some ad → ∀ j u, news[j]? = some u → w.cell? (ad.add j) = some u := by
 have fromK : ∀ {xs : List s.T} {v : Value}, (Sh.sl s).K I.R w xs [v] → ∃ A c, v = .slice A xs.length c ∧ ∃ news : List Value, (Sh.arr xs.length s).K I.R w xs news ∧ (A = none → xs = []) ∧ ∀ ad, A = some ad → ∀ j u, news[j]? = some u → w.cell? (ad.add j) = some u := by
  rintro xs v ⟨A, cap, e1, e2, e3⟩
  simp only [bw, bc] at e1
  subst e1
  refine ⟨A, cap, rfl, ?_⟩
  by_cases hne : xs = []
  ·subst hne
   exact ⟨[], ⟨rfl, by simp, fun i x hx => by simp at hx⟩, fun _ => rfl, fun ad _ j u hu => by simp at hu⟩
  ·obtain ⟨ad, rfl, g1, g2, g3⟩ := e3 hne
   have hall : ∀ i, i < xs.length → ∃ c : List Value, c.length = s.sz ∧ (∀ x, xs[i]? = some x → s.K I.R w x c) ∧ ∀ j u, c[j]? = some u → w.cell? (ad.add (i * s.sz + j)) = some u := by
    intro i hi
    obtain ⟨c, m1, m2, m3⟩ := g3 i _ (av hi)
    refine ⟨c, m1, fun x hx => ?_, m3⟩
    rw [av hi] at hx
    simp only [ab] at hx
    subst hx
    exact m2
   obtain ⟨X, hX⟩ := Go.Deep.choose_lt hall
   have hlen : ∀ n, n ≤ xs.length → ((List.range n).flatMap X).length = n * s.sz := by
    intro n
    induction n with
    | zero => intro _; simp
    | succ n ih =>
     intro hn
     rw [List.range_succ, List.flatMap_append, aK, ih (by omega)]
     simp [(hX n (by omega)).1, aH]
   have hget : ∀ n, n ≤ xs.length → ∀ i j, i < n → j < s.sz → ((List.range n).flatMap X)[i * s.sz + j]? = (X i)[j]? := by
    intro n
    induction n with
    | zero => intro _ i j hi; omega
    | succ n ih =>
     intro hn i j hi hj
     rw [List.range_succ, List.flatMap_append]
     have hl := hlen n (by omega)
     rcases ak i n with h1 | h1
     ·have : i * s.sz + s.sz ≤ n * s.sz := by rw [← aH]; exact aN _ h1
      rw [aY (by omega)]
      exact ih (by omega) i j h1 hj
     ·have : i = n := by omega
      subst this
      rw [bg (by omega), hl]
      simp
   refine ⟨(List.range xs.length).flatMap X, ⟨rfl, hlen _ (aq _), fun i x hx => ?_⟩, fun h => by (cases h), fun ad' h j u hu => ?_⟩
   ·have hi := (List.getElem?_eq_some_iff.1 hx).1
    have : (((List.range xs.length).flatMap X).drop (i * s.sz)).take s.sz = X i := by
     apply cz
     intro j
     rw [aT]
     split
     ·rename_i hj
      rw [aX]
      exact hget _ (aq _) i j hi hj
     ·rw [List.getElem?_eq_none (by rw [(hX i hi).1]; omega)]
    rw [this]
    exact (hX i hi).2.1 x hx
   ·simp only [ab] at h
    subst h
    have hj := (List.getElem?_eq_some_iff.1 hu).1
    rw [hlen _ (aq _)] at hj
    have hz : 0 < s.sz := by
     rcases bP s.sz with h | h
     ·rw [h] at hj; omega
     ·exact h
    have hq : j / s.sz < xs.length := by rw [Nat.div_lt_iff_lt_mul hz]; exact hj
    have hm : j % s.sz < s.sz := Nat.mod_lt _ hz
    have hjq : j / s.sz * s.sz + j % s.sz = j := by rw [Nat.mul_comm]; exact Nat.div_add_mod j s.sz
    have := (hX (j / s.sz) hq).2.2 (j % s.sz) u (by rw [← hget _ (aq _) _ _ hq hm, hjq]; exact hu)
    rw [hjq] at this
    exact this
 unfold eJ at h
 split at h
 ·rename_i s' xs
  cases hd with | vs _ _ _ hk =>
  split at h
  ·rename_i hs hq
   cases hs
   simp only [ab] at h
   subst h
   exact fromK hk
  ·cases h
 ·rename_i n c
  obtain rfl := hd.sc_eq
  split at h
  ·rename_i hn
   subst hn
   simp only [ab] at h
   subst h
   exact ⟨none, c, rfl, [], ⟨rfl, by simp, fun i x hx => by simp at hx⟩, fun _ => rfl, fun ad h => by cases h⟩
  ·cases h
 ·rename_i n
  cases hd with | rw _ sz v hi hs =>
  split at h
  ·rename_i E s' xs hrow
   split at h
   ·rename_i hs' hq
    cases hs'
    simp only [ab] at h
    subst h
    obtain ⟨A, l, c, rfl⟩ := hs
    obtain ⟨h1, rfl, h3, h4⟩ := jl hH hrow hi
    refine ⟨A, c, rfl, ?_⟩
    rcases bP xs.length with h0 | h0
    ·have : xs = [] := bm h0
     subst this
     exact ⟨[], ⟨rfl, by simp, fun i x hx => by simp at hx⟩, fun _ => rfl, fun ad _ j u hu => by simp at hu⟩
    ·obtain ⟨b, rfl⟩ := h4 h0
     obtain ⟨_, _, cs, k1, k2, k3⟩ := mn hH hrow hi
     refine ⟨cs, k1, fun h => by (cases h), fun ad had j u hu => ?_⟩
     simp only [ab] at had
     subst had
     rw [Addr.add_mid, bU]
     exact k3 j u hu
   ·cases h
  ·cases h
 ·rename_i n o l
  cases hd with | sl _ _ _ sz A A' len cap cap' hi hl h0' h1' hc' =>
  split at h
  ·rename_i E s' xs hrow
   split at h
   ·rename_i hs' hq
    cases hs'
    simp only [ab] at h
    subst h
    obtain ⟨h1, rfl, h3, h4⟩ := jl hH hrow hi
    have hlen : ((xs.drop o).take l).length = l := by simp; omega
    refine ⟨A', cap', by rw [hlen], ?_⟩
    rcases bP l with h0 | h0
    ·subst h0
     simp only [List.take_zero]
     exact ⟨[], ⟨rfl, by simp, fun i x hx => by simp at hx⟩, fun _ => by trivial, fun ad _ j u hu => by simp at hu⟩
    ·obtain ⟨b, rfl, rfl⟩ := h1' h0
     obtain ⟨_, _, cs, k1, k2, k3⟩ := mn hH hrow hi
     subst h1
     have hcl := k1.2.1
     refine ⟨(cs.drop (o * s.sz)).take (l * s.sz), ⟨by rw [hlen], ?_, fun i x hx => ?_⟩, fun h => by (cases h), fun ad had j u hu => ?_⟩
     ·have : o * s.sz + l * s.sz ≤ xs.length * s.sz := by rw [← bs]; exact aN _ hl
      rw [hlen]
      simp
      omega
     ·have hx2 : xs[o + i]? = some x ∧ i < l := by
       rw [aT] at hx
       split at hx
       ·rename_i hil
        rw [aX] at hx
        exact ⟨hx, hil⟩
       ·cases hx
      have := k1.2.2 _ x hx2.1
      have hle : i * s.sz + s.sz ≤ l * s.sz := by rw [← aH]; exact aN _ hx2.2
      have e1 : (((cs.drop (o * s.sz)).take (l * s.sz)).drop (i * s.sz)).take s.sz = (cs.drop ((o + i) * s.sz)).take s.sz := by
       rw [List.drop_take, ck, bv, bs]
       congr 1
       omega
      rw [e1]
      exact this
     ·simp only [ab] at had
      subst had
      rw [Addr.add_mid]
      refine k3 _ u ?_
      rw [aT] at hu
      split at hu
      ·rw [aX] at hu
       exact hu
      ·cases hu
   ·cases h
  ·cases h
 ·cases h
theorem zO {base : Nat} {t ty e : TypeId} {i : TypeInfo} {size c : Nat} (ht : P.underlying t = some (.slice e)) (hi : P.info? e = some i) (v : Value) (n : Nat) (xs : List Value) (hown : w.ownsRow base e size v n xs) :
  (Builtin.append_ #[t, t] ty #[v, .slice none 0 c]).run P w = .ok v w := by
 rcases hown.2 with ⟨rfl, rfl⟩ | ⟨g, cap, cur, rfl, _, _, hnc, _⟩
 ·simp [Builtin.append_, run_underlying ht, sizeOf, typeInfo, hi, Builtin.lenOf, Builtin.firstCells]
 ·simp [Builtin.append_, run_underlying ht, sizeOf, typeInfo, hi, Builtin.lenOf, Builtin.firstCells, hnc, storeCells]
theorem qX {t ty e : TypeId} {s : Sh} {xs ys : List s.T} {v : Value} {cs : List Value} {d : DV} {u : Value} (hH : HR I w H) (hz : jB P e s = true) (hu : P.underlying t = some (.slice e)) (hown : w.ownsRow 0 e s.sz v xs.length cs) (hk : (Sh.arr xs.length s).K I.R w xs cs)
  (hd : VR I w d u) (hy : eJ H s d = some ys) (hb : (xs.length + ys.length) * eI P e ≤ 140737488355328) (h1 : 1 ≤ eI P e) :
  ∃ v' w' cs', (Builtin.append_ #[t, t] ty #[v, u]).run P w = .ok v' w' ∧ w'.ownsRow 0 e s.sz v' (xs ++ ys).length cs' ∧ w.grownBy w' v.ownBlock ∧ (v'.ownBlock = v.ownBlock ∨ v'.ownBlock = some w.heap.size) ∧ (Sh.arr (xs ++ ys).length s).K I.R w (xs ++ ys) cs' := by
 obtain ⟨i, z, hi, hz0, hsz, hp, hkz⟩ := AP (w := w) (R := I.R) hz
 obtain ⟨A, c, rfl, news, k1, k2, k3⟩ := CO hH hd hy
 have hbt : eI P e = i.bytes := by simp [eI, hi]
 rw [hbt] at hb h1
 have hcat : (Sh.arr (xs ++ ys).length s).K I.R w (xs ++ ys) (cs ++ news) := by
  refine ⟨rfl, by simp [hk.2.1, k1.2.1, bs], fun i x hx => ?_⟩
  rcases ak i xs.length with h | h
  ·rw [aY h] at hx
   have := hk.2.2 i x hx
   have hle : i * s.sz + s.sz ≤ xs.length * s.sz := by rw [← aH]; exact aN _ h
   rw [b6 (by rw [hk.2.1]; omega), bu (by simp [hk.2.1]; omega)]
   exact this
  ·rw [bg h] at hx
   have := k1.2.2 _ x hx
   have e1 : i * s.sz = cs.length + (i - xs.length) * s.sz := by
    rw [hk.2.1, ← bs]
    congr 1
    omega
   rw [e1, List.drop_length_add_append]
   exact this
 cases A with
 | none =>
  have : ys = [] := k2 rfl
  subst this
  refine ⟨v, w, cs, zO hu hi v xs.length cs hown, by simpa using hown, ⟨rfl, rfl, rfl, aq _, fun _ _ _ => rfl⟩, .inl rfl, by rw [aW]; exact hk⟩
 | some ad =>
  have hzs : z.cells.size = s.sz := by simpa using Sh.K_len hkz
  have h63 : xs.length + ys.length ≤ maxLen := by
   have : (xs.length + ys.length) * 1 ≤ (xs.length + ys.length) * i.bytes := Nat.mul_le_mul_left _ h1
   simp only [maxLen]
   omega
  obtain ⟨v', w', g1, g2, g3, _, g5⟩ := run_append_own_at (P := P) w 0 t ty e i z s.sz i.bytes hu hi hz0 hsz rfl hzs hp v xs.length cs hown ad ys.length c news k1.2.1 (k3 ad rfl) (Sh.K_one k1) h63 hb (ao _)
  exact ⟨v', w', cs ++ news, g1, by simpa using g2, g3, g5, hcat⟩
theorem NH {n sz : Nat} {v v' : Value} {E : TypeId} {s : Sh} {xs : List s.T} {cs : List Value} (hH : HR I w H) (h0 : I.ι n = some (.row sz v)) (hg : w.grownBy w' v.ownBlock) (hv : v'.ownBlock = v.ownBlock ∨ v'.ownBlock = some w.heap.size) (hown : w'.ownsRow 0 E s.sz v' xs.length cs) (hk : (Sh.arr xs.length s).K I.R w xs cs) :
  HR (I.put n (.row s.sz v')) w' ((H.sub n .none).set n (some (.row E s xs))) ∧ Ext I w (I.put n (.row s.sz v')) w' ∧ But n .none I (I.put n (.row s.sz v')) w w' := by
 have hlt : ∀ b, v'.ownBlock = some b → b < w'.heap.size := by
  intro b hb
  rcases hown.2 with ⟨rfl, _⟩ | ⟨g, cap, cur, rfl, _, hh, _⟩
  ·cases hb
  ·simp only [Value.ownBlock, ab] at hb
   subst hb
   exact (Array.getElem?_eq_some_iff.1 hh).1
 have hkeep : Keeps I.R (I.put n (.row s.sz v')).R w w' := ⟨fun _ h => h, fun b hb => hg.block b (hH.rlt b hb) (fun e => (hH.lt n _ b h0 (by simp [Ent.blk, ← e])).2 hb)⟩
 have hbut : But n .none I (I.put n (.row s.sz v')) w w' := by
  refine ⟨hkeep, fun m b h => ?_, fun m sz' u hm h => by rw [dy hm]; exact h, fun s xs h => by cases h⟩
  rw [dy]
  ·exact h
  ·rintro rfl; rw [h0] at h; cases h
 refine ⟨HR.of (fun m b h => ?_) (fun m h => ?_) (fun m e b h hb => ?_) (fun m m' e e' b h h' hb hb' => ?_) (fun b h => ?_), ⟨hbut.obj, fun _ h => h, fun b hb hn => hg.block b hb (fun e => hn n _ h0 (by simp [Ent.blk, ← e])), fun m e b h hb => ?_, fun b h => .inl h, hg.size, hg.os, hg.tape, hg.output⟩, hbut⟩
 ·by_cases hm : m = n
  ·subst hm
   rw [Heap.set_same] at h
   simp only [ab] at h
   subst h
   exact ⟨v', cs, dE, hown, Sh.K_keep hkeep hk⟩
  ·rw [eY hm] at h
   simp only [Heap.sub, hm, ax] at h
   split at h
   ·rename_i b0 hb0
    simp only [ab] at h
    subst h
    have hother : ∀ e g, I.ι m = some e → e.blk = some g → w'.heap[g]? = w.heap[g]? := fun e g h1 h2 => hg.block g (hH.lt m e g h1 h2).1 (fun e3 => hm (hH.inj m n e _ g h1 h0 h2 (by simp [Ent.blk, ← e3])))
    cases b0 with
    | obj cs0 =>
     obtain ⟨b, c, t, k1, k2, k3⟩ := hH.obj m cs0 hb0
     exact ⟨b, c, t, by rw [dy hm]; exact k1, (hother _ b k1 rfl).trans k2, CR.sub hbut k3⟩
    | row E' s' xs' =>
     obtain ⟨u, cs', k1, k2, k3⟩ := hH.row m E' s' xs' hb0
     exact ⟨u, cs', by rw [dy hm]; exact k1, sC k2 (fun g hg' => hother _ g k1 hg'), Sh.K_keep hkeep k3⟩
    | mp ks vs =>
     obtain ⟨b, es, cl, val, k1, k2, k3, k4⟩ := hH.mp m ks vs hb0
     refine ⟨b, es, cl, val, by rw [dy hm]; exact k1, (hother _ b k1 rfl).trans k2, k3.map (j7 ks vs), fun j d hd => ?_⟩
     rw [j7] at hd
     obtain ⟨d0, h0', rfl⟩ := Option.map_eq_some_iff.1 hd
     exact VR.sub hbut (k4 j d0 h0')
   ·cases h
 ·by_cases hm : m = n
  ·subst hm; rw [Heap.set_same] at h; cases h
  ·rw [eY hm] at h
   rw [dy hm]
   simp only [Heap.sub, hm, ax] at h
   split at h
   ·cases h
   ·rename_i hb0
    exact hH.dom m hb0
 ·by_cases hm : m = n
  ·subst hm
   rw [dE] at h
   simp only [ab] at h
   subst h
   refine ⟨hlt b hb, fun hR => ?_⟩
   rcases hv with hv | hv
   ·exact (hH.lt m _ b h0 (by simp only [Ent.blk] at hb ⊢; rw [← hv]; exact hb)).2 hR
   ·have := hH.rlt b hR
    simp only [Ent.blk] at hb
    rw [hv] at hb
    simp only [ab] at hb
    omega
  ·rw [dy hm] at h
   obtain ⟨k1, k2⟩ := hH.lt m e b h hb
   exact ⟨bx k1 hg.size, k2⟩
 ·have key : ∀ m e b, m ≠ n → I.ι m = some e → e.blk = some b → v'.ownBlock = some b → False := by
   intro m e b hm h1 h2 h3
   rcases hv with hv | hv
   ·exact hm (hH.inj m n e _ b h1 h0 h2 (by simp only [Ent.blk]; rw [← hv]; exact h3))
   ·have := (hH.lt m e b h1 h2).1
    rw [hv] at h3
    simp only [ab] at h3
    omega
  by_cases hm : m = n
  ·by_cases hm' : m' = n
   ·rw [hm, hm']
   ·exfalso
    subst hm
    rw [dE] at h
    rw [dy hm'] at h'
    simp only [ab] at h
    subst h
    exact key m' e' b hm' h' hb' hb
  ·by_cases hm' : m' = n
   ·exfalso
    subst hm'
    rw [dE] at h'
    rw [dy hm] at h
    simp only [ab] at h'
    subst h'
    exact key m e b hm h hb hb'
   ·rw [dy hm] at h
    rw [dy hm'] at h'
    exact hH.inj m m' e e' b h h' hb hb'
 ·exact bx (hH.rlt b h) hg.size
 ·by_cases hm : m = n
  ·subst hm
   rw [dE] at h
   simp only [ab] at h
   subst h
   rcases hv with hv | hv
   ·exact .inl ⟨m, _, h0, by simp only [Ent.blk] at hb ⊢; rw [← hv]; exact hb⟩
   ·simp only [Ent.blk] at hb
    rw [hv] at hb
    simp only [ab] at hb
    exact .inr (by omega)
  ·rw [dy hm] at h
   exact .inl ⟨m, e, h, hb⟩
end
section
variable {P : Program} {I : In} {w w' : World} {T : List DV} {a : Act} {H : Heap} {α : Type}
theorem Done.makes {o : Oper} {v : DV} {s : Sem Value} (hH : HR I w H) (ho : execOp a.eval o = (do Pure.pure (Next.value (← s)))) (h : jj P I w s v) : Done P o a I w H v none := by
 obtain ⟨u, h1, h2⟩ := h
 exact Done.pure hH (by rw [ho]; exact kL h1) h2
theorem VR.fn_case {F : Fn} {x y : List DV} {u : Value} (h : VR I w (.fn F x y) u) : ∃ x' y', u = .func F x' y' ∧ LR I w x x'.toList ∧ LR I w y y'.toList := by
 cases h with | fn _ _ _ a' b' h1 h2 => exact ⟨a', b', rfl, h1, h2⟩
theorem nR (hT : TR I w T a) (ps : Array Operand) : LR I w (ps.toList.map (dp T)) (ps.map a.eval).toList := by
 rw [Array.toList_map]
 exact LR.map hT _
theorem LR.get : ∀ {ds : List DV} {vs : List Value} {i : Nat} {d : DV}, LR I w ds vs → ds[i]? = some d → ∃ v, vs[i]? = some v ∧ VR I w d v
 | _, _, _, _, .nil, h => by simp at h
 | _, _, 0, _, .cons d r u vs h hr, h1 => by
  simp only [bk, ab] at h1
  subst h1
  exact ⟨u, rfl, h⟩
 | _, _, i + 1, _, .cons d r u vs h hr, h1 => by
  simp only [cy] at h1 ⊢
  exact LR.get hr h1
theorem FA {k : IntKind} : ∀ {r : List DV} {vs : List Value} {x : Int} {v : DV}, LR I w r vs → CC k x r = some v → ∃ n, v = .sc (.int k n) ∧ (vs.foldlM Builtin.min2 (.int k x)).run P w = .ok (.int k n) w
 | _, _, x, v, .nil, h => by
  simp only [CC, ab] at h
  exact ⟨x, h.symm, rfl⟩
 | _, _, x, v, .cons d r u vs hd hr, h => by
  simp only [CC] at h
  split at h
  ·rename_i k' y
   obtain rfl := hd.sc_eq
   split at h
   ·rename_i hk
    subst hk
    obtain ⟨n, h1, h2⟩ := FA hr h
    exact ⟨n, h1, by simp only [List.foldlM_cons, Builtin.min2]; exact h2⟩
   ·cases h
  ·cases h
theorem FB {k : IntKind} : ∀ {r : List DV} {vs : List Value} {x : Int} {v : DV}, LR I w r vs → CD k x r = some v → ∃ n, v = .sc (.int k n) ∧ (vs.foldlM Builtin.max2 (.int k x)).run P w = .ok (.int k n) w
 | _, _, x, v, .nil, h => by
  simp only [CD, ab] at h
  exact ⟨x, h.symm, rfl⟩
 | _, _, x, v, .cons d r u vs hd hr, h => by
  simp only [CD] at h
  split at h
  ·rename_i k' y
   obtain rfl := hd.sc_eq
   split at h
   ·rename_i hk
    subst hk
    obtain ⟨n, h1, h2⟩ := FB hr h
    exact ⟨n, h1, by simp only [List.foldlM_cons, Builtin.max2]; exact h2⟩
   ·cases h
  ·cases h
theorem kM {o : Oper} {c : Call} {b : Builtin} {s : Sem Value} (ho : o.op = .call c) (hc : c.callee = .builtin b) (hb : builtin b c.argTypes o.type (c.args.map fun | .const _ => true | _ => false) (c.args.map a.eval) = (do pure (Next.value (← s)))) : execOp a.eval o = (do pure (Next.value (← s))) := by
 unfold execOp
 rw [ho]
 simp only [resolve, hc]
 exact hb
theorem kp {d : Nat} {o : Oper} {b : Blk} {v : Nat → DV} {k : DV → fi → Option α} {r : α} (h : fM d o H b v k = some r) : ∃ n, H n = none ∧ k (v n) (some (n, b)) = some r := by
 unfold fM at h
 simp only at h
 split at h
 ·cases h
 ·rename_i hn
  exact ⟨_, hn, h⟩
theorem lJ {β : Type} {k : DV → Option β} {x : Option DV} {r : β} (h : (match x with | some x => k x | none => none) = some r) : ∃ y, x = some y ∧ k y = some r := by
 cases x with
 | none => cases h
 | some y => exact ⟨y, rfl, h⟩
theorem NI (hT : TR I w T a) (x : Option Operand) : (x.map (dp T) = none ∧ x.map a.eval = none) ∨ ∃ d u, x.map (dp T) = some d ∧ x.map a.eval = some u ∧ VR I w d u := by
 cases x with
 | none => exact .inl ⟨rfl, rfl⟩
 | some y => exact .inr ⟨_, _, rfl, rfl, dL hT y⟩
end
section
variable {P : Program} {I : In} {w w' : World} {T : List DV} {a : Act} {H : Heap} {α : Type}
theorem wx : ∀ {ks : List (List Int)} {vs : List DV} {z : DV} {n : Int} {k : DV → Bool → Option α} {r : α}, wt ks vs z n k = some r → (∃ d, ef ks vs n = some d ∧ k d true = some r) ∨ (ef ks vs n = none ∧ k z false = some r)
 | [], vs, z, n, k, r, h => by
  refine .inr ⟨by cases vs <;> rfl, ?_⟩
  cases vs <;> exact h
 | l :: ks, [], z, n, k, r, h => .inr ⟨rfl, h⟩
 | l :: ks, d :: vs, z, n, k, r, h => by
  simp only [wt] at h
  simp only [ef]
  split at h
  ·rename_i hc
   rw [if_pos hc]
   exact .inl ⟨d, rfl, h⟩
  ·rename_i hc
   rw [if_neg hc]
   exact wx h
theorem Kx {d : DV} {v : Value} {ks : List (List Int)} {vs : List DV} (hH : HR I w H) (hv : VR I w d v) (h : uV H d = some (ks, vs)) : ∃ b es clock val, v = .map (some b) ∧ w.heap[b]? = some (.map es clock) ∧ TabE ks vs val es.toList ∧ ∀ m d, ef ks vs m = some d → VR I w d (val m) := by
 unfold uV at h
 split at h
 ·simp only [ab, ah] at h
  obtain ⟨rfl, rfl⟩ := h
  cases hv with | tab _ _ val b es cl hR hb hE hL => exact ⟨b, es, cl, val, rfl, hb, hE, hL⟩
 ·rename_i n
  split at h
  ·rename_i ks' vs' hn
   simp only [ab, ah] at h
   obtain ⟨rfl, rfl⟩ := h
   cases hv with | mh _ b hi =>
   obtain ⟨b', es, cl, val, k1, k2, k3, k4⟩ := hH.mp n _ _ hn
   rw [hi] at k1
   simp only [ab, Ent.obj.injEq] at k1
   subst k1
   exact ⟨b, es, cl, val, rfl, k2, k3, k4⟩
  ·cases h
 ·cases h
theorem Gy {o : Oper} {t : TypeId} {n : Nat} (ho : o.op = .makeMap t none) (hH : HR I w H) (hn : H n = none) : Done P o a I w H (.mh n) (some (n, .mp [] [])) := by
 have he : ∀ b, (Ent.obj w.heap.size).blk = some b → b = w.heap.size := fun b h => by simpa [Ent.blk] using h.symm
 have hr : (execOp a.eval o).run P w = .ok (.value (.map (some w.heap.size))) (w.alloc (.map #[] 0)) := by
  unfold execOp
  rw [ho]
  refine kL ?_
  simp [Instr.makeMap, Sem.run_bind]
 refine ⟨I.put n (.obj w.heap.size), _, _, hr, Ext.alloc hH hn he, Rows.alloc hH hn _, ?_, ?_⟩
 ·refine HR.alloc hH hn he ⟨w.heap.size, #[], 0, fun _ => undef, dE, qU w _, ⟨fun e h => by simp at h, fun e h => by simp at h, fun m h => by simp [ef] at h⟩, fun m d h => by simp [ef] at h⟩
 ·exact VR.mh n w.heap.size dE
theorem Gz {t kt e : TypeId} {b clock : Nat} {es : Array MapEntry} {j : Int} {v : Value} (ht : P.underlying t = some (.map kt e)) (hk : P.underlying kt = some (.int .i64)) (hb : w.heap[b]? = some (.map es clock)) (hkeys : ∀ x ∈ es.toList, ∃ n, x.key = .int .i64 n) (hfr : ∀ x ∈ es.toList, x.key ≠ .int .i64 j) :
  (Instr.mapUpdate t (.map (some b)) (.int .i64 j) v).run P w = .ok () { w with heap := w.heap.setIfInBounds b (.map (es.push { key := .int .i64 j, val := v, born := clock }) (clock + 1)) } := by
 have hK : MapKept.IsKey (.int .i64) (.int .i64 j) := rfl
 have hck := MapKept.run_checkKey (w := w) hk hK false 9999
 rcases MapKept.findNow_spec hK es.toList 0 (fun x hx => by obtain ⟨m, hm⟩ := hkeys x hx; rw [hm]; rfl) with ⟨h1, h2⟩ | ⟨i, e0, h1, h2, h3⟩
 ·have hf := MapKept.run_findKey (w := w) hk h1
  simp [Instr.mapUpdate, run_underlying ht, MapKept.run_getObj_map hb, hck, hf, MapKept.run_setObj_map _ hb, Result.andThen]
 ·exact absurd h3 (hfr e0 (cw h2))
theorem Ig {o : Oper} {t kt e : TypeId} {m i x : Operand} {n : Nat} {j : Int} {ks : List (List Int)} {vs : List DV} {dx : DV} (ho : o.op = .insert t m i x) (hH : HR I w H) (ht : P.underlying t = some (.map kt e)) (hk : P.underlying kt = some (.int .i64)) (hn : H n = some (.mp ks vs)) (hm : VR I w (.mh n) (a.eval m)) (hi : a.eval i = .int .i64 j) (hx : VR I w dx (a.eval x)) (hfr : (ef ks vs j).isNone = true) :
  Done P o a I w H .undef (some (n, .mp ([j] :: ks) (dx :: vs))) := by
 obtain ⟨b, es, cl, val, k1, k2, k3, k4⟩ := hH.mp n _ _ hn
 generalize hmv : a.eval m = mv at hm
 cases hm with | mh _ b' hb' =>
 rw [k1] at hb'
 simp only [ab, Ent.obj.injEq] at hb'
 subst hb'
 have hno : ∀ x ∈ es.toList, x.key ≠ .int .i64 j := fun x hx hxk => by
  have := (k3.here x hx j hxk).2
  rw [Option.isNone_iff_eq_none] at hfr
  rw [hfr] at this
  cases this
 have hrun := Gz (v := a.eval x) ht hk k2 k3.keys hno
 have hr : (execOp a.eval o).run P w = .ok .skip { w with heap := w.heap.setIfInBounds b (.map (es.push { key := .int .i64 j, val := a.eval x, born := cl }) (cl + 1)) } := by
  unfold execOp
  rw [ho]
  show ((do Instr.mapUpdate t (a.eval m) (a.eval i) (a.eval x); pure Next.skip) : Sem Next).run P w = _
  rw [hmv, hi]
  simp [Sem.run_bind, hrun]
 obtain ⟨g1, g2⟩ := MapKept.heap_set (o' := .map (es.push { key := .int .i64 j, val := a.eval x, born := cl }) (cl + 1)) k2
 have hbk : (Ent.obj b).blk = some b := rfl
 refine ⟨I, _, _, hr, Ext.write k1 hbk g2 (by simp) rfl rfl rfl, ⟨fun _ _ _ h => h⟩, ?_, rfl⟩
 have hs : Same I I w { w with heap := w.heap.setIfInBounds b (.map (es.push { key := .int .i64 j, val := a.eval x, born := cl }) (cl + 1)) } := Same.write hH k1 hbk g2
 refine HR.write hH k1 hbk g2 (by simp) ⟨b, _, _, fun q => if q = j then a.eval x else val q, k1, g1, ⟨fun e he => ?_, fun e he q hq => ?_, fun q hq => ?_⟩, fun q d hd => ?_⟩
 ·simp only [cD, ay, aC] at he
  rcases he with he | rfl
  ·exact k3.keys e he
  ·exact ⟨j, rfl⟩
 ·simp only [cD, ay, aC] at he
  rcases he with he | rfl
  ·have hne : q ≠ j := fun h => hno e he (by rw [hq, h])
   obtain ⟨h1, h2⟩ := k3.here e he q hq
   refine ⟨by simp only [hne, ax]; exact h1, ?_⟩
   simp only [ef]
   split
   ·rfl
   ·exact h2
  ·simp only [Value.int.injEq, true_and] at hq
   subst hq
   simp [ef]
 ·by_cases hqj : q = j
  ·exact ⟨_, by simp only [cD, ay, aC]; exact .inr rfl, by rw [hqj]⟩
  ·have hq' : (ef ks vs q).isSome = true := by simpa [ef, hqj] using hq
   obtain ⟨e0, h1, h2⟩ := k3.all q hq'
   exact ⟨e0, by simp only [cD, ay]; exact .inl h1, h2⟩
 ·by_cases hqj : q = j
  ·subst hqj
   simp only [ef, List.any_cons, List.any_nil, ba, bi, if_true, ab] at hd
   subst hd
   simp only [if_true]
   exact VR.keep hs hx
  ·have hq' : ef ks vs q = some d := by simpa [ef, hqj] using hd
   simp only [hqj, ax]
   exact VR.keep hs (k4 q d hq')
theorem Ky {t kt e : TypeId} {b clock : Nat} {es : Array MapEntry} {ks : List (List Int)} {vs : List DV} {val : Int → Value} {n : Int} {c : Bool} {z : Value} (ht : P.underlying t = some (.map kt e)) (hk : P.underlying kt = some (.int .i64)) (hz : (zeroValue e).run P w = .ok z w) (hb : w.heap[b]? = some (.map es clock)) (hE : TabE ks vs val es.toList) :
  ((ef ks vs n).isSome = true ∧ (Instr.lookup t (.map (some b)) (.int .i64 n) c).run P w = .ok (if c then .tuple #[val n, .bool true] else val n) w) ∨ (ef ks vs n = none ∧ (Instr.lookup t (.map (some b)) (.int .i64 n) c).run P w = .ok (if c then .tuple #[z, .bool false] else z) w) := by
 have hK : MapKept.IsKey (.int .i64) (.int .i64 n) := rfl
 have hck := MapKept.run_checkKey (w := w) hk hK es.isEmpty 9999
 rcases MapKept.findNow_spec hK es.toList 0 (fun x hx => by obtain ⟨m, hm⟩ := hE.keys x hx; rw [hm]; rfl) with ⟨h1, h2⟩ | ⟨j, e0, h1, h2, h3⟩
 ·refine .inr ⟨?_, ?_⟩
  ·cases hp : ef ks vs n with
   | none => rfl
   | some u =>
    obtain ⟨e0, he, hk0⟩ := hE.all n (by rw [hp]; rfl)
    exact absurd hk0 (h2 e0 he)
  ·have hf := MapKept.run_findKey (w := w) hk h1
   simp [Instr.lookup, run_underlying ht, MapKept.run_getObj_map hb, hck, hf, hz, Result.andThen]
 ·obtain ⟨k1, k2⟩ := hE.here e0 (cw h2) n h3
  refine .inl ⟨k2, ?_⟩
  rw [k1]
  have hf := MapKept.run_findKey (w := w) hk h1
  simp [Instr.lookup, run_underlying ht, MapKept.run_getObj_map hb, hck, hf, Result.andThen]
end
theorem HR.grow {I I' : In} {w w' : World} {H : Heap} (hH : HR I w H) (hι : I'.ι = I.ι) (hR : ∀ b, I'.R b ↔ I.R b ∨ (w.heap.size ≤ b ∧ b < w'.heap.size)) (hw : ∀ b, b < w.heap.size → w'.heap[b]? = w.heap[b]?) (hsz : w.heap.size ≤ w'.heap.size) : HR I' w' H ∧ Same I I' w w' := by
 have hs : Same I I' w w' := ⟨⟨fun b h => (hR b).2 (.inl h), fun b h => hw b (hH.rlt b h)⟩, fun n b h => by rw [hι]; exact h, fun n sz v h => by rw [hι]; exact h⟩
 refine ⟨HR.of (fun n b hb => (hH.br hb).keep hs (fun e g h1 h2 => hw g (hH.lt n e g h1 h2).1)) (fun n h => by rw [hι]; exact hH.dom n h) (fun n e b h1 h2 => ?_) (fun n m e e' b h1 h2 h3 h4 => ?_) (fun b h => ?_), hs⟩
 ·rw [hι] at h1
  obtain ⟨k1, k2⟩ := hH.lt n e b h1 h2
  refine ⟨by omega, fun h => ?_⟩
  rcases (hR b).1 h with h | h
  ·exact k2 h
  ·omega
 ·rw [hι] at h1 h2
  exact hH.inj n m e e' b h1 h2 h3 h4
 ·rcases (hR b).1 h with h | h
  ·have := hH.rlt b h; omega
  ·exact h.2
section
variable {α : Type} {P : Program} {I : In} {w : World} {T : List DV} {a : Act} {H : Heap}
theorem Ih {xs : List Int} {news : List Value} (h : (Sh.arr xs.length (.int .u8)).K I.R w xs news) : news = xs.map (Value.int .u8) := by
 obtain ⟨_, h2, h3⟩ := h
 have hl : news.length = xs.length := by simpa [Sh.sz] using h2
 refine List.ext_getElem (by simpa using hl) fun i h1 h4 => ?_
 have hi : i < xs.length := by omega
 have := h3 i xs[i] (av hi)
 simp only [Sh.sz, Nat.mul_one, Sh.K] at this
 have h5 : (news.drop i).take 1 = [news[i]] := by
  rw [b9 h1]
  rfl
 rw [h5] at this
 simpa using this
theorem Ii {src dst e : TypeId} {A : Option Addr} {c : Nat} {xs : List Int} {news : List Value} (hs : P.underlying src = some (.slice e)) (he : P.underlying e = some (.int .u8)) (hd : P.underlying dst = some .string) (n1 : (Sh.arr xs.length (.int .u8)).K I.R w xs news) (n2 : A = none → xs = []) (n3 : ∀ ad, A = some ad → ∀ j u, news[j]? = some u → w.cell? (ad.add j) = some u) : (convert src dst (.slice A xs.length c)).run P w = .ok (.string (ey xs)) w := by
 cases A with
 | none =>
  have := n2 rfl
  subst this
  exact run_convert_bytes_nil w src e hs he 0 c dst hd
 | some ad =>
  have hn := Ih n1
  subst hn
  have hl : (loadCells ad xs.length).run P w = .ok (xs.map (Value.int .u8)).toArray w := by
   have := run_loadCells_list (P := P) w ad (xs.map (Value.int .u8)) (fun j v hj => n3 ad rfl j v hj)
   simpa using this
  rw [run_convert_bytes_string w src dst e _ _ c hs he hd, run_bytesToString w _ _ c xs hl, foldl_push_bytes]
  simp [ey, ByteArray.empty, ByteArray.emptyWithCapacity]
  rfl
theorem MW {o : Oper} {src dst e : TypeId} {s : ByteArray} {x : Operand} (hH : HR I w H) (ho : execOp a.eval o = (do Pure.pure (Next.value (← convert src dst (a.eval x))))) (hv : a.eval x = .string s) (hs : P.underlying src = some .string) (hd : P.underlying dst = some (.slice e)) (he : P.underlying e = some (.int .u8)) : Done P o a I w H (.vs (.int .u8) (nF s)) none := by
 have hr := run_bytes_of_string (P := P) w src dst e s hs hd he
 generalize hcap : grownCap w s.size 0 e = cap at hr
 have hge : s.size ≤ cap := by rw [← hcap]; exact grownCap_ge w s.size 0 e
 generalize hob : Obj.cells (bytesRow s cap) e ((bytesRow s cap).size, (bytesRow s cap).size + 1) = ob at hr
 have hsz : (w.drew.alloc ob).heap.size = w.heap.size + 1 := by
  show (w.heap.push ob).size = _
  simp
 have hold : ∀ b, b < w.heap.size → (w.drew.alloc ob).heap[b]? = w.heap[b]? := fun b hb => by
  show (w.heap.push ob)[b]? = _
  rw [Array.getElem?_push_lt hb, Array.getElem?_eq_getElem hb]
 obtain ⟨q1, q2⟩ := hH.grow (I' := ⟨I.ι, fun b => I.R b ∨ (w.heap.size ≤ b ∧ b < (w.drew.alloc ob).heap.size)⟩) (w' := w.drew.alloc ob) rfl (fun b => Iff.rfl) hold (by omega)
 refine ⟨⟨I.ι, fun b => I.R b ∨ (w.heap.size ≤ b ∧ b < (w.drew.alloc ob).heap.size)⟩, w.drew.alloc ob, .value (.slice (some ⟨w.heap.size, 0, none⟩) s.size cap), ?_, ⟨fun n b h => h, fun b h => .inl h, fun b hb _ => hold b hb, fun n e b h hb => .inl ⟨n, e, h, hb⟩, fun b h => ?_, by omega, rfl, rfl, rfl⟩, ⟨fun n sz v h => h⟩, q1, ?_⟩
 ·rw [ho, hv]
  exact kL hr
 ·rcases h with h | h
  ·exact .inl h
  ·exact .inr (.inr h.1)
 ·have hlen : (nF s).length = s.size := by
   show (s.data.toList.map _).length = s.data.size
   rw [bb, Array.length_toList]
  refine .vs _ _ _ ⟨some ⟨w.heap.size, 0, none⟩, cap, by rw [hlen], by omega, fun _ => ⟨_, rfl, rfl, .inr ⟨aq _, (by show w.heap.size < (w.drew.alloc ob).heap.size; omega)⟩, fun i y hy => ?_⟩⟩
  refine ⟨[.int .u8 y], rfl, rfl, fun j u hu => ?_⟩
  have hi : i < s.data.size := by
   have := (List.getElem?_eq_some_iff.1 hy).1
   rw [hlen] at this
   exact this
  have hj : j = 0 := by
   have := (List.getElem?_eq_some_iff.1 hu).1
   simp at this
   omega
  subst hj
  simp only [bk, ab] at hu
  subst hu
  have hy2 : y = (s.data[i].toNat : Int) := by
   have := (List.getElem?_eq_some_iff.1 hy).2
   simp [nF] at this
   exact this.symm
  have ha : Addr.add ⟨w.heap.size, 0, none⟩ (i * Sh.sz (.int .u8) + 0) = ⟨w.heap.size, i, none⟩ := by
   unfold Addr.add
   split <;> simp_all [Sh.sz]
  rw [ha, ← hob]
  have := World.cell?_alloc_mark w.drew (bytesRow s cap) e ((bytesRow s cap).size, (bytesRow s cap).size + 1) i
  rw [show w.drew.heap.size = w.heap.size from rfl] at this
  rw [this, bytesRow_at s cap i hi, hy2]
theorem Ij {d : Nat} {o : Oper} {k : DV → fi → Option α} {r : α} (hT : TR I w T a) (hH : HR I w H) (h : ez P d o T H k = some r) : ∃ v act, k v act = some r ∧ Done P o a I w H v act := by
 unfold ez at h
 simp only at h
 split at h
 ·rename_i x ho
  exact ⟨_, _, h, Done.pure hH (H4 ho) (dL hT x)⟩
 ·rename_i x ho
  exact ⟨_, _, h, Done.pure hH (ER ho) (dL hT x)⟩
 ·rename_i c x y ho
  obtain ⟨v, h1, h2⟩ := Kt (P := P) (dL hT c) (dL hT x) (dL hT y) h
  refine ⟨_, _, h1, ?_⟩
  obtain ⟨u, g1, g2⟩ := h2
  refine Done.pure hH ?_ g2
  unfold execOp
  rw [ho]
  simp only [Sem.run_bind] at g1 ⊢
  cases hb : (asBool (a.eval c)).run P w <;> rw [hb] at g1 <;> simp_all
 ·rename_i e ho
  split at h
  ·rename_i its hz
   obtain ⟨n, hn, h1⟩ := kp h
   exact ⟨_, _, h1, Ku ho hH hn hz⟩
  ·cases h
 ·rename_i e x ho
  split at h
  ·rename_i its hz
   split at h
   ·rename_i hs
    obtain ⟨n, hn, h1⟩ := kp h
    exact ⟨_, _, h1, NF ho hT hH hn hs hz⟩
   ·cases h
  ·cases h
 ·rename_i t ps ho
  split at h
  ·rename_i its hz
   split at hz
   ·rename_i hne
    split at h
    ·rename_i out hf
     exact ⟨_, _, h, Kw ho hT hH hne hz hf⟩
    ·cases h
   ·cases hz
  ·cases h
 ·rename_i t n ps ho
  split at h
  ·rename_i e hu
   split at h
   ·rename_i s hsh
    split at h
    ·rename_i hi
     split at h
     ·rename_i hs
      split at h
      ·rename_i xs hx
       split at h
       ·rename_i h1
        split at h
        ·rename_i h2
         simp only [am, aI, aw, af] at h2
         obtain ⟨m, hn, h3⟩ := kp h
         exact ⟨_, _, h3, Ca ho hT hH hn hu hi hs hx h1 h2.1 h2.2⟩
        ·cases h
       ·cases h
      ·cases h
     ·cases h
    ·cases h
   ·cases h
  ·cases h
 ·rename_i t x ho
  obtain ⟨v, h1, h2⟩ := lJ h
  exact ⟨_, _, h2, MP ho hT hH h1⟩
 ·rename_i t x y ho
  split at h
  ·rename_i q hq
   exact ⟨_, _, h, Kv ho hT hH hq⟩
  ·cases h
 ·rename_i x ho
  have hx := dL hT x
  generalize hd : dp T x = dx at h hx
  generalize hv : a.eval x = u at hx
  have he : ∀ {v : Value}, u = v → (match v with | .pointer (some _) => True | .func (.func _) _ _ => True | _ => False) → (execOp a.eval o).run P w = .ok (.value v) w := by
   rintro v rfl hm
   unfold execOp
   rw [ho]
   simp only [hv]
   cases u with
   | pointer q => cases q with
    | none => exact hm.elim
    | some q => rfl
   | func F x y => cases F with
    | func f => rfl
    | _ => exact hm.elim
   | _ => exact hm.elim
  split at h
  ·refine ⟨_, _, h, ?_⟩
   cases hx with | ptr _ _ _ b h1 hp => exact Done.pure hH (he rfl trivial) (.ptr _ _ _ b h1 hp)
  ·refine ⟨_, _, h, ?_⟩
   cases hx with | rp _ _ _ _ b len cap h1 hi hp => exact Done.pure hH (he rfl trivial) (.rp _ _ _ _ b len cap h1 hi hp)
  ·refine ⟨_, _, h, ?_⟩
   cases hx with | pi _ ad cs h0 hR him hC hc => exact Done.pure hH (he rfl trivial) (.pi _ ad cs h0 hR him hC hc)
  ·refine ⟨_, _, h, ?_⟩
   cases hx with | fn F q1 q2 a' b' h1 h2 => exact Done.pure hH (he rfl trivial) (.fn _ _ _ a' b' h1 h2)
  ·cases h
 ·rename_i op t x y sp ho
  obtain ⟨v, h1, h2⟩ := MT (P := P) (x := x) (y := y) (dL hT x) (dL hT y) h
  exact ⟨_, _, h1, Done.makes hH (by unfold execOp; rw [ho]) h2⟩
 ·rename_i op t x ho
  have hx := dL hT x
  generalize hd : dp T x = dx at h hx
  generalize hv : a.eval x = u at hx
  split at h
  ·obtain rfl := hx.sc_eq
   exact ⟨_, _, h, Done.makes hH (by unfold execOp; rw [ho]) ⟨_, by rw [hv]; rfl, .sc _ rfl⟩⟩
  ·obtain rfl := hx.sc_eq
   exact ⟨_, _, h, Done.makes hH (by unfold execOp; rw [ho]) ⟨_, by rw [hv]; rfl, .sc _ rfl⟩⟩
  ·cases h
 ·rename_i s t x ho
  have hx := dL hT x
  generalize hd : dp T x = dx at h hx
  generalize hv : a.eval x = u at hx
  split at h
  ·rename_i hs ht
   obtain rfl := hx.sc_eq
   exact ⟨_, _, h, Done.makes hH (by unfold execOp; rw [ho]) ⟨_, by rw [hv]; simp [convert, run_underlying hs, run_underlying ht, Conv.intToInt], .sc _ rfl⟩⟩
  ·rename_i hs ht
   obtain rfl := hx.sc_eq
   exact ⟨_, _, h, Done.makes hH (by unfold execOp; rw [ho]) ⟨_, by rw [hv]; simp [convert, run_underlying hs, run_underlying ht], .sc _ rfl⟩⟩
  ·rename_i e hs ht
   split at h
   ·rename_i he
    split at h
    ·rename_i xs hxs
     obtain ⟨A, c, rfl, news, n1, n2, n3⟩ := CO hH hx hxs
     refine ⟨_, _, h, Done.makes hH (by unfold execOp; rw [ho]) ⟨.string (ey xs), ?_, .sc _ rfl⟩⟩
     rw [hv]
     exact Ii hs he ht n1 n2 n3
    ·cases h
   ·cases h
  ·rename_i e s hs ht
   split at h
   ·rename_i he
    obtain rfl := hx.sc_eq
    exact ⟨_, _, h, MW hH (by unfold execOp; rw [ho]) (by rw [hv]) hs ht he⟩
   ·cases h
  ·cases h
 ·rename_i F q1 q2 ho
  exact ⟨_, _, h, Done.makes hH (by unfold execOp; rw [ho]) ⟨_, rfl, .fn _ _ _ _ _ (nR hT q1) (nR hT q2)⟩⟩
 ·rename_i t l c ho
  split at h
  ·rename_i e hu
   split at h
   ·rename_i s n m hsh hl hc
    split at h
    ·rename_i h1
     split at h
     ·rename_i hz
      obtain ⟨q, hn, h3⟩ := kp h
      exact ⟨_, _, h3, CL ho hT hH hn hu hl hc h1 hz⟩
     ·cases h
    ·cases h
   ·cases h
  ·cases h
 ·rename_i t x lo hi mx ho
  obtain ⟨v, h1, h2⟩ := Id (P := P) (mx' := mx.map a.eval) hH (dL hT x) (NI hT lo) (NI hT hi) (fun e => by cases mx <;> simp_all) h
  exact ⟨_, _, h1, Done.makes hH (by unfold execOp; rw [ho]) h2⟩
 ·rename_i t x f ho
  obtain ⟨v, h1, h2⟩ := lJ h
  exact ⟨_, _, h2, Done.makes hH (by unfold execOp; rw [ho]) (B9 (dL hT x) h1)⟩
 ·rename_i t x f ho
  obtain ⟨v, h1, h2⟩ := lJ h
  exact ⟨_, _, h2, Done.makes hH (by unfold execOp; rw [ho]) (Ic (dL hT x) h1)⟩
 ·rename_i t x i ho
  have hi := dL hT i
  split at h
  ·rename_i kd j hj
   rw [hj] at hi
   obtain ⟨v, h1, h2⟩ := ES (P := P) (kd := kd) hH (dL hT x) h
   exact ⟨_, _, h1, Done.makes hH (by unfold execOp; rw [ho]) (hi.sc_eq ▸ h2)⟩
  ·cases h
 ·rename_i t x i ho
  have hi := dL hT i
  split at h
  ·rename_i kd j hj
   rw [hj] at hi
   obtain ⟨v, h1, h2⟩ := H9 (P := P) (kd := kd) (dL hT x) h
   exact ⟨_, _, h1, Done.makes hH (by unfold execOp; rw [ho]) (hi.sc_eq ▸ h2)⟩
  ·cases h
 ·rename_i t ho
  split at h
  ·rename_i kt e ht
   obtain ⟨n, h1, h2⟩ := kp h
   exact ⟨_, _, h2, Gy ho hH h1⟩
  ·cases h
 ·rename_i t m i x ho
  have hm := dL hT m
  have hi := dL hT i
  split at h
  ·rename_i kt e n j ht hmd hid
   split at h
   ·rename_i ks vs hk hn
    split at h
    ·rename_i hfr
     rw [hid] at hi
     rw [hmd] at hm
     exact ⟨_, _, h, Ig ho hH ht hk hn hm hi.sc_eq (dL hT x) hfr⟩
    ·cases h
   ·cases h
  ·cases h
 ·rename_i t x i c ho
  have hx := dL hT x
  have hi := dL hT i
  split at h
  ·rename_i kt e ks vs n ht hxd hid
   split at h
   ·rename_i it hk hit
    split at h
    ·rename_i z hz
     rw [hid] at hi
     obtain ⟨b, es, cl, us, hv, hb, hE, hL⟩ := Kx hH hx hxd
     have hz' : (zeroValue e).run P w = .ok z w := by simp [zeroValue, typeInfo, Sem.run_bind, hit, hz]
     rcases Ky (c := c) (n := n) ht hk hz' hb hE with ⟨g1, g2⟩ | ⟨g1, g2⟩
     ·rcases wx h with ⟨d, k1, k3⟩ | ⟨k1, k3⟩
      ·have k2 := hL n d k1
       refine ⟨_, _, k3, Done.makes hH (by unfold execOp; rw [ho]) ⟨_, by rw [hv, hi.sc_eq]; exact g2, ?_⟩⟩
       cases c
       ·exact k2
       ·exact .tup _ _ (.cons _ _ _ _ k2 (.cons _ _ _ _ (.sc _ rfl) .nil))
      ·rw [k1] at g1; cases g1
     ·rcases wx h with ⟨d, k1, k3⟩ | ⟨k1, k3⟩
      ·rw [g1] at k1; cases k1
      ·refine ⟨_, _, k3, Done.makes hH (by unfold execOp; rw [ho]) ⟨_, by rw [hv, hi.sc_eq]; exact g2, ?_⟩⟩
       cases c
       ·exact xU z
       ·exact .tup _ _ (.cons _ _ _ _ (xU z) (.cons _ _ _ _ (.sc _ rfl) .nil))
    ·cases h
   ·cases h
  ·cases h
 ·rename_i x i ho
  have hx := dL hT x
  generalize hd : dp T x = dx at h hx
  generalize hv : a.eval x = u at hx
  split at h
  ·rename_i vs
   obtain ⟨v, h1, h2⟩ := lJ h
   cases hx with | tup _ vs' hL =>
   obtain ⟨u, g1, g2⟩ := hL.get h1
   refine ⟨_, _, h2, Done.makes hH (by unfold execOp; rw [ho]) ⟨u, ?_, g2⟩⟩
   rw [ch] at g1
   simp [Instr.extract, hv, g1]
  ·cases h
 ·rename_i c ho
  split at h
  ·rename_i hc
   split at h
   ·rename_i x t hx ht
    split at h
    ·rename_i n hn
     refine ⟨_, _, h, Done.makes hH (kM (b := .len) (s := Builtin.len_ c.argTypes o.type (c.args.map a.eval)) ho hc rfl) ⟨_, ?_, .sc _ rfl⟩⟩
     have e1 : c.args.map a.eval = #[a.eval x] := by
      apply Array.toList_inj.1
      rw [Array.toList_map, hx]; rfl
     have := MV (ty := o.type) hH (dL hT x) hn
     rw [e1]
     have e2 : ∀ (A : Array TypeId), A[0]? = some t → Builtin.len_ A o.type #[a.eval x] = Builtin.len_ #[t] o.type #[a.eval x] := by
      intro A hA
      unfold Builtin.len_
      have : A.getD 0 0 = t := by simp [hA]
      simp [hA]
     rw [e2 _ ht]
     exact this
    ·cases h
   ·cases h
  ·rename_i hc
   split at h
   ·rename_i kk x rr hx
    obtain ⟨v, h1, h2⟩ := lJ h
    have hL := nR hT c.args
    rw [hx] at hL
    generalize hA : (c.args.map a.eval).toList = vs at hL
    cases hL with | cons _ _ u vs' hd hr =>
    obtain rfl := hd.sc_eq
    obtain ⟨n, rfl, g2⟩ := FA (P := P) hr h1
    refine ⟨_, _, h2, Done.makes hH (kM (b := .min) (s := Builtin.min_ c.argTypes o.type (c.args.map a.eval)) ho hc rfl) ⟨_, ?_, .sc _ rfl⟩⟩
    unfold Builtin.min_
    rw [hA]
    exact g2
   ·cases h
  ·rename_i hc
   split at h
   ·rename_i kk x rr hx
    obtain ⟨v, h1, h2⟩ := lJ h
    have hL := nR hT c.args
    rw [hx] at hL
    generalize hA : (c.args.map a.eval).toList = vs at hL
    cases hL with | cons _ _ u vs' hd hr =>
    obtain rfl := hd.sc_eq
    obtain ⟨n, rfl, g2⟩ := FB (P := P) hr h1
    refine ⟨_, _, h2, Done.makes hH (kM (b := .max) (s := Builtin.max_ c.argTypes o.type (c.args.map a.eval)) ho hc rfl) ⟨_, ?_, .sc _ rfl⟩⟩
    unfold Builtin.max_
    rw [hA]
    exact g2
   ·cases h
  ·cases h
 ·cases h
end
section
variable {P : Program} {I I' : In} {w w' : World} {T : List DV} {a : Act} {H : Heap} {α : Type}
theorem wy (n : Nat) (g : Sub) : ∀ l : List DV, d4 n g l = l.map (DV.sub n g)
 | [] => rfl
 | d :: r => by simp [d4, wy n g r]
theorem Ik (n : Nat) (g : Sub) (l : List DV) (i : Nat) : (d4 n g l).getD i .undef = (l.getD i .undef).sub n g := by
 rw [wy]
 simp only [ar, bz]
 cases l[i]? <;> rfl
theorem sD : ∀ l : List DV, ia l = l.map DV.bare
 | [] => rfl
 | d :: r => by simp [ia, sD r]
theorem GA (l : List DV) (i : Nat) : (ia l).getD i .undef = (l.getD i .undef).bare := by
 rw [sD]
 simp only [ar, bz]
 cases l[i]? <;> rfl
theorem TR.keep (hs : Same I I' w w') (hT : TR I w T a) : TR I' w' T a := ⟨hT.len, fun i => VR.keep hs (hT.val i), hT.df⟩
theorem TR.sub {n : Nat} {g : Sub} (hs : But n g I I' w w') (hT : TR I w T a) : TR I' w' (d4 n g T) a :=
 ⟨by rw [wy, bb]; exact hT.len, fun i => by rw [Ik]; exact VR.sub hs (hT.val i), hT.df⟩
theorem TR.bare (hs : ObjS I I' w w') (hT : TR I w T a) : TR I' w' (ia T) a :=
 ⟨by rw [sD, bb]; exact hT.len, fun i => by rw [GA]; exact VR.bare hs (hT.val i), hT.df⟩
theorem NJ {n : Nat} {E : TypeId} {s : Sh} {xs : List s.T} (hH : HR I w H) (h : H n = some (.row E s xs)) : ∃ I', HR I' w (H.sub n (.vs s xs)) ∧ Ext I w I' w ∧ But n (.vs s xs) I I' w w := by
 obtain ⟨v, cs, h1, h2, h3⟩ := hH.row n E s xs h
 have hb : But n (.vs s xs) I ⟨fun m => if m = n then none else I.ι m, fun b => I.R b ∨ v.ownBlock = some b⟩ w w := by
  refine ⟨⟨fun b h => .inl h, fun _ _ => rfl⟩, fun m b hm => ?_, fun m sz u hm h => ?_, ?_⟩
  ·show (if m = n then none else I.ι m) = _
   rw [if_neg]
   ·exact hm
   ·rintro rfl; rw [h1] at hm; cases hm
  ·show (if m = n then none else I.ι m) = _
   rw [if_neg hm]
   exact h
  ·intro s' xs' e sz u hu
   rw [h1] at hu
   simp only [ab, Ent.row.injEq] at hu
   obtain ⟨rfl, rfl⟩ := hu
   cases e
   refine ⟨rfl, ?_⟩
   rcases h2.2 with ⟨rfl, h0⟩ | ⟨g, cap, cur, rfl, _, hh, hc, _⟩
   ·have : xs = [] := bm h0
    subst this
    exact ⟨none, 0, rfl, aq _, fun h => absurd rfl h⟩
   ·obtain ⟨_, _, cs', k1, k2, k3⟩ := mn hH h h1
    refine ⟨_, cap, rfl, hc, fun hne => ⟨_, rfl, rfl, .inr rfl, fun i x hx => ?_⟩⟩
    have hi := (List.getElem?_eq_some_iff.1 hx).1
    have hk := k1.2.2 i x hx
    have hl : i * s.sz + s.sz ≤ xs.length * s.sz := by rw [← aH]; exact aN _ hi
    refine ⟨_, Sh.K_len hk, Sh.K_keep ⟨fun b h => .inl h, fun _ _ => rfl⟩ hk, fun j u hu => ?_⟩
    rw [Addr.add_mid, bU]
    refine k3 _ u ?_
    rw [aT] at hu
    split at hu
    ·rw [aX] at hu
     exact hu
    ·cases hu
 refine ⟨_, HR.of (fun m b hm => ?_) (fun m hm => ?_) (fun m e b hm he => ?_) (fun m m' e e' b hm hm' he he' => ?_) (fun b hR => ?_), ⟨hb.obj, fun b h => .inl h, fun _ _ _ => rfl, fun m e b hm he => ?_, fun b hR => ?_, aq _, rfl, rfl, rfl⟩, hb⟩
 ·simp only [Heap.sub] at hm
  split at hm
  ·cases hm
  ·rename_i hmn
   split at hm
   ·rename_i b0 hb0
    simp only [ab] at hm
    subst hm
    cases b0 with
    | obj cs0 =>
     obtain ⟨b, c, t, k1, k2, k3⟩ := hH.obj m cs0 hb0
     exact ⟨b, c, t, hb.obj _ _ k1, k2, CR.sub hb k3⟩
    | row E' s' xs' =>
     obtain ⟨u, cs', k1, k2, k3⟩ := hH.row m E' s' xs' hb0
     exact ⟨u, cs', hb.row _ _ _ hmn k1, k2, Sh.K_keep hb.keeps k3⟩
    | mp ks vs => exact MR.sub hb (hH.mp m ks vs hb0) (fun _ _ => rfl)
   ·cases hm
 ·show (if m = n then none else I.ι m) = none
  split
  ·rfl
  ·rename_i hmn
   simp only [Heap.sub, hmn, ax] at hm
   split at hm
   ·cases hm
   ·rename_i hb0
    exact hH.dom m hb0
 ·dsimp only at hm
  split at hm
  ·cases hm
  ·rename_i hmn
   obtain ⟨k1, k2⟩ := hH.lt m e b hm he
   refine ⟨k1, ?_⟩
   rintro (hR | hR)
   ·exact k2 hR
   ·exact hmn (hH.inj m n e _ b hm h1 he hR)
 ·dsimp only at hm hm'
  split at hm
  ·cases hm
  ·split at hm'
   ·cases hm'
   ·exact hH.inj m m' e e' b hm hm' he he'
 ·rcases hR with hR | hR
  ·exact hH.rlt b hR
  ·exact (hH.lt n _ b h1 hR).1
 ·dsimp only at hm
  split at hm
  ·cases hm
  ·exact .inl ⟨m, e, hm, he⟩
 ·rcases hR with hR | hR
  ·exact .inl hR
  ·exact .inr (.inl ⟨n, _, h1, hR⟩)
theorem j8 : ∀ {r : List Nat} {I : In} {H : Heap} {A T : List DV} {vs : List Value} {A' T' : List DV} {H' : Heap}, HR I w H → TR I w T a → LR I w A vs → uS r A T H = (A', T', H') → ∃ I', HR I' w H' ∧ Ext I w I' w ∧ TR I' w T' a ∧ LR I' w A' vs
 | [], I, H, A, T, vs, A', T', H', hH, hT, hA, h => by
  simp only [uS, ah] at h
  obtain ⟨rfl, rfl, rfl⟩ := h
  exact ⟨I, hH, Ext.refl I w, hT, hA⟩
 | n :: r, I, H, A, T, vs, A', T', H', hH, hT, hA, h => by
  simp only [uS] at h
  split at h
  ·rename_i E s xs hn
   obtain ⟨I1, g1, g2, g3⟩ := NJ hH hn
   obtain ⟨I2, k1, k2, k3, k4⟩ := j8 g1 (TR.sub g3 hT) (LR.sub g3 hA) h
   exact ⟨I2, k1, g2.trans k2, k3, k4⟩
  ·exact j8 hH hT hA h
def Goes (P : Program) (o : Oper) (a : Act) (I : In) (w : World) (T' : List DV) (H' : Heap) : Prop :=
 ∃ I' w' n u, (execOp a.eval o).run P w = .ok n w' ∧ Ext I w I' w' ∧ HR I' w' H' ∧ TR I' w' T' (a.put o.dst u) ∧ (n = .value u ∨ n = .skip ∧ u = undef)
theorem Done.same {o : Oper} {v : DV} {act : fi} (hH : HR I w H) (h : Ext I w I' w') (hr : Rows I I') : Same I I' w w' := ⟨h.keeps hH, h.obj, hr.row⟩
theorem Done.goes {o : Oper} {v : DV} {act : fi} (hT : TR I w T a) (hH : HR I w H) (h : Done P o a I w H v act) : Goes P o a I w (dF T o.dst v) (H.act act) := by
 obtain ⟨I', w', n, h1, h2, h3, h4, h5⟩ := h
 have hs : Same I I' w w' := ⟨h2.keeps hH, h2.obj, h3.row⟩
 cases n with
 | value u => exact ⟨I', w', _, u, h1, h2, h4, (hT.keep hs).put _ h5, .inl rfl⟩
 | skip =>
  have : v = .undef := h5
  subst this
  exact ⟨I', w', _, undef, h1, h2, h4, (hT.keep hs).put _ (.undef _), .inr ⟨rfl, rfl⟩⟩
 | _ => exact h5.elim
theorem Goes.ext {o : Oper} {I1 : In} {T' : List DV} {H' : Heap} (h : Ext I w I1 w) (hg : Goes P o a I1 w T' H') : Goes P o a I w T' H' := by
 obtain ⟨I', w', n, u, h1, h2, h3⟩ := hg
 exact ⟨I', w', n, u, h1, h.trans h2, h3⟩
theorem MX {n : Nat} {v' : Value} {E : TypeId} {s : Sh} {xs : List s.T} {cs : List Value} (hH : HR I w H) (hn : H n = none) (hg : w.grownBy w' none) (hv : v'.ownBlock = none ∨ v'.ownBlock = some w.heap.size) (hown : w'.ownsRow 0 E s.sz v' xs.length cs) (hk : (Sh.arr xs.length s).K I.R w xs cs) :
  HR (I.put n (.row s.sz v')) w' (H.set n (some (.row E s xs))) ∧ Ext I w (I.put n (.row s.sz v')) w' ∧ Same I (I.put n (.row s.sz v')) w w' := by
 have h0 := hH.dom n hn
 have hblk : ∀ b, b < w.heap.size → w'.heap[b]? = w.heap[b]? := fun b hb => hg.block b hb (by simp)
 have hlt : ∀ b, v'.ownBlock = some b → b = w.heap.size ∧ b < w'.heap.size := by
  intro b hb
  refine ⟨by rcases hv with hv | hv <;> rw [hv] at hb <;> simp_all, ?_⟩
  rcases hown.2 with ⟨rfl, _⟩ | ⟨g, cap, cur, rfl, _, hh, _⟩
  ·cases hb
  ·simp only [Value.ownBlock, ab] at hb
   subst hb
   exact (Array.getElem?_eq_some_iff.1 hh).1
 have hs : Same I (I.put n (.row s.sz v')) w w' := by
  refine ⟨⟨fun _ h => h, fun b hb => hblk b (hH.rlt b hb)⟩, fun m b h => ?_, fun m sz u h => ?_⟩
  ·rw [dy]
   ·exact h
   ·rintro rfl; rw [h0] at h; cases h
  ·rw [dy]
   ·exact h
   ·rintro rfl; rw [h0] at h; cases h
 refine ⟨HR.of (fun m b h => ?_) (fun m h => ?_) (fun m e b h hb => ?_) (fun m m' e e' b h h' hb hb' => ?_) (fun b h => ?_), ⟨hs.obj, fun _ h => h, fun b hb _ => hblk b hb, fun m e b h hb => ?_, fun b h => .inl h, hg.size, hg.os, hg.tape, hg.output⟩, hs⟩
 ·by_cases hm : m = n
  ·subst hm
   rw [Heap.set_same] at h
   simp only [ab] at h
   subst h
   exact ⟨v', cs, dE, hown, Sh.K_keep hs.keeps hk⟩
  ·rw [eY hm] at h
   exact (hH.br h).keep hs (fun e g h1 h2 => hblk g (hH.lt m e g h1 h2).1)
 ·by_cases hm : m = n
  ·subst hm; rw [Heap.set_same] at h; cases h
  ·rw [eY hm] at h
   rw [dy hm]
   exact hH.dom m h
 ·by_cases hm : m = n
  ·subst hm
   rw [dE] at h
   simp only [ab] at h
   subst h
   obtain ⟨k1, k2⟩ := hlt b hb
   exact ⟨k2, fun hR => by have := hH.rlt b hR; omega⟩
  ·rw [dy hm] at h
   obtain ⟨k1, k2⟩ := hH.lt m e b h hb
   exact ⟨bx k1 hg.size, k2⟩
 ·by_cases hm : m = n
  ·by_cases hm' : m' = n
   ·rw [hm, hm']
   ·exfalso
    subst hm
    rw [dE] at h
    rw [dy hm'] at h'
    simp only [ab] at h
    subst h
    have := (hlt b hb).1
    have := (hH.lt m' e' b h' hb').1
    omega
  ·by_cases hm' : m' = n
   ·exfalso
    subst hm'
    rw [dE] at h'
    rw [dy hm] at h
    simp only [ab] at h'
    subst h'
    have := (hlt b hb').1
    have := (hH.lt m e b h hb).1
    omega
   ·rw [dy hm] at h
    rw [dy hm'] at h'
    exact hH.inj m m' e e' b h h' hb hb'
 ·exact bx (hH.rlt b h) hg.size
 ·by_cases hm : m = n
  ·subst hm
   rw [dE] at h
   simp only [ab] at h
   subst h
   exact .inr (by have := (hlt b hb).1; omega)
  ·rw [dy hm] at h
   exact .inl ⟨m, e, h, hb⟩
theorem sE {E : TypeId} {sz n l cap : Nat} {b : Nat} {cs : List Value} (h : w.ownsRow 0 E sz (.slice (some ⟨b, 0, none⟩) n cap) n cs) (hl : l ≤ n) : w.ownsRow 0 E sz (.slice (some ⟨b, 0, none⟩) l cap) l (cs.take (l * sz)) := by
 have hle : l * sz ≤ n * sz := aN _ hl
 refine ⟨by rw [List.length_take, h.1]; omega, ?_⟩
 rcases h.2 with ⟨e, _⟩ | ⟨g, cap', cur, e, h1, h2, h3, h4, h5, h6⟩
 ·cases e
 ·simp only [Value.slice.injEq, ab, Addr.mk.injEq, bc] at e
  obtain ⟨rfl, _, rfl⟩ := e
  refine .inr ⟨b, cap, cur, rfl, h1, h2, by omega, h4, h5, ?_⟩
  rw [← h6, ck]
  congr 1
  omega
theorem x0 {R : Nat → Prop} {s : Sh} {n l : Nat} {xs : List s.T} {cs : List Value} (h : (Sh.arr n s).K R w xs cs) (hl : l ≤ n) : (Sh.arr (xs.take l).length s).K R w (xs.take l) (cs.take (l * s.sz)) := by
 have hle : l * s.sz ≤ n * s.sz := aN _ hl
 have h1 := h.1
 have h2 := h.2.1
 refine ⟨rfl, by simp only [List.length_take]; rw [h1, h2, Nat.min_eq_left hl, Nat.min_eq_left hle], fun i x hx => ?_⟩
 rw [aT] at hx
 split at hx
 ·rename_i hil
  have h3 := h.2.2 i x hx
  have : i * s.sz + s.sz ≤ l * s.sz := by rw [← aH]; exact aN _ hil
  rw [List.drop_take, ck]
  have e : min s.sz (l * s.sz - i * s.sz) = s.sz := by omega
  rw [e]
  exact h3
 ·cases hx
theorem AT {R : Nat → Prop} (s : Sh) : (Sh.arr ([] : List s.T).length s).K R w ([] : List s.T) [] := ⟨rfl, by simp, fun i x hx => by simp at hx⟩
theorem pB {o : Oper} {c : Call} {x y : Operand} {t : TypeId} {v : Value} (ho : o.op = .call c) (hc : c.callee = .builtin .append) (hx : c.args.toList = [x, y]) (ht : c.argTypes.toList = [t, t]) (h : (Builtin.append_ #[t, t] o.type #[a.eval x, a.eval y]).run P w = .ok v w') : (execOp a.eval o).run P w = .ok (.value v) w' := by
 rw [kM (b := .append) (s := Builtin.append_ c.argTypes o.type (c.args.map a.eval)) ho hc rfl]
 refine kL ?_
 have e1 : c.args.map a.eval = #[a.eval x, a.eval y] := by
  apply Array.toList_inj.1
  rw [Array.toList_map, hx]; rfl
 have e2 : c.argTypes = #[t, t] := Array.toList_inj.1 ht
 rw [e1, e2]
 exact h
theorem GB {d : Nat} {o : Oper} {c : Call} {x y : Operand} {t e : TypeId} {s : Sh} {ys : List s.T} {k : List DV → Heap → Option α} {r : α} (hT : TR I w T a) (hH : HR I w H) (ho : o.op = .call c) (hc : c.callee = .builtin .append) (hx : c.args.toList = [x, y]) (ht : c.argTypes.toList = [t, t])
  (hu : P.underlying t = some (.slice e)) (hz : jB P e s = true) (hy : eJ H s (dp T y) = some ys) (h : iE P d o e s (dp T x) ys T H k = some r) : ∃ T' H', k T' H' = some r ∧ Goes P o a I w T' H' := by
 have hvx := dL hT x
 have hvy := dL hT y
 generalize dp T x = dx at h hvx
 generalize hax : a.eval x = ux at hvx
 unfold iE at h
 split at h
 ·rename_i z cp
  obtain rfl := hvx.sc_eq
  split at h
  ·rename_i hcnd
   simp only [am, aw] at hcnd
   obtain ⟨⟨⟨rfl, rfl⟩, hb⟩, h1⟩ := hcnd
   obtain ⟨n, hn, h2⟩ := kp h
   obtain ⟨v', w', cs', g1, g2, g3, g4, g5⟩ := qX (P := P) (t := t) (ty := o.type) (xs := []) (v := .slice none 0 0) (cs := []) hH hz hu ⟨by simp, .inl ⟨rfl, rfl⟩⟩ (AT s) hvy hy (by simpa using hb) h1
   obtain ⟨k1, k2, k3⟩ := MX hH hn g3 g4 g2 g5
   refine ⟨_, _, h2, _, w', _, v', pB ho hc hx ht (by rw [hax]; exact g1), k2, k1, (hT.keep k3).put _ (VR.rw n s.sz v' dE ?_), .inl rfl⟩
   rcases g2.2 with ⟨rfl, _⟩ | ⟨g, c', cur, rfl, _⟩
   ·exact ⟨_, _, _, rfl⟩
   ·exact ⟨_, _, _, rfl⟩
  ·cases h
 ·rename_i n
  split at h
  ·rename_i E' s' xs hrow
   split at h
   ·rename_i hE
    subst hE
    split at h
    ·rename_i hs' hq
     cases hs'
     split at h
     ·rename_i hcnd
      simp only [am, aw] at hcnd
      cases hvx with | rw _ sz v hi hs =>
      obtain ⟨v0, cs, m1, m2, m3⟩ := hH.row n E' s xs hrow
      rw [hi] at m1
      simp only [ab, Ent.row.injEq] at m1
      obtain ⟨rfl, rfl⟩ := m1
      obtain ⟨v', w', cs', g1, g2, g3, g4, g5⟩ := qX (P := P) (t := t) (ty := o.type) hH hz hu m2 m3 hvy hy hcnd.1 hcnd.2
      obtain ⟨k1, k2, k3⟩ := NH hH hi g3 g4 g2 g5
      refine ⟨_, _, h, _, w', _, v', pB ho hc hx ht (by rw [hax]; exact g1), k2, k1, (hT.sub k3).put _ (VR.rw n s.sz v' dE ?_), .inl rfl⟩
      rcases g2.2 with ⟨rfl, _⟩ | ⟨g, c', cur, rfl, _⟩
      ·exact ⟨_, _, _, rfl⟩
      ·exact ⟨_, _, _, rfl⟩
     ·cases h
    ·cases h
   ·cases h
  ·cases h
 ·rename_i n z l
  split at h
  ·rename_i E' s' xs hrow
   split at h
   ·rename_i hz0
    subst hz0
    split at h
    ·rename_i hE
     subst hE
     split at h
     ·rename_i hs' hq
      cases hs'
      split at h
      ·rename_i hcnd
       simp only [am, aw] at hcnd
       cases hvx with | sl _ _ _ sz A A' len cap cap' hi hl h0' h1' hc' =>
       obtain ⟨rfl, rfl⟩ := h0' rfl
       obtain ⟨v0, cs, m1, m2, m3⟩ := hH.row n E' s xs hrow
       rw [hi] at m1
       simp only [ab, Ent.row.injEq] at m1
       obtain ⟨rfl, rfl⟩ := m1
       obtain ⟨_, rfl, _, _⟩ := jl hH hrow hi
       have hl' : l ≤ xs.length := by omega
       have hlen : (xs.take l).length = l := by simp; omega
       have hown : w.ownsRow 0 E' s.sz (.slice A' l cap') (xs.take l).length (cs.take (l * s.sz)) := by
        rw [hlen]
        rcases m2.2 with ⟨e, e0⟩ | ⟨g, c', cur, e, _⟩
        ·simp only [Value.slice.injEq] at e
         obtain ⟨rfl, _, rfl⟩ := e
         have : l = 0 := by omega
         subst this
         exact ⟨by simp, .inl ⟨rfl, rfl⟩⟩
        ·simp only [Value.slice.injEq] at e
         obtain ⟨rfl, _, rfl⟩ := e
         exact sE m2 hl'
       obtain ⟨v', w', cs', g1, g2, g3, g4, g5⟩ := qX (P := P) (t := t) (ty := o.type) hH hz hu hown (x0 m3 hl') hvy hy hcnd.1 hcnd.2
       have e0 : ∀ (A : Option Addr) (n m c c' : Nat), (Value.slice A n c).ownBlock = (Value.slice A m c').ownBlock := by
        intro A n m c c'
        cases A <;> rfl
       obtain ⟨k1, k2, k3⟩ := NH (v' := v') hH hi (by rw [e0 A' xs.length l cap' cap']; exact g3) (by rw [e0 A' xs.length l cap' cap']; exact g4) g2 g5
       refine ⟨_, _, h, _, w', _, v', pB ho hc hx ht (by rw [hax]; exact g1), k2, k1, (hT.sub k3).put _ (VR.rw n s.sz v' dE ?_), .inl rfl⟩
       rcases g2.2 with ⟨rfl, _⟩ | ⟨g, c', cur, rfl, _⟩
       ·exact ⟨_, _, _, rfl⟩
       ·exact ⟨_, _, _, rfl⟩
      ·cases h
     ·cases h
    ·cases h
   ·cases h
  ·cases h
 ·cases h
theorem CP {d : Nat} {o : Oper} {k : K α} {r : α} (hT : TR I w T a) (hH : HR I w H) (h : kI P d o T H k = some r) : ∃ T' H', k T' H' = some r ∧ Goes P o a I w T' H' := by
 have plain : ∀ {I : In} {T : List DV} {H : Heap}, TR I w T a → HR I w H → (ez P d o T H fun v a => k (dF T o.dst v) (H.act a)) = some r → ∃ T' H', k T' H' = some r ∧ Goes P o a I w T' H' := by
  intro I T H hT hH h
  obtain ⟨v, act, h1, h2⟩ := Ij hT hH h
  exact ⟨_, _, h1, h2.goes hT hH⟩
 unfold kI at h
 split at h
 ·rename_i t n ps ho
  split at h
  rename_i A' T' H' hs
  have hLR : LR I w (ps.toList.map fun e => dp T e.2) (ps.toList.map fun e => a.eval e.2) := by
   have := LR.map hT (ps.toList.map (·.2))
   simpa [List.map_map, Function.comp_def] using this
  obtain ⟨I1, g1, g2, g3, _⟩ := j8 hH hT hLR hs
  obtain ⟨T2, H2, k1, k2⟩ := plain g3 g1 h
  exact ⟨T2, H2, k1, k2.ext g2⟩
 ·rename_i q x y ho
  split at h
  ·split at h
   rename_i A' T' H' hs
   have hLR : LR I w [dp T y] [a.eval y] := .cons _ _ _ _ (dL hT y) .nil
   obtain ⟨I1, g1, g2, g3, _⟩ := j8 hH hT hLR hs
   obtain ⟨T2, H2, k1, k2⟩ := plain g3 g1 h
   exact ⟨T2, H2, k1, k2.ext g2⟩
  ·exact plain hT hH h
 ·rename_i c ho
  split at h
  ·rename_i hc
   split at h
   ·rename_i x y t t' hx ht
    split at h
    ·rename_i htt
     subst htt
     split at h
     ·rename_i e hu
      split at h
      ·rename_i s hsh
       split at h
       ·rename_i hz
        split at h
        ·rename_i ys hy
         exact GB hT hH ho hc hx ht hu hz hy h
        ·cases h
       ·cases h
      ·cases h
     ·cases h
    ·cases h
   ·cases h
  ·exact plain hT hH h
 ·exact plain hT hH h
end
section
variable {P : Program} {I I' : In} {w w' : World} {T : List DV} {a : Act} {H : Heap} {α : Type}
def Kz (u : Option (List Nat)) (I I' : In) : Prop := ∀ l, u = some l → ∀ n sz v, n ∉ l → I.ι n = some (.row sz v) → I'.ι n = some (.row sz v)
def zP (R : Value → World → Prop) : Ending → World → Prop
 | .returned z, w => R z w
 | _, _ => False
def CQ (P : Program) (f : FuncId) : Prop := ∀ (args : Array Value) (w : World), (callFunc f args).run P w = .ok (.enter f args) w
theorem oM {f : FuncId} (h : iF P f = true) : CQ P f := by
 intro args w
 unfold iF at h
 split at h
 ·rename_i fn hf
  simp only [am, aj, ne_eq] at h
  have h1 : (fn.name == "runtime.NumGoroutine") = false := by simp [h.1]
  have h2 : fn.body.isNone = false := by
   cases hb : fn.body with
   | none => rw [hb] at h; simp at h
   | some c => rfl
  have h3 : fn.body ≠ none := by
   intro e
   rw [e] at h
   simp at h
  simp [callFunc, hf, h.1, h3]
 ·cases h
def qY (P : Program) (call : f6 α) : Prop := ∀ {I : In} {w : World} {H : Heap} {A : List DV} {args : List Value} {f : FuncId} {k : DV → Heap → Option (List Nat) → Option α} {r : α}, HR I w H → LR I w A args → call f A H k = some r →
 CQ P f ∧ Calls P f args.toArray w (zP fun z w' => ∃ I' v H' u, k v H' u = some r ∧ Ext I w I' w' ∧ HR I' w' H' ∧ VR I' w' v z ∧ Kz u I I')
def In.drop (I : In) (n : Nat) : In := ⟨fun m => if m = n then (match I.ι m with | some (.row _ _) => none | x => x) else I.ι m, I.R⟩
theorem In.drop_but (I : In) (n : Nat) (w : World) : But n .none I (I.drop n) w w := by
 refine ⟨⟨fun _ h => h, fun _ _ => rfl⟩, fun m b h => ?_, fun m sz v hm h => ?_, fun s xs h => by cases h⟩
 ·show (if m = n then _ else _) = _
  split
  ·rw [h]
  ·exact h
 ·show (if m = n then _ else _) = _
  rw [if_neg hm]
  exact h
theorem CS : ∀ {l : List Nat} {I : In} {T : List DV}, TR I w T a → Keeps I.R I'.R w w' → (∀ n b, I.ι n = some (.obj b) → I'.ι n = some (.obj b)) → (∀ n sz v, n ∉ l → I.ι n = some (.row sz v) → I'.ι n = some (.row sz v)) → TR I' w' (dK l T) a
 | [], I, T, hT, hk, ho, hr => hT.keep ⟨hk, ho, fun n sz v h => hr n sz v (by simp) h⟩
 | n :: l, I, T, hT, hk, ho, hr => by
  show TR I' w' (dK l (d4 n .none T)) a
  refine CS (l := l) (I := I.drop n) (hT.sub (I.drop_but n w)) hk (fun m b h => ?_) (fun m sz v hm h => ?_)
  ·refine ho m b ?_
   by_cases hmn : m = n
   ·simp only [In.drop, hmn, if_true] at h ⊢
    split at h
    ·cases h
    ·exact h
   ·simpa only [In.drop, hmn, ax] using h
  ·by_cases hmn : m = n
   ·simp only [In.drop, hmn, if_true] at h
    split at h
    ·cases h
    ·rename_i h2
     exact (h2 _ _ h).elim
   ·simp only [In.drop, hmn, ax] at h
    exact hr m sz v (by simp [hmn, hm]) h
theorem CT {u : Option (List Nat)} (hT : TR I w T a) (hH : HR I w H) (he : Ext I w I' w') (hk : Kz u I I') : TR I' w' (jO T u) a := by
 cases u with
 | none => exact hT.bare (he.toObj hH)
 | some l => exact CS hT (he.keeps hH) he.obj (hk l rfl)
theorem CU {g : Nat} {v : DV} (h : T.getD g .undef = v) (hv : v ≠ .undef) : T.set g v = T := by
 apply cz
 intro i
 rw [bS]
 split
 ·rename_i e
  subst e
  split
  ·rename_i hl
   rw [← h, ar, av hl]
   rfl
  ·rename_i hl
   rw [ar, List.getElem?_eq_none (by omega)] at h
   exact absurd h.symm hv
 ·rfl
theorem vH {ops : Array Oper} {j : Nat} {g : Tmp} {b : Bool} (hT : TR I w T a) (hj : (ops[j]?).bind (·.dst) = some g) (h : T.getD g .undef = .sc (.bool b)) : yielded ops a.tmps j = some b := by
 have := hT.val g
 rw [h] at this
 have h1 := this.sc_eq
 unfold yielded
 rw [hj]
 simp only [ae]
 rw [bT] at h1
 cases hg : a.tmps[g]? with
 | none => rw [hg] at h1; cases h1
 | some x =>
  rw [hg] at h1
  simp only [bp] at h1
  subst h1
  rfl
theorem vI {ops : Array Oper} {j : Nat} {g : Tmp} (hT : TR I w T a) (hj : (ops[j]?).bind (·.dst) = some g) (h : T.getD g .undef = .tup []) : yielded ops a.tmps j = none := by
 have := hT.val g
 rw [h] at this
 unfold yielded
 rw [hj]
 simp only [ae]
 generalize hx : a.tmps.getD g undef = x at this
 cases this with
 | tup _ vs hl =>
  rw [bT] at hx
  cases hg : a.tmps[g]? with
  | none => rfl
  | some y =>
   rw [hg] at hx
   simp only [bp] at hx
   subst hx
   rfl
theorem uZ (hT : TR I w T a) (d : Option Tmp) : TR I w (dF T d (.tup [])) (a.put d undef) := hT.put d (.tup [] #[] .nil)
theorem Goes.wp {o : Oper} {T' : List DV} {H' : Heap} {K : Act → World → Prop} {Q : Exit → Act → World → Prop} (h : Goes P o a I w T' H') (hk : ∀ I' w' u, Ext I w I' w' → HR I' w' H' → TR I' w' T' (a.put o.dst u) → K (a.put o.dst u) w') : o.wp P a w K Q := by
 obtain ⟨I', w', n, u, h1, h2, h3, h4, h5⟩ := h
 unfold Oper.wp
 rw [h1]
 rcases h5 with rfl | ⟨rfl, rfl⟩
 ·exact hk I' w' u h2 h3 h4
 ·exact hk I' w' undef h2 h3 h4
theorem oN {f : Operand} {g : FuncId} {x y : List DV} {c : Call} (hT : TR I w T a) (h : dp T f = .fn (.func g) x y) : ∃ x' y', a.eval f = .func (.func g) x' y' ∧ LR I w (x ++ c.args.toList.map (dp T) ++ y) (x' ++ c.args.map a.eval ++ y').toList := by
 have hf := dL hT f
 rw [h] at hf
 obtain ⟨x', y', e, h1, h2⟩ := hf.fn_case
 refine ⟨x', y', e, ?_⟩
 have app : ∀ {l m : List DV} {l' m' : List Value}, LR I w l l' → LR I w m m' → LR I w (l ++ m) (l' ++ m') := by
  intro l m l' m' hl hm
  induction l generalizing l' with
  | nil => cases hl with | nil => exact hm
  | cons d r ih => cases hl with | cons _ _ u vs hd hr => exact .cons _ _ _ _ hd (ih hr)
 simp only [Array.toList_append]
 exact app (app h1 (nR hT c.args)) h2
theorem oO {o : Oper} {c : Call} {f : Operand} {g : FuncId} {x' y' : Array Value} (ho : o.op = .call c) (hc : c.callee = .value f) (hf : a.eval f = .func (.func g) x' y') (he : CQ P g) : (execOp a.eval o).run P w = .ok (.enter g (x' ++ c.args.map a.eval ++ y')) w := by
 unfold execOp
 rw [ho]
 simp only [resolve, hc, hf, Deferred.ofValue]
 exact he _ _
end
section
variable {P : Program} {α : Type}
theorem CV {call : f6 α} (hcall : qY P call) {I : In} {w : World} {T : List DV} {a : Act} {H : Heap} {o : Oper} {c : Call} {f : Operand} {g : FuncId} {x y : List DV} {sp : Bool} {k : K α} {r : α} {K : Act → World → Prop} {Q : Exit → Act → World → Prop} (hT : TR I w T a) (hH : HR I w H)
  (ho : o.op = .call c) (hc : c.callee = .value f) (hf : dp T f = .fn (.func g) x y)
  (h : (match (if sp = true then (x ++ c.args.toList.map (dp T) ++ y, T, H) else mj (x ++ c.args.toList.map (dp T) ++ y) T H) with
   | (A, T, H) => call g A H fun v H u => k (dF (jO T u) o.dst v) H) = some r)
  (hk : ∀ I' w' T' H' u, Ext I w I' w' → HR I' w' H' → TR I' w' T' (a.put o.dst u) → k T' H' = some r → K (a.put o.dst u) w') : o.wp P a w K Q := by
 obtain ⟨x', y', e1, e2⟩ := oN (c := c) hT hf
 split at h
 rename_i A1 T1 H1 hs
 obtain ⟨I1, g1, g2, g3, g4⟩ : ∃ I1, HR I1 w H1 ∧ Ext I w I1 w ∧ TR I1 w T1 a ∧ LR I1 w A1 (x' ++ c.args.map a.eval ++ y').toList := by
  split at hs
  ·simp only [ah] at hs
   obtain ⟨rfl, rfl, rfl⟩ := hs
   exact ⟨I, hH, Ext.refl I w, hT, e2⟩
  ·exact j8 hH hT e2 hs
 obtain ⟨k1, k2⟩ := hcall g1 g4 h
 unfold Oper.wp
 rw [oO ho hc e1 k1, Oper.upon_enter]
 refine Calls.mono k2 ?_
 rintro e w' he
 cases e with
 | returned z =>
  obtain ⟨I', v, H', u, m1, m2, m3, m4, m5⟩ := he
  exact hk I' w' _ H' z (g2.trans m2) m3 ((CT g3 g1 m2 m5).put _ m4) m1
 | _ => exact he.elim
theorem CW {cx : Cx} {call : f6 α} (hcall : qY cx.P call) {d : Nat} {ops : Array Oper} {k : K α} {r : α} {Q : Exit → Act → World → Prop} : ∀ {l : List Oper} {I : In} {w : World} {T : List DV} {a : Act} {H : Heap}, TR I w T a → HR I w H → eM cx call d ops l T H k = some r →
  (∀ I' w' T' H' a', Ext I w I' w' → HR I' w' H' → TR I' w' T' a' → k T' H' = some r → Q .normal a' w') → wpList cx.P ops Q l a w
 | [], I, w, T, a, H, hT, hH, h, hQ => hQ I w T H a (Ext.refl I w) hH hT h
 | o :: l, I, w, T, a, H, hT, hH, h, hQ => by
  have next : ∀ {I' : In} {w' : World} {T' : List DV} {H' : Heap} {a' : Act}, Ext I w I' w' → HR I' w' H' → TR I' w' T' a' → eM cx call d ops l T' H' k = some r → wpList cx.P ops Q l a' w' := fun he hH' hT' h' =>
   CW hcall hT' hH' h' fun I2 w2 T2 H2 a2 he2 hH2 hT2 h2 => hQ I2 w2 T2 H2 a2 (he.trans he2) hH2 hT2 h2
  have hrun : ∀ {R : Option α}, (match o.op with
   | .call c => match c.callee with
    | .value f => match dp T f with
     | .fn (.func g) a b => match (if nG g = true then (a ++ c.args.toList.map (dp T) ++ b, T, H) else mj (a ++ c.args.toList.map (dp T) ++ b) T H) with
      | (A, T, H) => call g A H fun v H u => eM cx call d ops l (dF (jO T u) o.dst v) H k
     | _ => none
    | _ => kI cx.P d o T H fun T H => eM cx call d ops l T H k
   | _ => kI cx.P d o T H fun T H => eM cx call d ops l T H k) = some r → o.wp cx.P a w (wpList cx.P ops Q l) Q := by
   intro R h
   have plain : (kI cx.P d o T H fun T H => eM cx call d ops l T H k) = some r → o.wp cx.P a w (wpList cx.P ops Q l) Q := by
    intro h
    obtain ⟨T', H', h1, h2⟩ := CP hT hH h
    exact h2.wp fun I' w' u he hH' hT' => next he hH' hT' h1
   split at h
   ·rename_i c ho
    split at h
    ·rename_i f hc
     split at h
     ·rename_i g x y hf
      exact CV hcall (sp := nG g) (k := fun T H => eM cx call d ops l T H k) hT hH ho hc hf h fun I' w' T' H' u he hH' hT' h' => next he hH' hT' h'
     ·cases h
    ·exact plain h
   ·exact plain h
  unfold eM at h
  simp only [AM, HY] at h
  try simp only at h
  unfold wpList
  split at h
  ·rename_i hg
   rw [if_pos (by simp [Region.wanted, hg])]
   exact .inl (hrun (R := some r) h)
  ·rename_i j want hg
   split at h
   ·rename_i g hj
    split at h
    ·rename_i b hb
     have hy := vH hT hj hb
     have hfix : T.set g (.sc (.bool b)) = T := CU hb (by simp)
     cases b with
     | true =>
      rw [hfix] at h
      cases want with
      | true =>
       rw [if_pos (by simp [Region.wanted, hg, hy])]
       exact .inl (hrun (R := some r) h)
      | false =>
       rw [if_neg (by simp [Region.wanted, hg, hy])]
       exact next (Ext.refl I w) hH (uZ hT o.dst) h
     | false =>
      rw [hfix] at h
      cases want with
      | true =>
       rw [if_neg (by simp [Region.wanted, hg, hy])]
       exact next (Ext.refl I w) hH (uZ hT o.dst) h
      | false =>
       rw [if_pos (by simp [Region.wanted, hg, hy])]
       exact .inl (hrun (R := some r) h)
    ·rename_i hb
     have hy := vI hT hj hb
     rw [if_neg (by simp [Region.wanted, hg, hy])]
     exact next (Ext.refl I w) hH (uZ hT o.dst) h
    ·cases h
   ·cases h
end
section
variable {P : Program} {α : Type}
theorem AU {c x y : DV} {k : DV → Option α} : oG c x y k = (oG c x y some).bind k := by
 unfold oG
 repeat' split
 all_goals first | rfl | simp
theorem CX {op : BinOp} {t : TypeId} {x y : DV} {k : DV → Option α} : zI P op t x y k = (zI P op t x y some).bind k := by
 unfold zI
 repeat' split
 all_goals first | rfl | simp
theorem sF {t : TypeId} {H : Heap} {x : DV} {i : Int} {k : DV → Option α} : ic P t H x i k = (ic P t H x i some).bind k := by
 unfold ic
 repeat' split
 all_goals first | rfl | simp
theorem x5 {t : TypeId} {x : DV} {i : Int} {k : DV → Option α} : pP P t x i k = (pP P t x i some).bind k := by
 unfold pP
 repeat' split
 all_goals first | rfl | simp
theorem nu {x : DV} {n : Nat} {β : Type} {k : Nat → Option β} : kG x n k = (kG x n some).bind k := by
 unfold kG
 repeat' split
 all_goals first | rfl | simp
theorem CY {lo : Option DV} {k : Nat → Nat → Option α} {h : Nat} : sv lo k h = (sv lo (fun a b => some (a, b)) h).bind fun e => k e.1 e.2 := by
 unfold sv
 split
 ·rw [nu, nu (k := fun l => some (l, h))]
  cases kG _ h some <;> rfl
 ·rfl
theorem vJ {lo hi : Option DV} {n : Nat} {k : Nat → Nat → Option α} : gf n lo hi k = (gf n lo hi (fun a b => some (a, b))).bind fun e => k e.1 e.2 := by
 unfold gf
 split
 ·rw [nu, nu (k := sv lo _)]
  cases kG _ n some with
  | none => rfl
  | some x => exact CY
 ·exact CY
theorem x6 {t : TypeId} {H : Heap} {x : DV} {lo hi mx : Option DV} {k : DV → Option α} : kH P t H x lo hi mx k = (kH P t H x lo hi mx some).bind k := by
 have B : ∀ {n : Nat} {f : Nat → Nat → DV}, (gf n lo hi fun l h => k (f l h)) = (gf n lo hi fun l h => some (f l h)).bind k := by
  intro n f
  rw [vJ, vJ (k := fun l h => some (f l h))]
  cases gf n lo hi _ <;> rfl
 unfold kH
 repeat' split
 all_goals first | rfl | exact B | simp
theorem gm {d : Nat} {o : Oper} {H : Heap} {b : Blk} {v : Nat → DV} {k : DV → fi → Option α} : fM d o H b v k = (fM d o H b v fun v a => some (v, a)).bind fun e => k e.1 e.2 := by
 unfold fM
 simp only
 split <;> rfl
theorem AV {z : DV} {n : Int} {g : DV → Bool → DV} {k : DV → fi → Option α} : ∀ {ks : List (List Int)} {vs : List DV}, (wt ks vs z n fun u b => k (g u b) none) = (wt ks vs z n fun u b => some (g u b, (none : fi))).bind fun e => k e.1 e.2
 | [], vs => by cases vs <;> rfl
 | l :: ks, [] => rfl
 | l :: ks, v :: vs => by
  simp only [wt]
  split
  ·rfl
  ·exact AV
theorem pT {d : Nat} {o : Oper} {T : List DV} {H : Heap} {k : DV → fi → Option α} : ez P d o T H k = (ez P d o T H fun v a => some (v, a)).bind fun e => k e.1 e.2 := by
 have bd : ∀ {x : Option DV} {k : DV → fi → Option α}, x.bind (fun v => k v none) = (x.bind fun v => some (v, (none : fi))).bind fun e => k e.1 e.2 := by
  intro x k
  cases x <;> rfl
 unfold ez
 simp only
 split
 all_goals try first | rfl | exact gm
 ·rw [AU, AU (k := fun x => some (x, none))]; exact bd
 ·split
  ·exact gm
  ·rfl
 ·split
  ·split
   ·exact gm
   ·rfl
  ·rfl
 ·split
  ·split <;> rfl
  ·rfl
 ·repeat' split
  all_goals first | rfl | exact gm
 ·split <;> rfl
 ·split <;> rfl
 ·split <;> rfl
 ·rw [CX, CX (k := fun x => some (x, none))]; exact bd
 ·split <;> rfl
 ·repeat' split
  all_goals rfl
 ·repeat' split
  all_goals first | rfl | exact gm
 ·rw [x6, x6 (k := fun x => some (x, none))]; exact bd
 ·split <;> rfl
 ·split <;> rfl
 ·split
  ·rw [sF, sF (k := fun x => some (x, none))]; exact bd
  ·rfl
 ·split
  ·rw [x5, x5 (k := fun x => some (x, none))]; exact bd
  ·rfl
 ·split
  ·exact gm
  ·rfl
 ·split
  ·split
   ·split <;> rfl
   ·rfl
  ·rfl
 ·split
  ·split
   ·split
    ·exact AV (g := fun u b => if _ = true then .tup [u, .sc (.bool b)] else u)
    ·rfl
   ·rfl
  ·rfl
 ·split
  ·split <;> rfl
  ·rfl
 ·split
  ·repeat' split
   all_goals rfl
  ·repeat' split
   all_goals rfl
  ·repeat' split
   all_goals rfl
  ·rfl
end
section
variable {P : Program} {α : Type} {H H' : Heap}
theorem GC {T : List DV} {o : Oper} {x : Operand} {n : Nat} (ho : sw o = true) (hx : x ∈ o.op.operands.toList) (hn : n ∈ gO (dp T x)) : n ∈ eP T o := by
 unfold eP
 rw [if_pos ho]
 exact List.mem_flatMap.2 ⟨x, hx, hn⟩
theorem Il {t : TypeId} {x : DV} (h : ∀ n ∈ gO x, H n = H' n) : kF P t H x = kF P t H' x := by
 cases x <;> simp only [kF] <;> rw [h _ (by simp [gO])]
theorem GD {t : TypeId} {x v : DV} (h : ∀ n ∈ gO x, H n = H' n) : pR P t H x v = pR P t H' x v := by
 unfold pR
 cases x <;> simp only <;> rw [h _ (by simp [gO])]
theorem CZ {t : TypeId} {x : DV} {i : Int} {k : DV → Option α} (h : ∀ n ∈ gO x, H n = H' n) : ic P t H x i k = ic P t H' x i k := by
 unfold ic
 cases x <;> simp only <;> rw [h _ (by simp [gO])]
theorem GE {t : TypeId} {x : DV} {lo hi mx : Option DV} {k : DV → Option α} (h : ∀ n ∈ gO x, H n = H' n) : kH P t H x lo hi mx k = kH P t H' x lo hi mx k := by
 cases mx with
 | some _ => rfl
 | none =>
  unfold kH
  cases x <;> first | (simp only; rw [h _ (by simp [gO])]; done) | (generalize P.underlying t = u; cases u with | none => rfl | some ty => (cases ty <;> first | rfl | (simp only; rw [h _ (by simp [gO])]; done) | (rename_i v _; cases v <;> first | rfl | (rename_i A _ _; cases A <;> rfl)) | (rename_i v; cases v <;> first | rfl | (rename_i A _ _; cases A <;> rfl)) | (rename_i v _ _; cases v <;> first | rfl | (rename_i A _ _; cases A <;> rfl))))
theorem KA {t : TypeId} {x : DV} (h : ∀ n ∈ gO x, H n = H' n) : zH P t H x = zH P t H' x := by
 unfold zH
 cases x <;> first | (simp only; rw [h _ (by simp [gO])]; done) | (generalize P.underlying t = u; cases u with | none => rfl | some ty => (cases ty <;> first | rfl | (simp only; rw [h _ (by simp [gO])]; done) | (rename_i v _; cases v <;> first | rfl | (rename_i A _ _; cases A <;> rfl)) | (rename_i v; cases v <;> first | rfl | (rename_i A _ _; cases A <;> rfl)) | (rename_i v _ _; cases v <;> first | rfl | (rename_i A _ _; cases A <;> rfl))))
theorem AW : ∀ {m b : Nat}, (∀ n, b ≤ n → n ≤ b + m → H n = H' n) → kC H m b = kC H' m b ∧ b ≤ kC H m b ∧ kC H m b ≤ b + m
 | 0, b, h => ⟨rfl, aq _, aq _⟩
 | m + 1, b, h => by
  have h0 := h b (aq _) (by omega)
  obtain ⟨g1, g2, g3⟩ := AW (m := m) (b := b + 1) (fun n h1 h2 => h n (by omega) (by omega))
  simp only [kC]
  rw [← h0]
  cases H b with
  | none => exact ⟨rfl, aq _, Nat.le_add_right _ _⟩
  | some _ => exact ⟨g1, aL (Nat.le_succ b) g2, aL g3 (by omega)⟩
theorem kN {d : Nat} {o : Oper} {b : Blk} {v : Nat → DV} {k : DV → fi → Option α} (h : ∀ n, base d o.dst ≤ n → n < base d o.dst + 64 → H n = H' n) : fM d o H b v k = fM d o H' b v k := by
 obtain ⟨g1, g2, g3⟩ := AW (m := 63) (b := base d o.dst) (fun n h1 h2 => h n h1 (by omega))
 unfold fM
 simp only
 rw [← g1, h _ g2 (by omega)]
theorem Im {s : Sh} {y : DV} (h : ∀ n ∈ gO y, H n = H' n) : eJ H s y = eJ H' s y := by
 cases y
 case rw n => simp only [eJ]; rw [h n (by simp [gO])]
 case sl n o l => simp only [eJ]; rw [h n (by simp [gO])]
 case sc v =>
  cases v with
  | slice a n c => cases a <;> rfl
  | _ => rfl
 all_goals rfl
theorem MY {d : Nat} {o : Oper} {T T' : List DV} {k : DV → fi → Option α} (hT : ∀ x ∈ o.op.operands.toList, dp T x = dp T' x) (hR : ∀ n ∈ eP T o, H n = H' n) (hB : zK o = true → ∀ n, base d o.dst ≤ n → n < base d o.dst + 64 → H n = H' n) : ez P d o T H k = ez P d o T' H' k := by
 have hN : sw o = true → ∀ x ∈ o.op.operands.toList, ∀ n ∈ gO (dp T' x), H n = H' n := fun ho x hx n hn => hR n (GC ho hx (by rw [hT x hx]; exact hn))
 have pairs : ∀ ps : Array (Nat × Operand), (∀ x ∈ (ps.toList.map (·.2)), dp T x = dp T' x) → (ps.toList.map fun e => (e.1, dp T e.2)) = ps.toList.map fun e => (e.1, dp T' e.2) := fun ps hp => bA fun p hm => by rw [hp p.2 (bj hm)]
 have pairs2 : ∀ ps : Array (Nat × Operand), (∀ x ∈ (ps.toList.map (·.2)), dp T x = dp T' x) → (ps.toList.map fun e => dp T e.2) = ps.toList.map fun e => dp T' e.2 := fun ps hp => bA fun p hm => by rw [hp p.2 (bj hm)]
 obtain ⟨dst, op, type, pos, after, guard⟩ := o
 cases op
 case move x => simp only [ez]; rw [hT x (by simp [Op.operands])]
 case assign x => simp only [ez]; rw [hT x (by simp [Op.operands])]
 case pick c a b => simp only [ez]; rw [hT c (by simp [Op.operands]), hT a (by simp [Op.operands]), hT b (by simp [Op.operands])]
 case alloc e =>
  simp only [ez]
  split
  ·exact kN (hB rfl)
  ·rfl
 case box e x =>
  simp only [ez]
  rw [hT x (by simp [Op.operands])]
  repeat' split
  all_goals first | rfl | exact kN (hB rfl)
 case build t ps => simp only [ez]; rw [pairs ps fun x hx => hT x (by simpa [Op.operands] using hx)]
 case buildSlice t n ps =>
  simp only [ez]
  rw [pairs2 ps fun x hx => hT x (by simpa [Op.operands] using hx)]
  repeat' split
  all_goals first | rfl | exact kN (hB rfl)
 case load t x => simp only [ez]; rw [hT x (by simp [Op.operands]), Il (hN rfl x (by simp [Op.operands]))]
 case store t x v => simp only [ez]; rw [hT x (by simp [Op.operands]), hT v (by simp [Op.operands]), GD (hN rfl x (by simp [Op.operands]))]
 case nilCheck x => simp only [ez]; rw [hT x (by simp [Op.operands])]
 case binOp q t x y z => simp only [ez]; rw [hT x (by simp [Op.operands]), hT y (by simp [Op.operands])]
 case unOp q t x => simp only [ez]; rw [hT x (by simp [Op.operands])]
 case convert q t x =>
  simp only [ez]
  rw [hT x (by simp [Op.operands])]
  have he : eJ H (.int .u8) (dp T' x) = eJ H' (.int .u8) (dp T' x) := Im (hN rfl x (by simp [Op.operands]))
  generalize dp T' x = y at he
  split
  ·rfl
  ·rfl
  ·rw [he]
  ·rfl
  ·rfl
 case makeFunc F a b =>
  simp only [ez]
  rw [bA (l := a.toList) fun x hx => hT x (by simp only [Op.operands, Array.toList_append, ay]; exact .inl hx), bA (l := b.toList) fun x hx => hT x (by simp only [Op.operands, Array.toList_append, ay]; exact .inr hx)]
 case makeSlice t l c =>
  simp only [ez]
  rw [hT l (by simp [Op.operands]), hT c (by simp [Op.operands])]
  repeat' split
  all_goals first | rfl | exact kN (hB rfl)
 case slice t x lo hi mx =>
  simp only [ez]
  have m : ∀ y : Option Operand, (∀ z, y = some z → dp T z = dp T' z) → y.map (dp T) = y.map (dp T') := fun y hy => by
   cases y with
   | none => rfl
   | some z => simp [hy z rfl]
  rw [hT x (by simp [Op.operands]), m lo fun z hz => hT z (by simp [Op.operands, hz]), m hi fun z hz => hT z (by simp [Op.operands, hz]), m mx fun z hz => hT z (by simp [Op.operands, hz]), GE (hN rfl x (by simp [Op.operands]))]
 case fieldAddr t x f => simp only [ez]; rw [hT x (by simp [Op.operands])]
 case field t x f => simp only [ez]; rw [hT x (by simp [Op.operands])]
 case indexAddr t x i =>
  simp only [ez]
  rw [hT x (by simp [Op.operands]), hT i (by simp [Op.operands])]
  split
  ·exact CZ (hN rfl x (by simp [Op.operands]))
  ·rfl
 case index t x i => simp only [ez]; rw [hT x (by simp [Op.operands]), hT i (by simp [Op.operands])]
 case makeMap t r =>
  cases r with
  | none =>
   simp only [ez]
   split
   ·exact kN (hB rfl)
   ·rfl
  | some r => rfl
 case insert t m i x =>
  simp only [ez]
  rw [hT m (by simp [Op.operands]), hT i (by simp [Op.operands]), hT x (by simp [Op.operands])]
  split
  ·rename_i hm _
   rw [hN rfl m (by simp [Op.operands]) _ (by rw [hm]; simp [gO])]
  ·rfl
 case lookup t x i c =>
  simp only [ez]
  have : uV H (dp T' x) = uV H' (dp T' x) := by
   have hx := hN rfl x (by simp [Op.operands])
   unfold uV
   cases hd : dp T' x <;> simp only
   rw [hx _ (by rw [hd]; simp [gO])]
  rw [hT x (by simp [Op.operands]), hT i (by simp [Op.operands]), this]
 case extract x i => simp only [ez]; rw [hT x (by simp [Op.operands])]
 case call c =>
  have hA : c.args.toList.map (dp T) = c.args.toList.map (dp T') := bA fun x hx => hT x (by simp [Op.operands, Call.operands, Array.mem_toList_iff.1 hx])
  simp only [ez]
  rw [hA]
  split
  ·split
   ·rename_i x t hx ht
    have hm : x ∈ (Op.call c).operands.toList := by
     have : x ∈ c.args.toList := by rw [hx]; simp
     simp [Op.operands, Call.operands, Array.mem_toList_iff.1 this]
    rw [hT x hm, KA (hN rfl x hm)]
   ·rfl
  ·rfl
  ·rfl
  ·rfl
 all_goals rfl
end
abbrev St := List DV × Heap
def eB (u : List Nat) (n : Nat) (b : Option Blk) : Option Blk := u.foldl (fun b m => if n = m then none else match b with | some b => some (b.sub m .none) | none => none) b
theorem iQ : ∀ (u : List Nat) (H : Heap) (n : Nat), (dn u H) n = eB u n (H n)
 | [], H, n => rfl
 | m :: u, H, n => by
  show (dn u (H.sub m .none)) n = eB u n _
  rw [iQ u]
  rfl
theorem pC : ∀ (u : List Nat) (n : Nat), eB u n none = none
 | [], n => rfl
 | m :: u, n => by
  show eB u n (if n = m then none else none) = none
  rw [ite_self]
  exact pC u n
mutual
theorem DV.sub_clean {m : Nat} {g : Sub} : ∀ (d : DV), m ∉ d.rows → d.sub m g = d
 | .rp n sz i p, h => by
  have : n ≠ m := fun e => h (by simp [DV.rows, e])
  simp [DV.sub, this]
 | .rw n, h => by
  have : n ≠ m := fun e => h (by simp [DV.rows, e])
  simp [DV.sub, this]
 | .sl n o l, h => by
  have : n ≠ m := fun e => h (by simp [DV.rows, e])
  simp [DV.sub, this]
 | .fn F a b, h => by
  simp only [DV.rows, ay, not_or] at h
  simp only [DV.sub]
  rw [gn a h.1, gn b h.2]
 | .agg cs, h => by
  simp only [DV.rows] at h
  simp only [DV.sub]
  rw [gn cs h]
 | .tup cs, h => by
  simp only [DV.rows] at h
  simp only [DV.sub]
  rw [gn cs h]
 | .tab ks vs, h => by
  simp only [DV.rows] at h
  simp only [DV.sub]
  rw [gn vs h]
 | .undef, h => rfl
 | .sc v, h => rfl
 | .ptr n o p, h => rfl
 | .pi its, h => rfl
 | .vs s xs, h => rfl
 | .arr s n xs, h => rfl
 | .mh n, h => rfl
theorem gn {m : Nat} {g : Sub} : ∀ (l : List DV), m ∉ l3 l → d4 m g l = l
 | [], h => rfl
 | d :: r, h => by
  simp only [l3, ay, not_or] at h
  simp only [d4]
  rw [DV.sub_clean d h.1, gn r h.2]
end
theorem Blk.sub_clean {m : Nat} {g : Sub} {b : Blk} (h : m ∉ l4 (some b)) : b.sub m g = b := by
 cases b with
 | obj cs => simp only [Blk.sub]; rw [gn cs h]
 | mp ks vs => simp only [Blk.sub]; rw [gn vs h]
 | row E s xs => rfl
theorem disjB_iff {u h : List Nat} : e8 u h = true ↔ ∀ n ∈ u, n ∉ h := by
 unfold e8
 simp
theorem vK (m : Nat) (u : List Nat) (n : Nat) (b : Option Blk) : eB (m :: u) n b = eB u n (if n = m then none else match b with | some b => some (b.sub m .none) | none => none) := rfl
theorem fX : ∀ {u : List Nat} {n : Nat} {b : Option Blk}, n ∉ u → e8 u (l4 b) = true → eB u n b = b
 | [], n, b, h1, h2 => rfl
 | m :: u, n, b, h1, h2 => by
  rw [disjB_iff] at h2
  simp only [aA, not_or] at h1
  rw [vK, if_neg h1.1]
  cases b with
  | none => exact pC u n
  | some b =>
   simp only
   rw [Blk.sub_clean (h2 m (aB ..))]
   exact fX h1.2 (disjB_iff.2 fun k hk => h2 k (az _ hk))
mutual
theorem DV.sub_comm (m k : Nat) : ∀ (d : DV), (d.sub m .none).sub k .none = (d.sub k .none).sub m .none
 | .rp n sz i p => by
  by_cases h1 : n = m <;> by_cases h2 : n = k <;> simp [DV.sub, h1, h2] <;> (try split) <;> simp_all [DV.sub]
 | .rw n => by
  by_cases h1 : n = m <;> by_cases h2 : n = k <;> simp [DV.sub, h1, h2, Sub.whole] <;> (try split) <;> simp_all [DV.sub, Sub.whole]
 | .sl n o l => by
  by_cases h1 : n = m <;> by_cases h2 : n = k <;> simp [DV.sub, h1, h2, Sub.part] <;> (try split) <;> simp_all [DV.sub, Sub.part]
 | .fn F a b => by simp only [DV.sub]; rw [gp m k a, gp m k b]
 | .agg cs => by simp only [DV.sub]; rw [gp m k cs]
 | .tup cs => by simp only [DV.sub]; rw [gp m k cs]
 | .tab ks vs => by simp only [DV.sub]; rw [gp m k vs]
 | .undef => rfl
 | .sc v => rfl
 | .ptr n o p => rfl
 | .pi its => rfl
 | .vs s xs => rfl
 | .arr s n xs => rfl
 | .mh n => rfl
theorem gp (m k : Nat) : ∀ (l : List DV), d4 k .none (d4 m .none l) = d4 m .none (d4 k .none l)
 | [] => rfl
 | d :: r => by
  simp only [d4]
  rw [DV.sub_comm m k d, gp m k r]
end
theorem Blk.sub_comm (m k : Nat) : ∀ (b : Blk), (b.sub m .none).sub k .none = (b.sub k .none).sub m .none
 | .obj cs => by simp only [Blk.sub]; rw [gp]
 | .mp ks vs => by simp only [Blk.sub]; rw [gp]
 | .row E s xs => rfl
def f7 (n m : Nat) (b : Option Blk) : Option Blk := if n = m then none else match b with | some b => some (b.sub m .none) | none => none
theorem kO (n m : Nat) : f7 n m none = none := by unfold f7; split <;> rfl
theorem nv (n : Nat) (b : Option Blk) : f7 n n b = none := by unfold f7; rw [if_pos rfl]
theorem qZ {n m : Nat} (h : n ≠ m) (b : Blk) : f7 n m (some b) = some (b.sub m .none) := by unfold f7; rw [if_neg h]
theorem GF (n m k : Nat) (b : Option Blk) : f7 n k (f7 n m b) = f7 n m (f7 n k b) := by
 cases b with
 | none => rw [kO, kO, kO]
 | some b =>
  by_cases h1 : n = m
  ·subst h1
   rw [nv, kO, nv]
  ·by_cases h2 : n = k
   ·subst h2
    rw [nv, nv, kO]
   ·rw [qZ h1, qZ h2, qZ h2, qZ h1, Blk.sub_comm]
theorem sG (n m : Nat) : ∀ (u : List Nat) (b : Option Blk), eB u n (f7 n m b) = f7 n m (eB u n b)
 | [], b => rfl
 | k :: u, b => by
  show eB u n (f7 n k (f7 n m b)) = f7 n m (eB u n (f7 n k b))
  rw [GF, sG n m u]
theorem vL (n : Nat) : ∀ (u v : List Nat) (b : Option Blk), eB u n (eB v n b) = eB v n (eB u n b)
 | u, [], b => rfl
 | u, m :: v, b => by
  show eB u n (eB v n (f7 n m b)) = eB v n (f7 n m (eB u n b))
  rw [vL n u v, sG]
def q9 (u : List Nat) (d : DV) : DV := u.foldl (fun d m => d.sub m .none) d
theorem x7 (m : Nat) : ∀ (T : List DV) (t : Nat), (d4 m .none T).getD t .undef = (T.getD t .undef).sub m .none
 | [], t => rfl
 | d :: r, 0 => rfl
 | d :: r, t + 1 => by
  have := x7 m r t
  simpa [d4] using this
theorem vM (m : Nat) : ∀ (T : List DV), (d4 m .none T).length = T.length
 | [] => rfl
 | d :: r => by simp [d4, vM m r]
theorem l5 : ∀ (u : List Nat) (T : List DV) (t : Nat), (dK u T).getD t .undef = q9 u (T.getD t .undef)
 | [], T, t => rfl
 | m :: u, T, t => by
  show (dK u (d4 m .none T)).getD t .undef = q9 u ((T.getD t .undef).sub m .none)
  rw [l5 u, x7]
theorem jP : ∀ (u : List Nat) (T : List DV), (dK u T).length = T.length
 | [], T => rfl
 | m :: u, T => by
  show (dK u (d4 m .none T)).length = _
  rw [jP u, vM]
theorem l6 : ∀ {u : List Nat} {d : DV}, e8 u d.rows = true → q9 u d = d
 | [], d, h => rfl
 | m :: u, d, h => by
  rw [disjB_iff] at h
  show q9 u (d.sub m .none) = d
  rw [DV.sub_clean d (h m (aB ..))]
  exact l6 (disjB_iff.2 fun k hk => h k (az _ hk))
theorem C0 (m : Nat) (v : DV) : ∀ (T : List DV) (d : Nat), d4 m .none (T.set d v) = (d4 m .none T).set d (v.sub m .none)
 | [], d => rfl
 | x :: r, 0 => rfl
 | x :: r, d + 1 => by simp [d4, C0 m v r d]
theorem x8 : ∀ (u : List Nat) (T : List DV) (d : Nat) (v : DV), dK u (T.set d v) = (dK u T).set d (q9 u v)
 | [], T, d, v => rfl
 | m :: u, T, d, v => by
  show dK u (d4 m .none (T.set d v)) = (dK u (d4 m .none T)).set d (q9 u (v.sub m .none))
  rw [C0, x8 u]
theorem x9 {u : List Nat} {T : List DV} {d : Option Tmp} {v : DV} (h : e8 u v.rows = true) : dK u (dF T d v) = dF (dK u T) d v := by
 cases d with
 | none => rfl
 | some d => simp only [dF]; rw [x8, l6 h]
theorem ya (m : Nat) : ∀ (u : List Nat) (T : List DV), dK u (d4 m .none T) = d4 m .none (dK u T)
 | [], T => rfl
 | k :: u, T => by
  show dK u (d4 k .none (d4 m .none T)) = d4 m .none (dK u (d4 k .none T))
  rw [gp, ya m u]
theorem vN : ∀ (u v : List Nat) (T : List DV), dK u (dK v T) = dK v (dK u T)
 | u, [], T => rfl
 | u, m :: v, T => by
  show dK u (dK v (d4 m .none T)) = dK v (d4 m .none (dK u T))
  rw [vN u v, ya]
theorem zQ (H : Heap) (a : fi) : H.act2 (Act2.of a) = H.act a := by
 funext n
 cases a with
 | none => rfl
 | some p =>
  obtain ⟨m, b⟩ := p
  unfold Heap.act2 Act2.of Heap.act Heap.set
  by_cases e : n = m
  ·simp [e]
  ·simp [e]
   rfl
structure Rec where
 o : Oper
 v : DV
 act : Act2
 r : List Nat
 h : List Nat
 T : List DV
 H : Heap
def Rec.did (e : Rec) : Did := ⟨e.o, e.r, e.act.W, e.act.u, e.h, e.T, e.H⟩
def Rec.eff (e : Rec) (s : St) : St := (dF (dK e.act.u s.1) e.o.dst e.v, s.2.act2 e.act)
def eF : Nat → (Nat → Bool) → List Rec → St → St
 | _, _, [], s => s
 | m, S, e :: r, s => eF (m + 1) S r (if S m then e.eff s else s)
def dt : List Rec → St → St
 | [], s => s
 | e :: r, s => dt r (e.eff s)
def Agr (L : List Tmp) (N : Nat → Prop) (s s' : St) : Prop := s.1.length = s'.1.length ∧ (∀ t ∈ L, s.1.getD t .undef = s'.1.getD t .undef) ∧ ∀ n, N n → s.2 n = s'.2 n
def yb (e : Rec) (L : List Tmp) (N : Nat → Prop) (s : St) : Prop := (∀ d, e.o.dst = some d → d ∉ L) ∧ (∀ n ∈ e.act.W, ¬ N n) ∧ (∀ n, N n → eB e.act.u n (s.2 n) = s.2 n) ∧ ∀ t ∈ L, q9 e.act.u (s.1.getD t .undef) = s.1.getD t .undef
section
variable {L : List Tmp} {N : Nat → Prop} {s s' : St} {e : Rec} {S S' : Nat → Bool}
theorem wz {T : List DV} {d : Option Tmp} {v : DV} {t : Nat} (h : ∀ x, d = some x → x ≠ t) : (dF T d v).getD t .undef = T.getD t .undef := by
 cases d with
 | none => rfl
 | some d =>
  have : d ≠ t := h d rfl
  simp [dF, ar, bS, this]
theorem yc (T : List DV) (d : Option Tmp) (v : DV) : (dF T d v).length = T.length := by cases d <;> simp [dF]
theorem Agr.both (h : Agr L N s s') (e : Rec) : Agr L N (e.eff s) (e.eff s') := by
 obtain ⟨h1, h2, h3⟩ := h
 refine ⟨?_, fun t ht => ?_, fun n hn => ?_⟩
 ·simp only [Rec.eff, yc, jP, h1]
 ·simp only [Rec.eff]
  by_cases hd : e.o.dst = some t
  ·rw [hd]
   simp only [dF, ar, bS, jP, h1, if_true]
  ·have hne : ∀ x, e.o.dst = some x → x ≠ t := fun x hx e' => hd (by rw [hx, e'])
   rw [wz hne, wz hne, l5, l5, h2 t ht]
 ·simp only [Rec.eff, Heap.act2]
  split
  ·rfl
  ·rw [iQ, iQ, h3 n hn]
theorem Agr.right (h : Agr L N s s') (hf : yb e L N s) : Agr L N s (e.eff s') := by
 obtain ⟨h1, h2, h3⟩ := h
 refine ⟨?_, fun t ht => ?_, fun n hn => ?_⟩
 ·simp only [Rec.eff, yc, jP, h1]
 ·simp only [Rec.eff]
  rw [wz (fun x hx e' => hf.1 x hx (e' ▸ ht)), l5, ← h2 t ht, hf.2.2.2 t ht]
 ·simp only [Rec.eff, Heap.act2]
  rw [if_neg (fun hc => hf.2.1 n (by simpa using hc) hn), iQ, ← h3 n hn, hf.2.2.1 n hn]
theorem Agr.symm (h : Agr L N s s') : Agr L N s' s := ⟨h.1.symm, fun t ht => (h.2.1 t ht).symm, fun n hn => (h.2.2 n hn).symm⟩
theorem Agr.left (h : Agr L N s s') (hf : yb e L N s) : Agr L N (e.eff s) s' := by
 refine (h.symm.right ⟨hf.1, hf.2.1, fun n hn => ?_, fun t ht => ?_⟩).symm
 ·rw [← h.2.2 n hn]
  exact hf.2.2.1 n hn
 ·rw [← h.2.1 t ht]
  exact hf.2.2.2 t ht
theorem FC : ∀ {l : List Rec} {m : Nat} {s s' : St}, Agr L N s s' → (∀ i e, l[i]? = some e → S (m + i) = false → yb e L N (dt (l.take i) s)) → Agr L N (dt l s) (eF m S l s')
 | [], _, _, _, h, _ => h
 | e :: r, m, s, s', h, hO => by
  simp only [dt, eF]
  refine FC ?_ (fun i e' h1 h2 => hO (i + 1) e' h1 (by rw [← h2]; congr 1; omega))
  split
  ·exact h.both e
  ·rename_i hS
   exact h.left (hO 0 e rfl (by simpa using hS))
theorem FD : ∀ {l : List Rec} {m : Nat} {s s' : St}, Agr L N s s' → (∀ i e, l[i]? = some e → S (m + i) = true → yb e L N s) → Agr L N s (eF m S l s')
 | [], _, _, _, h, _ => h
 | e :: r, m, s, s', h, hO => by
  simp only [eF]
  refine FD ?_ (fun i e' h1 h2 => hO (i + 1) e' h1 (by rw [← h2]; congr 1; omega))
  split
  ·rename_i hS
   exact h.right (hO 0 e rfl (by simpa using hS))
  ·exact h
theorem pD : ∀ {l l' : List Rec} {m : Nat} {s : St}, eF m S (l ++ l') s = eF (m + l.length) S l' (eF m S l s)
 | [], _, _, _ => rfl
 | e :: r, l', m, s => by
  simp only [List.cons_append, eF, aE]
  rw [pD]
  congr 1
  omega
theorem pE : ∀ {l l' : List Rec} {s : St}, dt (l ++ l') s = dt l' (dt l s)
 | [], _, _ => rfl
 | e :: r, l', s => by simp only [List.cons_append, dt]; exact pE
theorem ra : ∀ {l : List Rec} {m : Nat} {s : St}, (∀ i, i < l.length → S (m + i) = S' (m + i)) → eF m S l s = eF m S' l s
 | [], _, _, _ => rfl
 | e :: r, m, s, h => by
  simp only [eF]
  rw [show S m = S' m from h 0 (by simp), ra (l := r) (m := m + 1) (fun i hi => by
   have := h (i + 1) (by simp; omega)
   rw [show m + 1 + i = m + (i + 1) by omega]
   exact this)]
theorem wA : ∀ {l : List Rec} {m : Nat} {s : St}, (∀ i, i < l.length → S (m + i) = true) → eF m S l s = dt l s
 | [], _, _, _ => rfl
 | e :: r, m, s, h => by
  simp only [eF, dt]
  rw [show S m = true from h 0 (by simp), if_pos rfl, wA (l := r) (m := m + 1) (fun i hi => by
   have := h (i + 1) (by simp; omega)
   rw [show m + 1 + i = m + (i + 1) by omega]
   exact this)]
def Com (e f : Rec) : Prop := (∀ d, e.o.dst = some d → f.o.dst ≠ some d) ∧ (∀ n ∈ e.act.W, n ∉ f.act.W) ∧ (∀ n ∈ e.act.W, eB f.act.u n (e.act.B n) = e.act.B n) ∧ (∀ n ∈ f.act.W, eB e.act.u n (f.act.B n) = f.act.B n) ∧ e8 e.act.u f.v.rows = true ∧ e8 f.act.u e.v.rows = true
theorem Com.eff {e f : Rec} (h : Com e f) (s : St) : f.eff (e.eff s) = e.eff (f.eff s) := by
 obtain ⟨h1, h2, h3, h4, h5, h6⟩ := h
 simp only [Rec.eff, ah]
 constructor
 ·rw [x9 h6, x9 h5, vN]
  cases he : e.o.dst with
  | none => rfl
  | some d =>
   cases hf : f.o.dst with
   | none => rfl
   | some d' =>
    have : d ≠ d' := fun e' => h1 d he (e' ▸ hf)
    simp only [dF]
    exact List.set_comm _ _ this
 ·funext n
  simp only [Heap.act2, iQ]
  by_cases he : n ∈ e.act.W
  ·have hf : n ∉ f.act.W := h2 n he
   have c1 : e.act.W.contains n = true := by simpa using he
   have c2 : ¬ f.act.W.contains n = true := by simpa using hf
   rw [if_neg c2, if_pos c1, if_pos c1, h3 n he]
  ·have c1 : ¬ e.act.W.contains n = true := by simpa using he
   by_cases hf : n ∈ f.act.W
   ·have c2 : f.act.W.contains n = true := by simpa using hf
    rw [if_pos c2, if_neg c1, if_pos c2, h4 n hf]
   ·have c2 : ¬ f.act.W.contains n = true := by simpa using hf
    rw [if_neg c2, if_neg c1, if_neg c1, if_neg c2]
    exact vL n _ _ _
theorem C1 : ∀ {l : List Rec} {m : Nat} {s : St}, (∀ i f, l[i]? = some f → S (m + i) = true → Com e f) → eF m S l (e.eff s) = e.eff (eF m S l s)
 | [], _, _, _ => rfl
 | f :: r, m, s, h => by
  simp only [eF]
  have hr := C1 (l := r) (m := m + 1) (s := if S m then f.eff s else s) (fun i f' h1 h2 => h (i + 1) f' h1 (by rw [← h2]; congr 1; omega))
  rw [← hr]
  congr 1
  split
  ·rename_i hS
   exact (h 0 f rfl (by simpa using hS)).eff s
  ·rfl
theorem KB {l : List Rec} {m j : Nat} {s : St} (hj : l[j]? = some e) (hS : S (m + j) = false) (hc : ∀ k f, j < k → l[k]? = some f → S (m + k) = true → Com e f) : eF m (fun i => S i || i == m + j) l s = e.eff (eF m S l s) := by
 have hlt := (List.getElem?_eq_some_iff.1 hj).1
 have hsplit : l = l.take j ++ e :: l.drop (j + 1) := by
  have : l[j] = e := (List.getElem?_eq_some_iff.1 hj).2
  rw [← this, List.getElem_cons_drop, bG]
 have hlen : (l.take j).length = j := by simp; omega
 generalize hp : l.take j = p at hsplit hlen
 generalize hq : l.drop (j + 1) = q at hsplit
 subst hsplit
 simp only [pD, eF, hlen, hS, ba, Bool.or_true, if_true, aG, ax]
 rw [ra (S := fun i => S i || i == m + j) (S' := S) (l := p) (m := m) (fun i hi => by
   have : (m + i == m + j) = false := by rw [aP]; omega
   simp only [this, bi]),
  ra (S := fun i => S i || i == m + j) (S' := S) (l := q) (m := m + j + 1) (fun i hi => by
   have : (m + j + 1 + i == m + j) = false := by rw [aP]; omega
   simp only [this, bi])]
 refine C1 fun i f h1 h2 => hc (j + 1 + i) f (by omega) ?_ (by rw [← h2]; congr 1; omega)
 rw [bg (by omega), hlen, show j + 1 + i - j = i + 1 by omega]
 exact h1
theorem KC {l : List Rec} {m j : Nat} {s : St} (hj : l[j]? = some e) (hS : S (m + j) = false) (h1 : ∀ i f, i < j → l[i]? = some f → S (m + i) = false → yb f L N (dt (l.take i) s)) (h2 : ∀ k f, j < k → l[k]? = some f → S (m + k) = true → yb f L N (dt (l.take j) s)) : Agr L N (dt (l.take j) s) (eF m S l s) := by
 have hlt := (List.getElem?_eq_some_iff.1 hj).1
 have hsplit : l = l.take j ++ e :: l.drop (j + 1) := by
  have : l[j] = e := (List.getElem?_eq_some_iff.1 hj).2
  rw [← this, List.getElem_cons_drop, bG]
 have hlen : (l.take j).length = j := by simp; omega
 have htk : ∀ i, i < j → (l.take j).take i = l.take i := fun i hi => by rw [ck, Nat.min_eq_left (by omega)]
 generalize hp : l.take j = p at *
 generalize hq : l.drop (j + 1) = q at hsplit
 have h1' : ∀ i f, i < j → l[i]? = some f → S (m + i) = false → yb f L N (dt (p.take i) s) := fun i f g1 g2 g3 => by rw [htk i g1]; exact h1 i f g1 g2 g3
 subst hsplit
 simp only [pD, eF, hlen, hS, aG, ax]
 refine FD (FC ⟨rfl, fun _ _ => rfl, fun _ _ => rfl⟩ fun i f g1 g2 => ?_) fun i f g1 g2 => ?_
 ·have hi := (List.getElem?_eq_some_iff.1 g1).1
  exact h1' i f (by omega) (by rw [aY hi]; exact g1) g2
 ·refine h2 (j + 1 + i) f (by omega) ?_ (by rw [← g2]; congr 1; omega)
  rw [bg (by omega), hlen, show j + 1 + i - j = i + 1 by omega]
  exact g1
end
section
variable {α : Type} (cx : Cx) (d : Nat) (ops : Array Oper)
def ik (o : Oper) (T : List DV) : Option Bool := match o.guard with
 | none => some true
 | some (j, want) => match (ops[j]?).bind (·.dst) with
  | some g => match T.getD g .undef with
   | .sc (.bool b) => some (b == want)
   | .tup [] => some false
   | _ => none
  | none => none
def PP (o : Oper) (T : List DV) (H : Heap) (v : DV) (act : Act2) : Prop :=
 (∃ a, ez cx.P d o T H (fun v a => some (v, a)) = some (v, a) ∧ act = Act2.of a) ∨
 (∃ c f g x y S X m Y, o.op = .call c ∧ c.callee = .value f ∧ dp T f = .fn (.func g) x y ∧ iF cx.P g = true ∧ S ∈ cx.specs g ∧ FS.pure S = true ∧ S.tin.pr ⟨[], []⟩ (x ++ c.args.toList.map (dp T) ++ y) (fun _ => none) = some (X, m) ∧ S.fn X = some Y ∧ v = ii (S.tout.T dB (S.out Y)) ∧ act = Act2.of none) ∨
 ∃ c f g x y, o.op = .call c ∧ c.callee = .value f ∧ dp T f = .fn (.func g) x y ∧ nN cx g (x ++ c.args.toList.map (dp T) ++ y) = some v ∧ act = Act2.of none
def PQ (o : Oper) (T : List DV) (H : Heap) (v : DV) (act : Act2) : Prop :=
 ∃ c f g x y S X m Y b, o.op = .call c ∧ c.callee = .value f ∧ dp T f = .fn (.func g) x y ∧ iF cx.P g = true ∧ S ∈ cx.specs g ∧ S.tin.pr ⟨[], []⟩ (x ++ c.args.toList.map (dp T) ++ y) H = some (X, m) ∧ S.fn X = some Y ∧ S.tout.free (j6 b m) ((dn m.u H).away m) = true ∧ v = ii (S.tout.T (j6 b m) (S.out Y)) ∧ act = ⟨m.u, m.σ.map (·.2) ++ m.u ++ S.tout.names (j6 b m), S.tout.H (j6 b m) (S.out Y) fun _ => none⟩
def PR (o : Oper) (T : List DV) (H : Heap) (v : DV) (act : Act2) : Prop :=
 ∃ c x y t e s ys, o.op = .call c ∧ c.callee = .builtin .append ∧ c.args.toList = [x, y] ∧ c.argTypes.toList = [t, t] ∧ cx.P.underlying t = some (.slice e) ∧ ge cx.P 8 e = some s ∧ jB cx.P e s = true ∧ eJ H s (dp T y) = some ys ∧ dZ cx.P d o e s (dp T x) ys H (fun v a => some (v, a)) = some (v, act)
def yd (o : Oper) (T : List DV) (H : Heap) (v : DV) (act : Act2) : Prop :=
 ∃ b, ik ops o T = some b ∧ ((b = true ∧ PP cx d o T H v act) ∨ (b = false ∧ v = .tup [] ∧ act = Act2.of none))
def rb (o : Oper) (T : List DV) (H : Heap) (v : DV) (act : Act2) : Prop := ik ops o T = some true ∧ PQ cx o T H v act
def ye (o : Oper) (T : List DV) (H : Heap) (v : DV) (act : Act2) : Prop := ik ops o T = some true ∧ PR cx d o T H v act
end
section
variable {α : Type} {cx : Cx} {d : Nat} {ops : Array Oper} {o : Oper} {T T' : List DV} {H H' : Heap} {v : DV} {act : Act2}
theorem sH (h : ∀ t ∈ o.looksAt ops, T.getD t .undef = T'.getD t .undef) : ik ops o T = ik ops o T' := by
 unfold ik
 split
 ·rfl
 ·rename_i j want hg
  split
  ·rename_i g hj
   rw [h g (by simp [Oper.looksAt, hg, hj])]
  ·rfl
theorem Ip (h : Agr (o.looksAt ops) (fun n => n ∈ eP T o ∨ fW d o n = true) (T, H) (T', H')) (hs : yd cx d ops o T H v act) : yd cx d ops o T' H' v act := by
 obtain ⟨h1, h2, h3⟩ := h
 have hop : ∀ x ∈ o.op.operands.toList, dp T x = dp T' x := by
  intro x hx
  cases x with
  | tmp t => exact h2 t (bB _ (List.mem_filterMap.2 ⟨.tmp t, hx, rfl⟩))
  | _ => rfl
 obtain ⟨b, g1, g2⟩ := hs
 refine ⟨b, by rw [← sH h2]; exact g1, g2.imp (fun g => ⟨g.1, ?_⟩) id⟩
 rcases g.2 with ⟨ac, k, kk⟩ | ⟨c, f, g, x, y, S, X, m, Y, k1, k2, k3, k4, k5, k6, k7, k8⟩ | ⟨c, f, g, x, y, k1, k2, k3, k4, k5⟩
 ·refine .inl ⟨ac, ?_, kk⟩
  rw [← MY hop (fun n hn => h3 n (.inl hn)) (fun hb n n1 n2 => h3 n (.inr (by simp [fW, hb, n1, n2])))]
  exact k
 ·have hf : dp T f = dp T' f := hop f (by rw [k1]; simp [Op.operands, Call.operands, k2])
  have hA : c.args.toList.map (dp T) = c.args.toList.map (dp T') := bA fun x hx => hop x (by rw [k1]; simp [Op.operands, Call.operands, Array.mem_toList_iff.1 hx])
  exact .inr (.inl ⟨c, f, g, x, y, S, X, m, Y, k1, k2, hf ▸ k3, k4, k5, k6, hA ▸ k7, k8⟩)
 ·have hf : dp T f = dp T' f := hop f (by rw [k1]; simp [Op.operands, Call.operands, k2])
  have hA : c.args.toList.map (dp T) = c.args.toList.map (dp T') := bA fun x hx => hop x (by rw [k1]; simp [Op.operands, Call.operands, Array.mem_toList_iff.1 hx])
  exact .inr (.inr ⟨c, f, g, x, y, k1, k2, hf ▸ k3, hA ▸ k4, k5⟩)
theorem AX {H H' : Heap} {E : TypeId} {s : Sh} {d : DV} {xs : List s.T} {u : List Nat} (h : ji H E s d = some (xs, u)) (he : ∀ n ∈ u, H n = H' n) : ji H' E s d = some (xs, u) := by
 cases d
 case rw n =>
  simp only [ji] at h ⊢
  cases hb : H n with
  | none => rw [hb] at h; cases h
  | some b =>
   have hn : n ∈ u := by
    rw [hb] at h
    cases b <;> simp only at h <;> try cases h
    split at h
    ·split at h
     ·simp only [ab, ah] at h
      rw [← h.2]; simp
     ·cases h
    ·cases h
   rw [← he n hn]
   exact h
 case sl n o l =>
  simp only [ji] at h ⊢
  cases hb : H n with
  | none => rw [hb] at h; cases h
  | some b =>
   have hn : n ∈ u := by
    rw [hb] at h
    cases b <;> simp only at h <;> try cases h
    split at h
    ·split at h
     ·split at h
      ·simp only [ab, ah] at h
       rw [← h.2]; simp
      ·cases h
     ·cases h
    ·cases h
   rw [← he n hn]
   exact h
 case sc v =>
  cases v with
  | slice a n c =>
   cases a with
   | none => exact h
   | some a => simp only [ji] at h; cases h
  | _ => simp only [ji] at h; cases h
 all_goals (simp only [ji] at h; cases h)
theorem yf : ∀ {l : List Nat} {T : List DV} {m m' : Met}, sq l T m = some m' → m'.u = m.u ∧ ∀ e ∈ m.σ, e ∈ m'.σ
 | [], T, m, m', h => by
  simp only [sq] at h
  split at h
  ·simp only [ab] at h; subst h; exact ⟨rfl, fun e he => he⟩
  ·cases h
 | i :: r, T, m, m', h => by
  simp only [sq] at h
  split at h
  ·split at h
   ·split at h
    ·exact yf h
    ·cases h
   ·obtain ⟨h1, h2⟩ := yf h
    exact ⟨h1, fun e he => h2 e (az _ he)⟩
  ·cases h
def Met.le (m m' : Met) : Prop := (∀ n ∈ m.u, n ∈ m'.u) ∧ ∀ e ∈ m.σ, e ∈ m'.σ
theorem Met.le.refl (m : Met) : m.le m := ⟨fun _ h => h, fun _ h => h⟩
theorem Met.le.trans {a b c : Met} (h : a.le b) (k : b.le c) : a.le c := ⟨fun n hn => k.1 n (h.1 n hn), fun e he => k.2 e (h.2 e he)⟩
theorem mo {H : Heap} : ∀ {ks : List IK} {T : List DV} {m m' : Met} {x : iI ks}, er H ks T m = some (x, m') → m.le m'
 | [], T, m, m', x, h => by
  simp only [er] at h
  split at h
  ·simp only [ab, ah] at h; rw [h.2]; exact .refl _
  ·cases h
 | .any :: r, T, m, m', x, h => by
  simp only [er] at h
  split at h
  ·exact mo h
  ·cases h
 | .val s :: r, T, m, m', x, h => by
  simp only [er] at h
  split at h
  ·split at h
   ·split at h
    ·rename_i hz
     simp only [ab, ah] at h
     rw [← h.2]
     exact mo hz
    ·cases h
   ·cases h
  ·cases h
 | .agf s F :: r, T, m, m', x, h => by
  simp only [er] at h
  split at h
  ·split at h
   ·split at h
    ·split at h
     ·rename_i hz
      simp only [ab, ah] at h
      rw [← h.2]
      exact mo hz
     ·cases h
    ·cases h
   ·cases h
  ·cases h
 | .row E s :: r, T, m, m', x, h => by
  simp only [er] at h
  split at h
  ·split at h
   ·split at h
    ·rename_i hz
     simp only [ab, ah] at h
     rw [← h.2]
     exact Met.le.trans (b := ⟨m.σ, _ ++ m.u⟩) ⟨fun n hn => bI _ hn, fun e he => he⟩ (mo hz)
    ·cases h
   ·cases h
  ·cases h
 | .obj i :: r, T, m, m', x, h => by
  simp only [er] at h
  split at h
  ·split at h
   ·split at h
    ·exact mo h
    ·cases h
   ·exact Met.le.trans (b := ⟨_ :: m.σ, m.u⟩) ⟨fun n hn => hn, fun e he => az _ he⟩ (mo h)
  ·cases h
 | .clo F is :: r, T, m, m', x, h => by
  simp only [er] at h
  split at h
  ·split at h
   ·split at h
    ·rename_i hp
     obtain ⟨h1, h2⟩ := yf hp
     exact Met.le.trans ⟨fun n hn => by rw [h1]; exact hn, h2⟩ (mo h)
    ·cases h
   ·cases h
  ·cases h
 | .tab ks vs :: r, T, m, m', x, h => by simp only [er] at h; cases h
theorem jC {H : Heap} : ∀ {ks : List IK} {T : List DV} {m m' : Met} {x : iI ks}, fH H ks T m = some (x, m') → m.le m'
 | [], T, m, m', x, h => by
  simp only [fH] at h
  split at h
  ·simp only [ab, ah] at h; rw [h.2]; exact .refl _
  ·cases h
 | .any :: r, T, m, m', x, h => by
  simp only [fH] at h
  split at h
  ·cases h
  ·exact jC h
  ·cases h
 | .val s :: r, T, m, m', x, h => by
  simp only [fH] at h
  split at h
  ·split at h
   ·rename_i hz
    simp only [ab, ah] at h
    rw [← h.2]
    exact jC hz
   ·cases h
  ·cases h
 | .agf s F :: r, T, m, m', x, h => by
  simp only [fH] at h
  split at h
  ·split at h
   ·split at h
    ·rename_i hz
     simp only [ab, ah] at h
     rw [← h.2]
     exact jC hz
    ·cases h
   ·cases h
  ·cases h
 | .row E s :: r, T, m, m', x, h => by
  simp only [fH] at h
  split at h
  ·split at h
   ·split at h
    ·rename_i hz
     simp only [ab, ah] at h
     rw [← h.2]
     exact Met.le.trans (b := ⟨m.σ, _ ++ m.u⟩) ⟨fun n hn => bI _ hn, fun e he => he⟩ (jC hz)
    ·cases h
   ·cases h
  ·cases h
 | .obj i :: r, T, m, m', x, h => by
  simp only [fH] at h
  split at h
  ·split at h
   ·split at h
    ·exact jC h
    ·cases h
   ·exact Met.le.trans (b := ⟨_ :: m.σ, m.u⟩) ⟨fun n hn => hn, fun e he => az _ he⟩ (jC h)
  ·cases h
 | .clo F is :: r, T, m, m', x, h => by
  simp only [fH] at h
  split at h
  ·split at h
   ·split at h
    ·rename_i hp
     obtain ⟨h1, h2⟩ := yf hp
     exact Met.le.trans ⟨fun n hn => by rw [h1]; exact hn, h2⟩ (jC h)
    ·cases h
   ·cases h
  ·cases h
 | .tab ks vs :: r, T, m, m', x, h => by simp only [fH] at h; cases h
theorem C2 {H : Heap} : ∀ {os : List (List IK)} {i : Nat} {m m' : Met} {x : qM os}, pO H i os m = some (x, m') → m.le m'
 | [], i, m, m', x, h => by
  simp only [pO, ab, ah] at h; rw [h.2]; exact .refl _
 | k :: r, i, m, m', x, h => by
  simp only [pO] at h
  split at h
  ·split at h
   ·split at h
    ·rename_i hc
     split at h
     ·rename_i hz
      simp only [ab, ah] at h
      rw [← h.2]
      exact (jC hc).trans (C2 hz)
     ·cases h
    ·cases h
   ·cases h
  ·cases h
theorem kq {H H' : Heap} : ∀ {ks : List IK} {T : List DV} {m m' : Met} {x : iI ks}, er H ks T m = some (x, m') → (∀ n ∈ m'.u, H n = H' n) → er H' ks T m = some (x, m')
 | [], T, m, m', x, h, he => h
 | .any :: r, T, m, m', x, h, he => by
  simp only [er] at h ⊢
  split at h
  ·exact kq h he
  ·cases h
 | .val s :: r, T, m, m', x, h, he => by
  simp only [er] at h ⊢
  split at h
  ·split at h
   ·rename_i hv
    split at h
    ·rename_i hz
     simp only [ab, ah] at h
     obtain ⟨h1, rfl⟩ := h
     simp only [hv, kq hz he, h1]
    ·cases h
   ·cases h
  ·cases h
 | .agf s F :: r, T, m, m', x, h, he => by
  simp only [er] at h ⊢
  split at h
  ·split at h
   ·rename_i hv
    split at h
    ·rename_i hF
     split at h
     ·rename_i hz
      simp only [ab, ah] at h
      obtain ⟨h1, rfl⟩ := h
      simp only [hv, hF, if_true, kq hz he, h1]
     ·cases h
    ·cases h
   ·cases h
  ·cases h
 | .row E s :: r, T, m, m', x, h, he => by
  simp only [er] at h ⊢
  split at h
  ·split at h
   ·rename_i hv
    split at h
    ·rename_i hz
     simp only [ab, ah] at h
     obtain ⟨h1, rfl⟩ := h
     have hle := (mo hz).1
     simp only [AX hv fun n hn => he n (hle n (bB _ hn)), kq hz he, h1]
    ·cases h
   ·cases h
  ·cases h
 | .obj i :: r, T, m, m', x, h, he => by
  simp only [er] at h ⊢
  split at h
  ·split at h
   ·rename_i hg
    split at h
    ·rename_i hn
     simp only [hg, hn, if_true]
     exact kq h he
    ·cases h
   ·exact kq h he
  ·cases h
 | .clo F is :: r, T, m, m', x, h, he => by
  simp only [er] at h ⊢
  split at h
  ·split at h
   ·rename_i hF
    split at h
    ·rename_i hp
     simp only [hF, if_true, hp]
     exact kq h he
    ·cases h
   ·cases h
  ·cases h
 | .tab ks vs :: r, T, m, m', x, h, he => by simp only [er] at h; cases h
theorem kr {H H' : Heap} : ∀ {ks : List IK} {T : List DV} {m m' : Met} {x : iI ks}, fH H ks T m = some (x, m') → (∀ n ∈ m'.u, H n = H' n) → fH H' ks T m = some (x, m')
 | [], T, m, m', x, h, he => h
 | .any :: r, T, m, m', x, h, he => by
  simp only [fH] at h ⊢
  split at h
  ·cases h
  ·exact kr h he
  ·cases h
 | .val s :: r, T, m, m', x, h, he => by
  simp only [fH] at h ⊢
  split at h
  ·rename_i hv
   split at h
   ·rename_i hz
    simp only [ab, ah] at h
    obtain ⟨h1, rfl⟩ := h
    simp only [hv, kr hz he, h1]
   ·cases h
  ·cases h
 | .agf s F :: r, T, m, m', x, h, he => by
  simp only [fH] at h ⊢
  split at h
  ·rename_i hv
   split at h
   ·rename_i hF
    split at h
    ·rename_i hz
     simp only [ab, ah] at h
     obtain ⟨h1, rfl⟩ := h
     simp only [hv, hF, if_true, kr hz he, h1]
    ·cases h
   ·cases h
  ·cases h
 | .row E s :: r, T, m, m', x, h, he => by
  simp only [fH] at h ⊢
  split at h
  ·split at h
   ·rename_i hv
    split at h
    ·rename_i hz
     simp only [ab, ah] at h
     obtain ⟨h1, rfl⟩ := h
     have hle := (jC hz).1
     simp only [AX hv fun n hn => he n (hle n (bB _ hn)), kr hz he, h1]
    ·cases h
   ·cases h
  ·cases h
 | .obj i :: r, T, m, m', x, h, he => by
  simp only [fH] at h ⊢
  split at h
  ·split at h
   ·rename_i hg
    split at h
    ·rename_i hn
     simp only [hg, hn, if_true]
     exact kr h he
    ·cases h
   ·exact kr h he
  ·cases h
 | .clo F is :: r, T, m, m', x, h, he => by
  simp only [fH] at h ⊢
  split at h
  ·split at h
   ·rename_i hF
    split at h
    ·rename_i hp
     simp only [hF, if_true, hp]
     exact kr h he
    ·cases h
   ·cases h
  ·cases h
 | .tab ks vs :: r, T, m, m', x, h, he => by simp only [fH] at h; cases h
theorem get_mem {m : Met} {i n : Nat} (h : m.get i = some n) : (i, n) ∈ m.σ := by
 unfold Met.get at h
 obtain ⟨e, h1, h2⟩ := Option.map_eq_some_iff.1 h
 have h3 := ca h1
 have h4 := cb h1
 simp only [af] at h3
 obtain ⟨a, b⟩ := e
 simp only at h2 h3
 rw [← h2, ← h3]
 exact h4
theorem FE {H H' : Heap} : ∀ {os : List (List IK)} {i : Nat} {m m' : Met} {x : qM os}, pO H i os m = some (x, m') → (∀ n, n ∈ m'.u ∨ n ∈ m'.σ.map (·.2) → H n = H' n) → pO H' i os m = some (x, m')
 | [], i, m, m', x, h, he => h
 | k :: r, i, m, m', x, h, he => by
  simp only [pO] at h ⊢
  split at h
  ·rename_i n hg
   split at h
   ·rename_i cs hn
    split at h
    ·rename_i hc
     split at h
     ·rename_i hz
      simp only [ab, ah] at h
      obtain ⟨h1, rfl⟩ := h
      have l1 := jC hc
      have l2 := C2 hz
      have hH : H n = H' n := he n (.inr (List.mem_map.2 ⟨_, l2.2 _ (l1.2 _ (get_mem hg)), rfl⟩))
      simp only [hg, ← hH, hn, kr hc fun n hn => he n (.inl (l2.1 n hn)), FE hz he, h1]
     ·cases h
    ·cases h
   ·cases h
  ·cases h
theorem NK {t : Tmpl} {A : List DV} {H H' : Heap} {m0 m : Met} {X : t.Ty} (h : t.pr m0 A H = some (X, m)) (he : ∀ n, n ∈ m.u ∨ n ∈ m.σ.map (·.2) → H n = H' n) : t.pr m0 A H' = some (X, m) := by
 unfold Tmpl.pr at h ⊢
 split at h
 ·rename_i h1
  split at h
  ·rename_i h2
   split at h
   ·rename_i h3
    simp only [ab, ah] at h
    obtain ⟨h4, rfl⟩ := h
    simp only [kq h1 fun n hn => he n (.inl ((C2 h2).1 n hn)), FE h2 he, h3, if_true, h4]
   ·cases h
  ·cases h
 ·cases h
theorem Iq {t : Tmpl} {A : List DV} {H : Heap} {m0 m : Met} {X : t.Ty} (h : t.pr m0 A H = some (X, m)) : kD (m.σ.map (·.1)) = true := by
 unfold Tmpl.pr at h
 split at h
 ·split at h
  ·split at h
   ·rename_i h3
    simp only [ab, ah] at h
    simp only [am] at h3
    rw [← h.2]
    exact h3.1.2
   ·cases h
  ·cases h
 ·cases h
theorem KD {H H' : Heap} {m : Met} {n : Nat} (h : H n = H' n) : ((dn m.u H).away m) n = ((dn m.u H').away m) n := by
 unfold Heap.away
 split
 ·rfl
 ·rw [iQ, iQ, h]
theorem KE {t : Tmpl} {ρ : Nam} {H H' : Heap} (h : t.free ρ H = true) (he : ∀ n ∈ t.names ρ, H n = H' n) : t.free ρ H' = true := by
 unfold Tmpl.free at h ⊢
 simp only [am, aJ] at h ⊢
 exact ⟨h.1, fun n hn => by rw [← he n hn]; exact h.2 n hn⟩
theorem Ir (h : Agr (o.looksAt ops) (fun n => n ∈ act.W) (T, H) (T', H')) (hs : rb cx ops o T H v act) : rb cx ops o T' H' v act := by
 obtain ⟨h1, h2, h3⟩ := h
 have hop : ∀ x ∈ o.op.operands.toList, dp T x = dp T' x := by
  intro x hx
  cases x with
  | tmp t => exact h2 t (bB _ (List.mem_filterMap.2 ⟨.tmp t, hx, rfl⟩))
  | _ => rfl
 obtain ⟨g1, c, f, g, x, y, S, X, m, Y, b, k1, k2, k3, k4, k5, k6, k7, k8, k9, k10⟩ := hs
 have hf : dp T f = dp T' f := hop f (by rw [k1]; simp [Op.operands, Call.operands, k2])
 have hA : c.args.toList.map (dp T) = c.args.toList.map (dp T') := bA fun x hx => hop x (by rw [k1]; simp [Op.operands, Call.operands, Array.mem_toList_iff.1 hx])
 have hW : ∀ n, n ∈ m.σ.map (·.2) ∨ n ∈ m.u ∨ n ∈ S.tout.names (j6 b m) → H n = H' n := fun n hn => h3 n (by
  show n ∈ act.W
  rw [k10]
  simp only [ay]
  rcases hn with hn | hn | hn
  ·exact .inl (.inl hn)
  ·exact .inl (.inr hn)
  ·exact .inr hn)
 refine ⟨by rw [← sH h2]; exact g1, c, f, g, x, y, S, X, m, Y, b, k1, k2, hf ▸ k3, k4, k5, ?_, k7, ?_, k9, k10⟩
 ·rw [← hA]
  exact NK k6 fun n hn => hW n (hn.elim (fun h => .inr (.inl h)) .inl)
 ·exact KE k8 fun n hn => KD (hW n (.inr (.inr hn)))
theorem GG {s : Sh} {y : DV} {ys : List s.T} (h : eJ H s y = some ys) (he : ∀ n ∈ gO y, H n = H' n) : eJ H' s y = some ys := by
 cases y
 case rw n =>
  have := he n (by simp [gO])
  simp only [eJ] at h ⊢
  rw [← this]; exact h
 case sl n o l =>
  have := he n (by simp [gO])
  simp only [eJ] at h ⊢
  rw [← this]; exact h
 case sc v =>
  cases v with
  | slice a n c =>
   cases a with
   | none => exact h
   | some a => simp only [eJ] at h; cases h
  | _ => simp only [eJ] at h; cases h
 case vs s' xs => exact h
 all_goals (simp only [eJ] at h; cases h)
theorem vO {P : Program} {E : TypeId} {s : Sh} {x : DV} {ys : List s.T} {k : DV → Act2 → Option α} : dZ P d o E s x ys H k = (dZ P d o E s x ys H fun v a => some (v, a)).bind fun e => k e.1 e.2 := by
 unfold dZ
 repeat' split
 all_goals rfl
theorem ET {P : Program} {E : TypeId} {s : Sh} {x : DV} {ys : List s.T} {p : DV × Act2} (h : dZ P d o E s x ys H (fun v a => some (v, a)) = some p) (he : ∀ n, n ∈ gO x ∨ n ∈ p.2.W → H n = H' n) : dZ P d o E s x ys H' (fun v a => some (v, a)) = some p := by
 cases x
 case rw n =>
  have := he n (.inl (by simp [gO]))
  simp only [dZ] at h ⊢
  rw [← this]; exact h
 case sl n o l =>
  have := he n (.inl (by simp [gO]))
  simp only [dZ] at h ⊢
  rw [← this]; exact h
 case sc v =>
  cases v with
  | slice a n c =>
   cases a with
   | none =>
    simp only [dZ] at h ⊢
    split at h
    ·rename_i h1
     rw [if_pos h1]
     split at h
     ·rename_i h2
      simp only [ab] at h
      have := he (base d o.dst) (.inr (by rw [← h]; simp))
      rw [← this, h2]
      simp only [h]
     ·cases h
    ·cases h
   | some a => simp only [dZ] at h; cases h
  | _ => simp only [dZ] at h; cases h
 all_goals (simp only [dZ] at h; cases h)
theorem Is (h : Agr (o.looksAt ops) (fun n => n ∈ eP T o ++ act.W) (T, H) (T', H')) (hs : ye cx d ops o T H v act) : ye cx d ops o T' H' v act := by
 obtain ⟨h1, h2, h3⟩ := h
 have hop : ∀ x ∈ o.op.operands.toList, dp T x = dp T' x := by
  intro x hx
  cases x with
  | tmp t => exact h2 t (bB _ (List.mem_filterMap.2 ⟨.tmp t, hx, rfl⟩))
  | _ => rfl
 obtain ⟨g1, c, x, y, t, e, s, ys, k1, k2, k3, k4, k5, k6, k7, k8, k9⟩ := hs
 have hxm : x ∈ o.op.operands.toList := by rw [k1]; simp [Op.operands, Call.operands, k2, k3]
 have hym : y ∈ o.op.operands.toList := by rw [k1]; simp [Op.operands, Call.operands, k2, k3]
 have hr : ∀ z ∈ o.op.operands.toList, ∀ n ∈ gO (dp T z), H n = H' n := fun z hz n hn => h3 n (by
  refine bB _ ?_
  unfold eP
  have hl : sw o = true := by unfold sw; rw [k1]
  rw [if_pos hl]
  exact List.mem_flatMap.2 ⟨z, hz, hn⟩)
 refine ⟨by rw [← sH h2]; exact g1, c, x, y, t, e, s, ys, k1, k2, k3, k4, k5, k6, k7, ?_, ?_⟩
 ·rw [← hop y hym]
  exact GG k8 (hr y hym)
 ·rw [← hop x hxm]
  exact ET k9 fun n hn => hn.elim (hr x hxm n) (fun hn => h3 n (bI _ hn))
theorem pF {x y : Did} (h : iq d ops x y = true) : (∀ n ∈ x.w, n ∉ y.r ∧ n ∉ y.w ∧ fW d y.o n = false) ∧ (∀ n ∈ y.w, n ∉ x.r ∧ fW d x.o n = false) ∧ x.o.apart ops y.o = true ∧ (x.u ≠ [] → e8 x.u y.h = true ∧ lF x.u x.H d y.o = true ∧ (∀ n ∈ y.r, e8 x.u (l4 (x.H n)) = true) ∧ ∀ t ∈ y.o.looksAt ops, e8 x.u (x.T.getD t .undef).rows = true) ∧ (y.u ≠ [] → e8 y.u x.h = true ∧ lF y.u x.H d x.o = true) := by
 unfold iq Gw Gv at h
 simp only [am, aJ, aI, b8, cm, decide_eq_false_iff_not, List.isEmpty_iff] at h
 obtain ⟨⟨h1, h2, h3, h4⟩, h5⟩ := h
 refine ⟨fun n hn => ?_, fun n hn => ?_, h5, fun hc => ?_, fun hc => ?_⟩
 ·obtain ⟨a, b, c⟩ := h1 n hn
  exact ⟨a, b, c⟩
 ·exact h2 n hn
 ·rcases h3 with h3 | h3
  ·exact absurd h3 hc
  ·exact ⟨h3.1, h3.2.1, h3.2.2.1, h3.2.2.2⟩
 ·rcases h4 with h4 | h4
  ·exact absurd h4 hc
  ·exact h4
theorem vP {u : List Nat} {H : Heap} {o : Oper} {n : Nat} (h : lF u H d o = true) (hn : fW d o n = true) : e8 u (l4 (H n)) = true := by
 unfold fW at hn
 simp only [am, aw] at hn
 unfold lF at h
 rw [hn.1.1] at h
 simp only [cn, co, aJ, bn] at h
 have := h (n - base d o.dst) (by omega)
 rw [show base d o.dst + (n - base d o.dst) = n by omega] at this
 exact this
structure Rec.Fit (ops : Array Oper) (e : Rec) (s : St) : Prop where
 T : e.T = s.1
 H : e.H = s.2
 h : e.h = Cr ops s.1 s.2 e.o e.v e.r e.act
 u : ∀ n ∈ e.act.u, n ∈ e.act.W
variable {s s' : St}
theorem Rec.Fit.rows {e : Rec} (he : e.Fit ops s) {u : List Nat} (h : e8 u e.h = true) : e8 u e.v.rows = true ∧ (∀ t ∈ e.o.looksAt ops, e8 u (s.1.getD t .undef).rows = true) ∧ (∀ n ∈ e.r, e8 u (l4 (s.2 n)) = true) ∧ ∀ n ∈ e.act.W, e8 u (l4 (e.act.B n)) = true := by
 rw [he.h, disjB_iff] at h
 unfold Cr at h
 simp only [ay, not_or, List.mem_flatMap, not_exists, not_and] at h
 exact ⟨disjB_iff.2 fun n hn => (h n hn).1, fun t ht => disjB_iff.2 fun n hn => (h n hn).2.1 t ht, fun q hq => disjB_iff.2 fun n hn => (h n hn).2.2.1 q hq, fun q hq => disjB_iff.2 fun n hn => (h n hn).2.2.2 q hq⟩
theorem KF {e f : Rec} (he : e.Fit ops s) (h : iq d ops e.did f.did = true) : yb e (f.o.looksAt ops) (fun n => n ∈ f.r ∨ fW d f.o n = true) s := by
 obtain ⟨h1, h2, h3, h4, h5⟩ := pF h
 obtain ⟨g1, g2, g3⟩ := Oper.apart_spec h3
 refine ⟨fun t ht => g1 t ht, fun n hn => ?_, fun n hn => ?_, fun t ht => ?_⟩
 ·obtain ⟨k1, k2, k3⟩ := h1 n hn
  rintro (k | k)
  ·exact k1 k
  ·have k3' : fW d f.o n = false := k3
   rw [k3'] at k; cases k
 ·by_cases hu : e.act.u = []
  ·rw [hu]; rfl
  ·obtain ⟨q1, q2, q3, q4⟩ := h4 hu
   rcases hn with hnr | k
   ·refine fX (fun hu => ?_) (by rw [← he.H]; exact q3 n hnr)
    exact (h1 n (he.u n hu)).1 hnr
   ·refine fX (fun hu => ?_) (by rw [← he.H]; exact vP q2 k)
    have k3 : fW d f.o n = false := (h1 n (he.u n hu)).2.2
    rw [k3] at k; cases k
 ·by_cases hu : e.act.u = []
  ·rw [hu]; rfl
  ·obtain ⟨q1, q2, q3, q4⟩ := h4 hu
   rw [← he.T]
   exact l6 (q4 t ht)
theorem It {e f : Rec} (he : e.Fit ops s) (hf : f.Fit ops s') (h : iq d ops e.did f.did = true) : yb f (e.o.looksAt ops) (fun n => n ∈ e.r ∨ fW d e.o n = true) s := by
 obtain ⟨h1, h2, h3, h4, h5⟩ := pF h
 obtain ⟨g1, g2, g3⟩ := Oper.apart_spec h3
 refine ⟨fun t ht => g3 t ht, fun n hn => ?_, fun n hn => ?_, fun t ht => ?_⟩
 ·obtain ⟨k1, k2⟩ := h2 n hn
  rintro (k | k)
  ·exact k1 k
  ·have k2' : fW d e.o n = false := k2
   rw [k2'] at k; cases k
 ·by_cases hu : f.act.u = []
  ·rw [hu]; rfl
  ·obtain ⟨q1, q2⟩ := h5 hu
   rcases hn with hnr | k
   ·refine fX (fun hu => ?_) ((he.rows q1).2.2.1 n hnr)
    exact (h2 n (hf.u n hu)).1 hnr
   ·refine fX (fun hu => ?_) (by rw [← he.H]; exact vP q2 k)
    have k2 : fW d e.o n = false := (h2 n (hf.u n hu)).2
    rw [k2] at k; cases k
 ·by_cases hu : f.act.u = []
  ·rw [hu]; rfl
  ·obtain ⟨q1, q2⟩ := h5 hu
   exact l6 ((he.rows q1).2.1 t ht)
theorem NL {e f : Rec} (he : e.Fit ops s) (hf : f.Fit ops s') (h : iq d ops e.did f.did = true) : Com e f := by
 obtain ⟨h1, h2, h3, h4, h5⟩ := pF h
 obtain ⟨g1, g2, g3⟩ := Oper.apart_spec h3
 have nil : ∀ h, e8 [] h = true := fun h => rfl
 refine ⟨fun t ht => g2 t ht, fun n hn => (h1 n hn).2.1, fun n hn => ?_, fun n hn => ?_, ?_, ?_⟩
 ·by_cases hu : f.act.u = []
  ·rw [hu]; rfl
  ·refine fX (fun hu => ?_) ((he.rows (h5 hu).1).2.2.2 n hn)
   exact (h1 n hn).2.1 (hf.u n hu)
 ·by_cases hu : e.act.u = []
  ·rw [hu]; rfl
  ·refine fX (fun hu => ?_) ((hf.rows (h4 hu).1).2.2.2 n hn)
   exact (h1 n (he.u n hu)).2.1 hn
 ·by_cases hu : e.act.u = []
  ·rw [hu]; rfl
  ·exact (hf.rows (h4 hu).1).1
 ·by_cases hu : f.act.u = []
  ·rw [hu]; rfl
  ·exact (he.rows (h5 hu).1).1
end
def iu (P : Program) (f : FuncId) (S : FS) : Prop := ∀ {α : Type} {I : In} {w : World} {H : Heap} {A : List DV} {args : List Value} {ρ : Nam} {k : DV → Heap → Option (List Nat) → Option α} {r : α} {x : S.tin.Ty} {m : Met}, HR I w H → LR I w A args → S.tin.pr ⟨[], []⟩ A H = some (x, m) → (∀ i n, (i, n) ∈ m.σ → ρ.o i = n) →
 ((S.fn x).bind fun y => if S.tout.free ρ ((dn m.u H).away m) = true then k (ii (S.tout.T ρ (S.out y))) (S.tout.H ρ (S.out y) ((dn m.u H).away m)) (some m.u) else none) = some r →
 Calls P f args.toArray w (zP fun z w' => ∃ I' v H' u, k v H' u = some r ∧ Ext I w I' w' ∧ HR I' w' H' ∧ VR I' w' v z ∧ Kz u I I')
theorem jm {ρ : Nam} : ∀ {ks : List IK} {c : Nat} {x : iI ks} {H : Heap} {n : Nat}, n ∉ dS ρ c ks → e7 ρ c ks x H n = H n
 | [], c, x, H, n, h => rfl
 | .any :: r, c, x, H, n, h => jm (ks := r) h
 | .val s :: r, c, x, H, n, h => jm (ks := r) h
 | .agf s F :: r, c, x, H, n, h => jm (ks := r) h
 | .obj i :: r, c, x, H, n, h => jm (ks := r) h
 | .clo F is :: r, c, x, H, n, h => jm (ks := r) h
 | .tab ks vs :: r, c, x, H, n, h => jm (ks := r) h
 | .row E s :: r, c, x, H, n, h => by
  simp only [dS, aA, not_or] at h
  show e7 ρ (c + 1) r x.2 (H.set (ρ.r c) (some (.row E s x.1))) n = H n
  rw [jm (ks := r) h.2]
  simp only [Heap.set, h.1, ax]
theorem iv {ρ : Nam} : ∀ {ks : List IK} {c : Nat} {x : iI ks} {H H' : Heap} {n : Nat}, n ∈ dS ρ c ks ∨ H n = H' n → e7 ρ c ks x H n = e7 ρ c ks x H' n
 | [], c, x, H, H', n, h => h.elim (fun h => by cases h) id
 | .any :: r, c, x, H, H', n, h => iv (ks := r) h
 | .val s :: r, c, x, H, H', n, h => iv (ks := r) h
 | .agf s F :: r, c, x, H, H', n, h => iv (ks := r) h
 | .obj i :: r, c, x, H, H', n, h => iv (ks := r) h
 | .clo F is :: r, c, x, H, H', n, h => iv (ks := r) h
 | .tab ks vs :: r, c, x, H, H', n, h => iv (ks := r) h
 | .row E s :: r, c, x, H, H', n, h => by
  refine iv (ks := r) ?_
  simp only [dS, aA] at h
  simp only [Heap.set]
  rcases h with (h | h) | h
  ·right; simp [h]
  ·exact .inl h
  ·right
   split
   ·rfl
   ·exact h
theorem FF {ρ : Nam} : ∀ {os : List (List IK)} {i : Nat} {x : qM os} {H : Heap} {n : Nat}, n ∉ fV ρ i os → sn ρ i os x H n = H n
 | [], i, x, H, n, h => rfl
 | k :: r, i, x, H, n, h => by
  simp only [fV, aA, ay, not_or] at h
  show sn ρ (i + 1) r x.2 (e7 ρ (1000 * (i + 1)) k x.1 (H.set (ρ.o i) (some (.obj (oE ρ (1000 * (i + 1)) k x.1))))) n = H n
  rw [FF (os := r) h.2.2, jm h.2.1]
  simp only [Heap.set, h.1, ax]
theorem Iu {ρ : Nam} : ∀ {os : List (List IK)} {i : Nat} {x : qM os} {H H' : Heap} {n : Nat}, n ∈ fV ρ i os ∨ H n = H' n → sn ρ i os x H n = sn ρ i os x H' n
 | [], i, x, H, H', n, h => h.elim (fun h => by cases h) id
 | k :: r, i, x, H, H', n, h => by
  refine Iu (os := r) ?_
  simp only [fV, aA, ay] at h
  have hset : n = ρ.o i ∨ H n = H' n → (H.set (ρ.o i) (some (.obj (oE ρ (1000 * (i + 1)) k x.1)))) n = (H'.set (ρ.o i) (some (.obj (oE ρ (1000 * (i + 1)) k x.1)))) n := fun h => by
   simp only [Heap.set]
   rcases h with h | h
   ·simp [h]
   ·split
    ·rfl
    ·exact h
  rcases h with (h | h | h) | h
  ·exact .inr (iv (.inr (hset (.inl h))))
  ·exact .inr (iv (.inl h))
  ·exact .inl h
  ·exact .inr (iv (.inr (hset (.inr h))))
theorem yg {t : Tmpl} {ρ : Nam} {x : t.Ty} {H : Heap} {n : Nat} (h : n ∉ t.names ρ) : t.H ρ x H n = H n := by
 simp only [Tmpl.names, ay, not_or] at h
 unfold Tmpl.H
 rw [jm h.1, FF h.2]
theorem Iv {t : Tmpl} {ρ : Nam} {x : t.Ty} {H H' : Heap} {n : Nat} (h : n ∈ t.names ρ) : t.H ρ x H n = t.H ρ x H' n := by
 simp only [Tmpl.names, ay] at h
 unfold Tmpl.H
 rcases h with h | h
 ·exact iv (.inl h)
 ·exact iv (.inr (Iu (.inl h)))
theorem NM {t : Tmpl} {ρ : Nam} {z : t.Ty} {m : Met} {H : Heap} : t.H ρ z ((dn m.u H).away m) = H.act2 ⟨m.u, m.σ.map (·.2) ++ m.u ++ t.names ρ, t.H ρ z fun _ => none⟩ := by
 funext n
 show _ = if (m.σ.map (·.2) ++ m.u ++ t.names ρ).contains n = true then t.H ρ z (fun _ => none) n else dn m.u H n
 by_cases hn : n ∈ t.names ρ
 ·have c : (m.σ.map (·.2) ++ m.u ++ t.names ρ).contains n = true := by simp [hn]
  rw [if_pos c]
  exact Iv hn
 ·have hB : t.H ρ z (fun _ => none) n = none := yg hn
  rw [yg hn, hB]
  unfold Heap.away
  by_cases hs : n ∈ m.σ.map (·.2)
  ·have c : (m.σ.map (·.2) ++ m.u ++ t.names ρ).contains n = true := by
    simp only [cm, ay, hs, true_or, decide_true]
   have c2 : (m.σ.any fun e => e.2 == n) = true := by
    obtain ⟨e, e1, e2⟩ := List.mem_map.1 hs
    exact List.any_eq_true.2 ⟨e, e1, by simpa using e2⟩
   rw [if_pos c, if_pos c2]
  ·have c2 : ¬ (m.σ.any fun e => e.2 == n) = true := fun h => by
    obtain ⟨e, e1, e2⟩ := List.any_eq_true.1 h
    exact hs (List.mem_map.2 ⟨e, e1, by simpa using e2⟩)
   rw [if_neg c2]
   by_cases hu : n ∈ m.u
   ·have c : (m.σ.map (·.2) ++ m.u ++ t.names ρ).contains n = true := by
     simp only [cm, ay, hu, or_true, true_or, decide_true]
    rw [if_pos c, iQ]
    have : ∀ (u : List Nat) (b : Option Blk), n ∈ u → eB u n b = none := by
     intro u
     induction u with
     | nil => intro b h; cases h
     | cons k u ih =>
      intro b h
      rw [vK]
      by_cases e : n = k
      ·rw [if_pos e]; exact pC u n
      ·rw [if_neg e]
       rcases aA.1 h with h | h
       ·exact absurd h e
       ·exact ih _ h
    exact this m.u _ hu
   ·have c : ¬ (m.σ.map (·.2) ++ m.u ++ t.names ρ).contains n = true := by
     simp only [cm, ay, hs, hu, hn, or_self, decide_false]
     decide
    rw [if_neg c]
def sI (P : Program) (f : FuncId) (S : FS) : Prop := ∀ {I : In} {w : World} {H : Heap} {A : List DV} {args : List Value} {X : S.tin.Ty} {m : Met} {Y : S.R}, HR I w H → LR I w A args → S.tin.pr ⟨[], []⟩ A (fun _ => none) = some (X, m) → S.fn X = some Y →
 Calls P f args.toArray w (zP fun z w' => ∃ I', Ext I w I' w' ∧ Rows I I' ∧ HR I' w' H ∧ VR I' w' (ii (S.tout.T dB (S.out Y))) z)
def Cs (P : Program) (g : FuncId) (t : Nat × List (List Int) × List FuncId) : Prop := ∀ {I : In} {w : World} {H : Heap} {A : List DV} {args : List Value}, HR I w H → LR I w A args → A.length = t.1 → A.all Gx = true →
 Calls P g args.toArray w (zP fun z w' => ∃ I', Ext I w I' w' ∧ Rows I I' ∧ HR I' w' H ∧ VR I' w' (.tab t.2.1 (t.2.2.map fun F => .fn (.func F) A [])) z)
theorem vQ {cx : Cx} {g : FuncId} {A : List DV} {v : DV} (h : nN cx g A = some v) : iF cx.P g = true ∧ ∃ t, cx.tabs g = some t ∧ A.length = t.1 ∧ A.all Gx = true ∧ v = .tab t.2.1 (t.2.2.map fun F => .fn (.func F) A []) := by
 unfold nN at h
 split at h
 ·rename_i he
  split at h
  ·rename_i n ks Fs ht
   split at h
   ·rename_i hn
    split at h
    ·rename_i hp
     simp only [ab] at h
     exact ⟨he, _, ht, hn, hp, h.symm⟩
    ·cases h
   ·cases h
  ·cases h
 ·cases h
theorem sJ : ∀ {l : List Nat}, kD l = true → l.Nodup
 | [], h => List.nodup_nil
 | a :: r, h => by
  simp only [kD, am, b8, cm, decide_eq_false_iff_not] at h
  exact bJ.2 ⟨h.1, sJ h.2⟩
theorem yh {m : Met} {i n : Nat} (hk : (m.σ.map (·.1)).Nodup) (h : (i, n) ∈ m.σ) : m.get i = some n := by
 unfold Met.get
 generalize m.σ = l at hk h
 induction l with
 | nil => cases h
 | cons e r ih =>
  simp only [List.map_cons, bJ] at hk
  simp only [List.find?_cons]
  rcases aA.1 h with h1 | h1
  ·subst h1; simp
  ·have : (e.1 == i) = false := by
    rw [aP]
    intro e1
    exact hk.1 (List.mem_map.2 ⟨(i, n), h1, e1.symm⟩)
   rw [this]
   exact ih hk.2 h1
section
variable {α : Type} {cx : Cx} {d : Nat} {ops : Array Oper} {o : Oper} {I : In} {w : World} {T T' : List DV} {H H' : Heap} {a : Act} {v : DV} {act : Act2}
theorem rc {b : Bool} (hT : TR I w T a) (h : ik ops o T = some b) : Region.wanted o (yielded ops a.tmps) = b := by
 unfold ik at h
 unfold Region.wanted
 split at h
 ·rename_i hg
  rw [hg]
  simpa using h
 ·rename_i j want hg
  rw [hg]
  split at h
  ·rename_i g hj
   split at h
   ·rename_i b' hb
    have := vH hT hj hb
    simp only [this]
    simp only [ab] at h
    rw [← h]
    cases b' <;> cases want <;> rfl
   ·rename_i hb
    have := vI hT hj hb
    simp only [this]
    simp only [ab] at h
    rw [← h]
    rfl
   ·cases h
  ·cases h
theorem KG (hp : ∀ g S, S ∈ cx.specs g → FS.pure S = true → sI cx.P g S) (ht : ∀ g t, cx.tabs g = some t → Cs cx.P g t) (hT : TR I w T a) (hH : HR I w H) (h : yd cx d ops o T H v act) {K : Act → World → Prop} {Q : Exit → Act → World → Prop}
  (hk : ∀ I' w' u, Ext I w I' w' → HR I' w' (H.act2 act) → TR I' w' (dF (dK act.u T) o.dst v) (a.put o.dst u) → K (a.put o.dst u) w') : if Region.wanted o (yielded ops a.tmps) then o.wp cx.P a w K Q ∨ (o.asks cx.P a w ∧ LetsOut Q) else K (a.put o.dst undef) w := by
 obtain ⟨b, h1, h2⟩ := h
 rw [rc hT h1]
 rcases h2 with ⟨rfl, h2⟩ | ⟨rfl, rfl, rfl⟩
 ·rw [if_pos rfl]
  refine .inl ?_
  rcases h2 with ⟨ac, h2, rfl⟩ | ⟨c, f, g, x, y, S, X, m, Y, k1, k2, k3, k4, k5, k6, k7, k8, rfl, rfl⟩ | ⟨c, f, g, x, y, k1, k2, k3, k4, rfl⟩
  ·obtain ⟨v', act', g1, g2⟩ := Ij hT hH h2
   simp only [ab, ah] at g1
   obtain ⟨rfl, rfl⟩ := g1
   have hu : (Act2.of act').u = [] := by cases act' <;> rfl
   rw [zQ, hu] at hk
   exact (g2.goes hT hH).wp hk
  ·obtain ⟨x', y', e1, e2⟩ := oN (c := c) hT k3
   unfold Oper.wp
   rw [oO k1 k2 e1 (oM k4), Oper.upon_enter]
   refine Calls.mono (hp g S k5 k6 hH e2 k7 k8) ?_
   rintro e w' he
   cases e with
   | returned z =>
    obtain ⟨I', m1, m2, m3, m4⟩ := he
    have hs : Same I I' w w' := ⟨m1.keeps hH, m1.obj, m2.row⟩
    exact hk I' w' z m1 m3 ((hT.keep hs).put _ m4)
   | _ => exact he.elim
  ·obtain ⟨x', y', e1, e2⟩ := oN (c := c) hT k3
   obtain ⟨he, t, ht', hl, hpt, rfl⟩ := vQ k4
   unfold Oper.wp
   rw [oO k1 k2 e1 (oM he), Oper.upon_enter]
   refine Calls.mono (ht g t ht' hH e2 hl hpt) ?_
   rintro e w' he
   cases e with
   | returned z =>
    obtain ⟨I', m1, m2, m3, m4⟩ := he
    have hs : Same I I' w w' := ⟨m1.keeps hH, m1.obj, m2.row⟩
    exact hk I' w' z m1 m3 ((hT.keep hs).put _ m4)
   | _ => exact he.elim
 ·rw [if_neg (by simp)]
  exact hk I w undef (Ext.refl I w) hH (uZ hT o.dst)
theorem KH (hs : ∀ g S, S ∈ cx.specs g → iu cx.P g S) (hT : TR I w T a) (hH : HR I w H) (h : rb cx ops o T H v act) {K : Act → World → Prop} {Q : Exit → Act → World → Prop}
  (hk : ∀ I' w' u, Ext I w I' w' → HR I' w' (H.act2 act) → TR I' w' (dF (dK act.u T) o.dst v) (a.put o.dst u) → K (a.put o.dst u) w') : if Region.wanted o (yielded ops a.tmps) then o.wp cx.P a w K Q ∨ (o.asks cx.P a w ∧ LetsOut Q) else K (a.put o.dst undef) w := by
 obtain ⟨h1, c, f, g, x, y, S, X, m, Y, b, k1, k2, k3, k4, k5, k6, k7, k8, rfl, rfl⟩ := h
 rw [rc hT h1, if_pos rfl]
 refine .inl ?_
 obtain ⟨x', y', e1, e2⟩ := oN (c := c) hT k3
 have hkey := sJ (Iq k6)
 have hρ : ∀ i n, (i, n) ∈ m.σ → (j6 b m).o i = n := fun i n hin => by
  have hg : m.get i = some n := yh hkey hin
  simp only [j6, hg]
 unfold Oper.wp
 rw [oO k1 k2 e1 (oM k4), Oper.upon_enter]
 refine Calls.mono (hs g S k5 (k := fun v H u => some (v, H, u)) hH e2 k6 hρ (by rw [k7, ae, if_pos k8])) ?_
 rintro e w' he
 cases e with
 | returned z =>
  obtain ⟨I', v', H', u, m1, m2, m3, m4, m5⟩ := he
  simp only [ab, ah] at m1
  obtain ⟨rfl, rfl, rfl⟩ := m1
  rw [NM] at m3
  exact hk I' w' z m2 m3 ((CT hT hH m2 m5).put _ m4)
 | _ => exact he.elim
theorem Iw {P : Program} {E : TypeId} {s : Sh} {x : DV} {ys : List s.T} {k : List DV → Heap → Option α} (h : dZ P d o E s x ys H (fun v a => some (v, a)) = some (v, act)) : iE P d o E s x ys T H k = k (dF (dK act.u T) o.dst v) (H.act2 act) := by
 have one : ∀ n (b : Blk), ((H.sub n .none).set n (some b)) = H.act2 ⟨[n], [n], fun _ => some b⟩ := fun n b => by
  funext m
  simp only [Heap.set, Heap.act2]
  by_cases e : m = n
  ·simp [e]
  ·simp [e]
   rfl
 cases x
 case rw n =>
  simp only [dZ] at h
  simp only [iE]
  split at h
  ·split at h
   ·rename_i hE
    split at h
    ·split at h
     ·rename_i hc
      simp only [ab, ah] at h
      obtain ⟨rfl, rfl⟩ := h
      simp only [hE, if_true, hc, one]
      rfl
     ·cases h
    ·cases h
   ·cases h
  ·cases h
 case sl n z l =>
  simp only [dZ] at h
  simp only [iE]
  split at h
  ·split at h
   ·rename_i hz
    split at h
    ·rename_i hE
     split at h
     ·split at h
      ·rename_i hc
       simp only [ab, ah] at h
       obtain ⟨rfl, rfl⟩ := h
       simp only [hz, hE, if_true, hc, one]
       rfl
      ·cases h
     ·cases h
    ·cases h
   ·cases h
  ·cases h
 case sc v' =>
  cases v' with
  | slice ad n c =>
   cases ad with
   | none =>
    simp only [dZ] at h
    simp only [iE]
    split at h
    ·rename_i hc
     rw [if_pos hc]
     split at h
     ·rename_i hb
      simp only [ab, ah] at h
      obtain ⟨rfl, rfl⟩ := h
      have hf : kC H 63 (base d o.dst) = base d o.dst := by
       unfold kC
       rw [hb]
      unfold fM
      simp only [hf, hb]
      have : H.act (some (base d o.dst, .row E s ys)) = H.act2 ⟨[], [base d o.dst], fun _ => some (.row E s ys)⟩ := (zQ H (some (base d o.dst, .row E s ys))).symm
      rw [this]
      rfl
     ·cases h
    ·cases h
   | some ad => simp only [dZ] at h; cases h
  | _ => simp only [dZ] at h; cases h
 all_goals (simp only [dZ] at h; cases h)
theorem KI (hT : TR I w T a) (hH : HR I w H) (h : ye cx d ops o T H v act) {K : Act → World → Prop} {Q : Exit → Act → World → Prop}
  (hk : ∀ I' w' u, Ext I w I' w' → HR I' w' (H.act2 act) → TR I' w' (dF (dK act.u T) o.dst v) (a.put o.dst u) → K (a.put o.dst u) w') : if Region.wanted o (yielded ops a.tmps) then o.wp cx.P a w K Q ∨ (o.asks cx.P a w ∧ LetsOut Q) else K (a.put o.dst undef) w := by
 obtain ⟨h1, c, x, y, t, e, s, ys, k1, k2, k3, k4, k5, k6, k7, k8, k9⟩ := h
 rw [rc hT h1, if_pos rfl]
 refine .inl ?_
 have hK : kI cx.P d o T H (fun T' H' => some (T', H')) = some (dF (dK act.u T) o.dst v, H.act2 act) := by
  unfold kI
  simp only [k1, k2, k3, k4, if_true, k5, k6, k7, k8]
  exact Iw k9
 obtain ⟨T', H', g1, g2⟩ := CP hT hH hK
 simp only [ab, ah] at g1
 obtain ⟨rfl, rfl⟩ := g1
 exact g2.wp fun I' w' u he hH' hT' => hk I' w' u he hH' hT'
end
theorem C3 {anc : List Nat} {j i : Nat} : iP anc j i = true ↔ (anc.getD j 0).testBit i = true := by
 unfold iP
 rw [Nat.testBit_eq_decide_div_mod_eq]
 simp only [aw]
 rw [Nat.beq_eq]
theorem C4 {acc : List Nat} {x : Nat} : ∀ {l : List Edge} {m : Nat}, (uW acc l m).testBit x = true ↔ m.testBit x = true ∨ ∃ e ∈ l, x = e.on ∨ iP acc e.on x = true
 | [], m => by simp [uW]
 | e :: r, m => by
  simp only [uW, C4 (l := r), Nat.testBit_or, aI, Nat.testBit_two_pow, aw, aA, exists_eq_or_imp, C3]
  constructor
  ·rintro ((h | h | h) | h)
   ·exact .inl h
   ·exact .inr (.inl (.inl h.symm))
   ·exact .inr (.inl (.inr h))
   ·exact .inr (.inr h)
  ·rintro (h | (h | h) | h)
   ·exact .inl (.inl h)
   ·exact .inl (.inr (.inl h.symm))
   ·exact .inl (.inr (.inr h))
   ·exact .inr h
theorem sK : ∀ {l : List Oper} {i : Nat} {acc anc : List Nat}, sx i l acc = some anc → acc.length = i → (∃ t, anc = acc ++ t) ∧ ∀ n o, l[n]? = some o → (∀ e ∈ o.after.toList, Region.binds .any e = true → e.on < i + n) ∧ ∀ x, iP anc (i + n) x = true ↔ ∃ e ∈ o.after.toList.filter (Region.binds .any), x = e.on ∨ iP anc e.on x = true
 | [], i, acc, anc, h, hl => by
  simp only [sx, ab] at h
  subst h
  exact ⟨⟨[], by simp⟩, fun n o h => by simp at h⟩
 | o :: r, i, acc, anc, h, hl => by
  simp only [sx] at h
  split at h
  ·rename_i hall
   obtain ⟨⟨t, ht⟩, h2⟩ := sK h (by simp [hl])
   refine ⟨⟨_, by rw [ht, aM]⟩, fun n o' hn => ?_⟩
   cases n with
   | zero =>
    simp only [bk, ab] at hn
    subst hn
    have hlt : ∀ e ∈ o.after.toList, Region.binds .any e = true → e.on < i := by
     intro e he hb
     simp only [aJ, List.mem_filter, aw] at hall
     exact hall e ⟨he, hb⟩
    refine ⟨fun e he hb => by have := hlt e he hb; omega, fun x => ?_⟩
    have hg : anc.getD (i + 0) 0 = uW acc (o.after.toList.filter (Region.binds .any)) 0 := by
     rw [ht, ar, aM, bg (by omega)]
     simp [hl]
    rw [C3, hg, C4]
    simp only [Nat.zero_testBit, aG, false_or]
    have same : ∀ e ∈ o.after.toList.filter (Region.binds .any), iP acc e.on x = iP anc e.on x := by
     intro e he
     rw [List.mem_filter] at he
     have := hlt e he.1 he.2
     unfold iP
     simp only [ht, ar, aM]
     rw [aY (by omega)]
    constructor
    ·rintro ⟨e, he, h⟩
     exact ⟨e, he, h.imp id fun h => by rw [← same e he]; exact h⟩
    ·rintro ⟨e, he, h⟩
     exact ⟨e, he, h.imp id fun h => by rw [same e he]; exact h⟩
   | succ n =>
    have := h2 n o' (by simpa using hn)
    rw [show i + (n + 1) = i + 1 + n by omega]
    exact this
  ·cases h
section
variable {ops : Array Oper} {anc : List Nat} {listed : Array Bool}
def Iy (ops : Array Oper) (listed : Array Bool) (j : Nat) : Prop := ∀ o, ops[j]? = some o → ∀ e ∈ o.after, Region.binds .any e = true → listed.getD e.on false = true
theorem yi (ha : sx 0 ops.toList [] = some anc) (hc : ∀ j, listed.getD j false = true → Iy ops listed j) : ∀ (n j : Nat), j ≤ n → j < ops.size → Iy ops listed j → ∀ x, iP anc j x = true → listed.getD x false = true := by
 obtain ⟨_, hs⟩ := sK ha rfl
 intro n
 induction n with
 | zero =>
  intro j hj hlt hA x hx
  obtain ⟨h1, h2⟩ := hs j ops[j] (by simp [hlt])
  rw [show 0 + j = j by omega] at h1 h2
  rw [h2] at hx
  obtain ⟨e, he, hx⟩ := hx
  rw [List.mem_filter] at he
  have := h1 e he.1 he.2
  omega
 | succ n ih =>
  intro j hj hlt hA x hx
  obtain ⟨h1, h2⟩ := hs j ops[j] (by simp [hlt])
  rw [show 0 + j = j by omega] at h1 h2
  rw [h2] at hx
  obtain ⟨e, he, hx⟩ := hx
  rw [List.mem_filter] at he
  have hon := h1 e he.1 he.2
  have hl := hA ops[j] (by simp [hlt]) e (Array.mem_toList_iff.1 he.1) he.2
  rcases hx with rfl | hx
  ·exact hl
  ·exact ih e.on (by omega) (by omega) (hc e.on hl) x hx
end
theorem EU {ops : Array Oper} {anc : List Nat} (h : nM ops anc = true) {i j : Nat} {x y : Oper} (hij : i < j) (hx : ops.toList[i]? = some x) (hy : ops.toList[j]? = some y) : iP anc j i = true ∨ x.apart ops y = true := by
 rw [ch] at hx hy
 unfold nM at h
 rw [aJ] at h
 have h1 := h j (by rw [bn]; exact (Array.getElem?_eq_some_iff.1 hy).1)
 rw [aJ] at h1
 have h2 := h1 i (by rw [bn]; exact hij)
 rw [hx, hy] at h2
 simpa using h2
theorem KJ {anc : List Nat} {d j : Nat} {q : Bool} {log : List (Nat × Did)} {x : Did} {ops : Array Oper} (h : rT ops anc d j q log x = true) {i : Nat} {e : Did} (he : (i, e) ∈ log) (hq : q = true → vD e = true) (hs : iP anc j i = true ∨ e.o.apart ops x.o = true) : iP anc j i = true ∨ iq d ops e x = true := by
 rcases hs with hs | hs
 ·exact .inl hs
 ·have two : vD e = true → vD x = true → iq d ops e x = true := fun h1 h2 => by
   unfold vD at h1 h2
   simp only [am, List.isEmpty_iff] at h1 h2
   unfold iq Gw Gv
   rw [h1.1, h2.1, h1.2, h2.2, hs]
   rfl
  unfold rT at h
  simp only [aI, am] at h
  rcases h with ⟨h1, h2⟩ | h
  ·exact .inr (two (hq h1) h2)
  ·rw [aJ] at h
   have := h _ he
   simp only [aI, am] at this
   rcases this with ⟨h1, h2⟩ | h1 | h1
   ·exact .inr (two h1 h2)
   ·exact .inl h1
   ·refine .inr ?_
    unfold iq
    rw [hs, Bool.and_true]
    exact h1
def yj (cx : Cx) (d : Nat) (ops : Array Oper) (e : Rec) (s : St) : Prop :=
 (yd cx d ops e.o s.1 s.2 e.v e.act ∧ e.r = eP s.1 e.o) ∨ (rb cx ops e.o s.1 s.2 e.v e.act ∧ e.r = e.act.W) ∨ (ye cx d ops e.o s.1 s.2 e.v e.act ∧ e.r = eP s.1 e.o ++ e.act.W)
structure Seg (cx : Cx) (d : Nat) (ops : Array Oper) (anc : List Nat) (m : Nat) (s0 : St) (rs : List Rec) : Prop where
 op : ∀ i e, rs[i]? = some e → ops.toList[m + i]? = some e.o
 st : ∀ i e, rs[i]? = some e → yj cx d ops e (dt (rs.take i) s0)
 fit : ∀ i (e : Rec), rs[i]? = some e → e.Fit ops (dt (rs.take i) s0)
 ap : ∀ i e i' e', i' < i → rs[i']? = some e' → rs[i]? = some e → iP anc (m + i) (m + i') = true ∨ iq d ops e'.did e.did = true
theorem Seg.nil {cx : Cx} {d : Nat} {ops : Array Oper} {anc : List Nat} {m : Nat} {s0 : St} : Seg cx d ops anc m s0 [] := ⟨fun i e h => by simp at h, fun i e h => by simp at h, fun i e h => by simp at h, fun i e i' e' _ h => by simp at h⟩
def wB (ops : Array Oper) (s : St) (o : Oper) (v : DV) (r : List Nat) (a : Act2) : Rec := ⟨o, v, a, r, Cr ops s.1 s.2 o v r a, s.1, s.2⟩
theorem C5 (ops : Array Oper) (s : St) (o : Oper) (v : DV) (r : List Nat) (a : Act2) : (wB ops s o v r a).did = ig ops s.1 s.2 o v r a := rfl
theorem C6 {ops : Array Oper} {s : St} {o : Oper} {v : DV} {r : List Nat} {a : Act2} (h : ∀ n ∈ a.u, n ∈ a.W) : (wB ops s o v r a).Fit ops s := ⟨rfl, rfl, rfl, h⟩
theorem MZ {cx : Cx} {ops : Array Oper} {T : List DV} {H : Heap} {o : Oper} {v : DV} {a : Act2} (h : rb cx ops o T H v a) : ∀ n ∈ a.u, n ∈ a.W := by
 obtain ⟨_, c, f, g, x, y, S, X, m, Y, b, k1, k2, k3, k4, k5, k6, k7, k8, k9, k10⟩ := h
 intro n hn
 rw [k10] at hn ⊢
 simp only [ay]
 exact .inl (.inr hn)
theorem Iz {P : Program} {d : Nat} {o : Oper} {E : TypeId} {s : Sh} {x : DV} {ys : List s.T} {H : Heap} {v : DV} {a : Act2} (h : dZ P d o E s x ys H (fun v a => some (v, a)) = some (v, a)) : ∀ n ∈ a.u, n ∈ a.W := by
 cases x
 case rw n =>
  simp only [dZ] at h
  split at h
  ·split at h
   ·split at h
    ·split at h
     ·simp only [ab, ah] at h
      obtain ⟨_, rfl⟩ := h
      exact fun n hn => hn
     ·cases h
    ·cases h
   ·cases h
  ·cases h
 case sl n z l =>
  simp only [dZ] at h
  split at h
  ·split at h
   ·split at h
    ·split at h
     ·split at h
      ·simp only [ab, ah] at h
       obtain ⟨_, rfl⟩ := h
       exact fun n hn => hn
      ·cases h
     ·cases h
    ·cases h
   ·cases h
  ·cases h
 case sc v' =>
  cases v' with
  | slice ad n c =>
   cases ad with
   | none =>
    simp only [dZ] at h
    split at h
    ·split at h
     ·simp only [ab, ah] at h
      obtain ⟨_, rfl⟩ := h
      exact fun n hn => by cases hn
     ·cases h
    ·cases h
   | some ad => simp only [dZ] at h; cases h
  | _ => simp only [dZ] at h; cases h
 all_goals (simp only [dZ] at h; cases h)
theorem NN (a : fi) : (Act2.of a).u = [] := by cases a <;> rfl
section
variable {α : Type} {cx : Cx} {call : f6 α} {d : Nat} {ops : Array Oper} {anc : List Nat} {k : K α} {r : α}
def sL (cx : Cx) (call : f6 α) (d : Nat) (ops : Array Oper) (anc : List Nat) (k : K α) (r : α) (q : Nat) (T : List DV) (H : Heap) : Prop :=
 (ops.toList.drop q = [] ∧ k T H = some r) ∨ ∃ o rest, ops.toList.drop q = o :: rest ∧ xR anc ops.size q = true ∧ ik ops o T = some true ∧
  ((∃ c f g x y, o.op = .call c ∧ c.callee = .value f ∧ dp T f = .fn (.func g) x y ∧ (match (if nG g = true then (x ++ c.args.toList.map (dp T) ++ y, T, H) else mj (x ++ c.args.toList.map (dp T) ++ y) T H) with
   | (A, T, H) => call g A H fun v H u => dG cx call d ops anc rest (q + 1) true [] (dF (jO T u) o.dst v) H k) = some r) ∨
  (kI cx.P d o T H fun T H => dG cx call d ops anc rest (q + 1) true [] T H k) = some r)
theorem re : ∀ {l : List FS} {A : List DV} {k : DV → Option α} {q : Option α}, nq l A k = some q → ∃ S X m, S ∈ l ∧ FS.pure S = true ∧ S.tin.pr ⟨[], []⟩ A (fun _ => none) = some (X, m) ∧ q = (S.fn X).bind fun y => k (ii (S.tout.T dB (S.out y)))
 | [], A, k, q, h => by cases h
 | S :: l, A, k, q, h => by
  simp only [nq] at h
  split at h
  ·rename_i hp
   split at h
   ·rename_i X m hX
    simp only [ab] at h
    exact ⟨S, X, m, by simp, hp, hX, h.symm⟩
   ·obtain ⟨S', X, m, h1, h2⟩ := re h
    exact ⟨S', X, m, az _ h1, h2⟩
  ·obtain ⟨S', X, m, h1, h2⟩ := re h
   exact ⟨S', X, m, az _ h1, h2⟩
theorem yk : ∀ {l : List FS} {A : List DV} {H : Heap} {b : Nat} {k : DV → Act2 → Option α} {q : Option α}, oH l A H b k = some q → ∃ S X m, S ∈ l ∧ S.tin.pr ⟨[], []⟩ A H = some (X, m) ∧ q = (S.fn X).bind fun y =>
   if S.tout.free (j6 b m) ((dn m.u H).away m) = true then k (ii (S.tout.T (j6 b m) (S.out y))) ⟨m.u, m.σ.map (·.2) ++ m.u ++ S.tout.names (j6 b m), S.tout.H (j6 b m) (S.out y) fun _ => none⟩ else none
 | [], A, H, b, k, q, h => by cases h
 | S :: l, A, H, b, k, q, h => by
  simp only [oH] at h
  split at h
  ·rename_i X m hX
   simp only [ab] at h
   exact ⟨S, X, m, by simp, hX, h.symm⟩
  ·obtain ⟨S', X, m, h1, h2⟩ := yk h
   exact ⟨S', X, m, az _ h1, h2⟩
theorem GH {P : Program} {o : Oper} {c : Call} {T : List DV} {H : Heap} {k : DV → Act2 → Option α} {q : α} (h : uX P d o c T H k = some q) : ∃ x y t e s ys v a, c.args.toList = [x, y] ∧ c.argTypes.toList = [t, t] ∧ P.underlying t = some (.slice e) ∧ ge P 8 e = some s ∧ jB P e s = true ∧ eJ H s (dp T y) = some ys ∧ dZ P d o e s (dp T x) ys H (fun v a => some (v, a)) = some (v, a) ∧ k v a = some q := by
 unfold uX at h
 split at h
 ·rename_i x y t t' h1 h2
  split at h
  ·rename_i ht
   subst ht
   split at h
   ·rename_i e he
    split at h
    ·rename_i s hs
     split at h
     ·rename_i hz
      split at h
      ·rename_i ys hy
       rw [vO] at h
       obtain ⟨⟨v, a⟩, ha, hk⟩ := Option.bind_eq_some_iff.1 h
       exact ⟨x, y, t, e, s, ys, v, a, h1, h2, he, hs, hz, hy, ha, hk⟩
      ·cases h
     ·cases h
    ·cases h
   ·cases h
  ·cases h
 ·cases h
theorem Seg.snoc {m : Nat} {s0 : St} {rs : List Rec} (hst : nM ops anc = true) (h : Seg cx d ops anc m s0 rs) {e0 : Rec} (ho : ops.toList[m + rs.length]? = some e0.o) (hs : yj cx d ops e0 (dt rs s0)) (hfit : e0.Fit ops (dt rs s0)) {q : Bool} {log : List (Nat × Did)}
  (hlog : ∀ i e, rs[i]? = some e → (m + i, e.did) ∈ log) (hq : q = true → ∀ e ∈ rs, vD e.did = true)
  (hc : rT ops anc d (m + rs.length) q log e0.did = true) : Seg cx d ops anc m s0 (rs ++ [e0]) := by
 have old : ∀ {i : Nat} {e : Rec}, (rs ++ [e0])[i]? = some e → (i < rs.length ∧ rs[i]? = some e ∧ (rs ++ [e0]).take i = rs.take i) ∨ (i = rs.length ∧ e = e0 ∧ (rs ++ [e0]).take i = rs) := by
  intro i e hi
  rcases ak i rs.length with hl | hl
  ·rw [aY hl] at hi
   exact .inl ⟨hl, hi, by rw [bu (by omega)]⟩
  ·rw [bg hl] at hi
   have hlt := (List.getElem?_eq_some_iff.1 hi).1
   simp only [aE, cj] at hlt
   have : i = rs.length := by omega
   subst this
   simp only [bf, bk, ab] at hi
   exact .inr ⟨rfl, hi.symm, by simp⟩
 refine ⟨fun i e hi => ?_, fun i e hi => ?_, fun i e hi => ?_, fun i e i' e' hlt hi' hi => ?_⟩
 ·rcases old hi with ⟨_, h1, _⟩ | ⟨rfl, rfl, _⟩
  ·exact h.op i e h1
  ·exact ho
 ·rcases old hi with ⟨_, h1, h2⟩ | ⟨rfl, rfl, h2⟩
  ·rw [h2]; exact h.st i e h1
  ·rw [h2]; exact hs
 ·rcases old hi with ⟨_, h1, h2⟩ | ⟨rfl, rfl, h2⟩
  ·rw [h2]; exact h.fit i e h1
  ·rw [h2]; exact hfit
 ·rcases old hi with ⟨hl, h1, h2⟩ | ⟨rfl, rfl, h2⟩
  ·rcases old hi' with ⟨_, h1', _⟩ | ⟨rfl, _, _⟩
   ·exact h.ap i e i' e' hlt h1' h1
   ·omega
  ·rcases old hi' with ⟨_, h1', _⟩ | ⟨rfl, _, _⟩
   ·refine KJ hc (hlog i' e' h1') (fun h0 => hq h0 e' (cw h1')) (EU hst (by omega) (h.op i' e' h1') ho)
   ·omega
theorem sM {l : List Oper} {q : Nat} {o : Oper} {rest : List Oper} (h : l.drop q = o :: rest) : l[q]? = some o ∧ l.drop (q + 1) = rest := by
 constructor
 ·rw [← List.head?_drop, h]; rfl
 ·rw [← List.tail_drop, h]; rfl
theorem zR (hst : nM ops anc = true) {m : Nat} {s0 : St} : ∀ {l : List Oper} {rs : List Rec} {j : Nat} {q : Bool} {log : List (Nat × Did)}, ops.toList.drop (m + rs.length) = l → j = m + rs.length → (∀ i e, rs[i]? = some e → (m + i, e.did) ∈ log) → (q = true → ∀ e ∈ rs, vD e.did = true) → Seg cx d ops anc m s0 rs → dG cx call d ops anc l j q log (dt rs s0).1 (dt rs s0).2 k = some r →
  ∃ rs', Seg cx d ops anc m s0 rs' ∧ sL cx call d ops anc k r (m + rs'.length) (dt rs' s0).1 (dt rs' s0).2
 | [], rs, j, q, log, hl, hj, hlog, hq, hs, h => ⟨rs, hs, .inl ⟨hl, h⟩⟩
 | o :: l, rs, j, q, log, hl, hj, hlog, hq, hs, h => by
  subst hj
  obtain ⟨ho, hl2⟩ := sM hl
  have more : ∀ {e0 : Rec} {q' : Bool}, Seg cx d ops anc m s0 (rs ++ [e0]) → (q' = true → q = true ∧ vD e0.did = true) → dG cx call d ops anc l (m + rs.length + 1) q' ((m + rs.length, e0.did) :: log) (dt (rs ++ [e0]) s0).1 (dt (rs ++ [e0]) s0).2 k = some r → ∃ rs', Seg cx d ops anc m s0 rs' ∧ sL cx call d ops anc k r (m + rs'.length) (dt rs' s0).1 (dt rs' s0).2 := by
   intro e0 q' hseg hq' h
   refine zR hst (l := l) (j := m + rs.length + 1) (rs := rs ++ [e0]) (by simp only [aK, aE, cj]; rw [← hl2]; congr 1) (by simp only [aK, aE, cj]; omega) (log := (m + rs.length, e0.did) :: log) (q := q') (fun i e hi => ?_) (fun h0 e he => ?_) hseg h
   ·rcases ak i rs.length with hlt | hge
    ·rw [aY hlt] at hi
     exact az _ (hlog i e hi)
    ·rw [bg hge] at hi
     have hlt := (List.getElem?_eq_some_iff.1 hi).1
     simp only [aE, cj] at hlt
     have : i = rs.length := by omega
     subst this
     simp only [bf, bk, ab] at hi
     subst hi
     exact aB ..
   ·obtain ⟨h1, h2⟩ := hq' h0
    rcases ay.1 he with he | he
    ·exact hq h1 e he
    ·simp only [aC] at he
     subst he
     exact h2
  have next : ∀ {v : DV} {act : fi}, yd cx d ops o (dt rs s0).1 (dt rs s0).2 v (Act2.of act) → (if rT ops anc d (m + rs.length) q log (ig ops (dt rs s0).1 (dt rs s0).2 o v (eP (dt rs s0).1 o) (Act2.of act)) = true then
    dG cx call d ops anc l (m + rs.length + 1) (q && act.isNone) ((m + rs.length, ig ops (dt rs s0).1 (dt rs s0).2 o v (eP (dt rs s0).1 o) (Act2.of act)) :: log) (dF (dt rs s0).1 o.dst v) ((dt rs s0).2.act act) k else none) = some r → ∃ rs', Seg cx d ops anc m s0 rs' ∧ sL cx call d ops anc k r (m + rs'.length) (dt rs' s0).1 (dt rs' s0).2 := by
   intro v act hst1 h
   split at h
   ·rename_i hc
    rw [← C5] at hc h
    refine more (e0 := wB ops (dt rs s0) o v (eP (dt rs s0).1 o) (Act2.of act)) (q' := q && act.isNone) (hs.snoc hst ho (.inl ⟨hst1, rfl⟩) (C6 (by rw [NN]; exact fun n hn => by cases hn)) hlog hq hc) (fun h0 => ?_) ?_
    ·simp only [am] at h0
     refine ⟨h0.1, ?_⟩
     cases act with
     | none => rfl
     | some p => cases h0.2
    ·rw [pE]
     show dG cx call d ops anc l (m + rs.length + 1) (q && act.isNone) _ (dF (dK (Act2.of act).u (dt rs s0).1) o.dst v) ((dt rs s0).2.act2 (Act2.of act)) k = some r
     rw [zQ, NN]
     exact h
   ·cases h
  have soft : ∀ {v : DV} {rd : List Nat} {act : Act2}, yj cx d ops (wB ops (dt rs s0) o v rd act) (dt rs s0) → (∀ n ∈ act.u, n ∈ act.W) → (if rT ops anc d (m + rs.length) q log (ig ops (dt rs s0).1 (dt rs s0).2 o v rd act) = true then
    dG cx call d ops anc l (m + rs.length + 1) false ((m + rs.length, ig ops (dt rs s0).1 (dt rs s0).2 o v rd act) :: log) (dF (dK act.u (dt rs s0).1) o.dst v) ((dt rs s0).2.act2 act) k else none) = some r → ∃ rs', Seg cx d ops anc m s0 rs' ∧ sL cx call d ops anc k r (m + rs'.length) (dt rs' s0).1 (dt rs' s0).2 := by
   intro v rd act hst1 hu h
   split at h
   ·rename_i hc
    rw [← C5] at hc h
    refine more (e0 := wB ops (dt rs s0) o v rd act) (q' := false) (hs.snoc hst ho hst1 (C6 hu) hlog hq hc) (fun h => by cases h) ?_
    rw [pE]
    exact h
   ·cases h
  have hst0 : dt rs s0 = ((dt rs s0).1, (dt rs s0).2) := rfl
  have hsoft : ∀ {v : DV} {act : Act2}, rb cx ops o (dt rs s0).1 (dt rs s0).2 v act → yj cx d ops (wB ops (dt rs s0) o v act.W act) (dt rs s0) := fun h => .inr (.inl ⟨h, rfl⟩)
  have hsoftA : ∀ {v : DV} {act : Act2}, ye cx d ops o (dt rs s0).1 (dt rs s0).2 v act → yj cx d ops (wB ops (dt rs s0) o v (eP (dt rs s0).1 o ++ act.W) act) (dt rs s0) := fun h => .inr (.inr ⟨h, rfl⟩)
  generalize hTT : (dt rs s0).1 = T at *
  generalize hHH : (dt rs s0).2 = H at *
  have hrun : ik ops o T = some true → ∀ {R : Option α}, zL cx call d ops.size anc o (m + rs.length) T H (fun v act => if rT ops anc d (m + rs.length) q log (ig ops T H o v (eP T o) (Act2.of act)) = true then
    dG cx call d ops anc l (m + rs.length + 1) (q && act.isNone) ((m + rs.length, ig ops T H o v (eP T o) (Act2.of act)) :: log) (dF T o.dst v) (H.act act) k else none) (fun rd v act => if rT ops anc d (m + rs.length) q log (ig ops T H o v rd act) = true then
    dG cx call d ops anc l (m + rs.length + 1) false ((m + rs.length, ig ops T H o v rd act) :: log) (dF (dK act.u T) o.dst v) (H.act2 act) k else none) (fun T H => dG cx call d ops anc l (m + rs.length + 1) true [] T H k) = some r → ∃ rs', Seg cx d ops anc m s0 rs' ∧ sL cx call d ops anc k r (m + rs'.length) (dt rs' s0).1 (dt rs' s0).2 := by
   intro hw R h
   have plain : (ez cx.P d o T H fun v act => if rT ops anc d (m + rs.length) q log (ig ops T H o v (eP T o) (Act2.of act)) = true then
    dG cx call d ops anc l (m + rs.length + 1) (q && act.isNone) ((m + rs.length, ig ops T H o v (eP T o) (Act2.of act)) :: log) (dF T o.dst v) (H.act act) k else none) = some r → ∃ rs', Seg cx d ops anc m s0 rs' ∧ sL cx call d ops anc k r (m + rs'.length) (dt rs' s0).1 (dt rs' s0).2 := by
    intro h
    rw [pT] at h
    obtain ⟨⟨v, act⟩, h1, h2⟩ := Option.bind_eq_some_iff.1 h
    exact next ⟨true, hw, .inl ⟨rfl, .inl ⟨act, h1, rfl⟩⟩⟩ h2
   unfold zL at h
   split at h
   ·rename_i c hoc
    split at h
    ·rename_i f hcf
     split at h
     ·rename_i g x y hf
      split at h
      ·rename_i v hv
       exact next (act := none) ⟨true, hw, .inl ⟨rfl, .inr (.inr ⟨c, f, g, x, y, hoc, hcf, hf, hv, rfl⟩)⟩⟩ h
      split at h
      ·rename_i q hq
       split at hq
       ·rename_i hent
        obtain ⟨S, X, mm, h1, h2, h3, rfl⟩ := re hq
        obtain ⟨Y, h4, h5⟩ := Option.bind_eq_some_iff.1 h
        exact next (act := none) ⟨true, hw, .inl ⟨rfl, .inr (.inl ⟨c, f, g, x, y, S, X, mm, Y, hoc, hcf, hf, hent, h1, h2, h3, h4, rfl, rfl⟩)⟩⟩ h5
       ·cases hq
      ·split at h
       ·rename_i hb
        exact ⟨rs, hs, .inr ⟨o, l, hl, hb, by rw [hTT]; exact hw, .inl ⟨c, f, g, x, y, hoc, hcf, by rw [hTT]; exact hf, by rw [hTT, hHH]; exact h⟩⟩⟩
       ·split at h
        ·rename_i q hq
         split at hq
         ·rename_i hent
          obtain ⟨S, X, mm, h1, h2, rfl⟩ := yk hq
          obtain ⟨Y, h4, h5⟩ := Option.bind_eq_some_iff.1 h
          split at h5
          ·rename_i hfree
           have hS : rb cx ops o T H _ _ := ⟨hw, c, f, g, x, y, S, X, mm, Y, _, hoc, hcf, hf, hent, h1, h2, h4, hfree, rfl, rfl⟩
           exact soft (hsoft hS) (MZ hS) h5
          ·cases h5
         ·cases hq
        ·cases h
     ·cases h
    ·rename_i hcf
     split at h
     ·rename_i hb
      exact ⟨rs, hs, .inr ⟨o, l, hl, hb, by rw [hTT]; exact hw, .inr (by rw [hTT, hHH]; exact h)⟩⟩
     ·obtain ⟨x, y, t, e, s, ys, v, a, q1, q2, q3, q4, q5, q6, q7, q8⟩ := GH h
      exact soft (hsoftA ⟨hw, c, x, y, t, e, s, ys, hoc, hcf, q1, q2, q3, q4, q5, q6, q7⟩) (Iz q7) q8
    ·exact plain h
   ·rename_i q x y ho'
    split at h
    ·rename_i hb
     simp only [am] at hb
     exact ⟨rs, hs, .inr ⟨o, l, hl, hb.2, by rw [hTT]; exact hw, .inr (by rw [hTT, hHH]; exact h)⟩⟩
    ·exact plain h
   ·exact plain h
  unfold dG at h
  simp only at h
  split at h
  ·rename_i hg
   exact hrun (by simp [ik, hg]) (R := some r) h
  ·rename_i j want hg
   split at h
   ·rename_i g hj
    split at h
    ·rename_i b hb
     have hfix : T.set g (.sc (.bool b)) = T := CU hb (by simp)
     have hw : ik ops o T = some (b == want) := by unfold ik; rw [hg]; simp only [hj, hb]
     cases b with
     | true =>
      rw [hfix] at h
      cases want with
      | true => exact hrun hw (R := some r) h
      | false => exact next (act := none) ⟨false, hw, .inr ⟨rfl, rfl, rfl⟩⟩ h
     | false =>
      rw [hfix] at h
      cases want with
      | true => exact next (act := none) ⟨false, hw, .inr ⟨rfl, rfl, rfl⟩⟩ h
      | false => exact hrun hw (R := some r) h
    ·rename_i hb
     have hw : ik ops o T = some false := by unfold ik; rw [hg]; simp only [hj, hb]
     exact next (act := none) ⟨false, hw, .inr ⟨rfl, rfl, rfl⟩⟩ h
    ·cases h
   ·cases h
end
def ga (S : Nat → Bool) : Nat → Nat
 | 0 => 0
 | n + 1 => ga S n + (if S n then 0 else 1)
theorem AY {S S' : Nat → Bool} : ∀ {n : Nat}, (∀ i, i < n → S i = S' i) → ga S n = ga S' n
 | 0, _ => rfl
 | n + 1, h => by simp only [ga]; rw [AY (fun i hi => h i (by omega)), h n (by omega)]
theorem FG {S : Nat → Bool} {j : Nat} (hj : S j = false) : ∀ {n : Nat}, j < n → ga (fun i => S i || i == j) n + 1 = ga S n
 | 0, h => by omega
 | n + 1, h => by
  simp only [ga]
  rcases ak j n with h1 | h1
  ·have := FG hj h1
   have hne : (n == j) = false := by rw [aP]; omega
   simp only [hne, bi]
   omega
  ·have : n = j := by omega
   subst this
   rw [AY (S := fun i => S i || i == n) (S' := S) (fun i hi => by
    have hne : (i == n) = false := by rw [aP]; omega
    simp only [hne, bi])]
   simp [hj]
theorem nS {S : Nat → Bool} : ∀ {n : Nat}, ga S n = 0 → ∀ i, i < n → S i = true
 | n + 1, h, i, hi => by
  simp only [ga] at h
  rcases ak i n with h1 | h1
  ·exact nS (by omega) i h1
  ·have : i = n := by omega
   subst this
   cases hS : S i with
   | true => rfl
   | false => rw [hS] at h; simp at h
theorem C7 {S : Nat → Bool} (h : ∀ i, S i = false) : ∀ n, ga S n = n
 | 0 => rfl
 | n + 1 => by simp only [ga, C7 h n, h n]; rfl
theorem sN {S : Nat → Bool} : ∀ {l : List Rec} {m : Nat} {s : St}, (∀ i, m ≤ i → S i = false) → eF m S l s = s
 | [], _, _, _ => rfl
 | e :: r, m, s, h => by
  simp only [eF, h m (aq _), aG, ax]
  exact sN (fun i hi => h i (by omega))
abbrev fT (listed : Array Bool) : Nat → Bool := fun i => listed.getD i false
theorem M0 {listed : Array Bool} {j : Nat} (h : j < listed.size) : fT (listed.setIfInBounds j true) = fun i => fT listed i || i == j := by
 funext i
 simp only [fT, bT, Array.getElem?_setIfInBounds]
 by_cases e : j = i
 ·subst e; simp [h]
 ·have : (i == j) = false := by rw [aP]; exact fun e' => e e'.symm
  simp [e, this]
theorem wC {listed : Array Bool} {j : Nat} (h : j < listed.size) : listed.getD j true = fT listed j := by
 simp [fT, h]
section
variable {α : Type} {cx : Cx} {call : f6 α} {d : Nat} {ops : Array Oper} {anc : List Nat} {k : K α} {r : α} {Q : Exit → Act → World → Prop}
theorem KK (hcall : qY cx.P call) (hsp : ∀ g S, S ∈ cx.specs g → iu cx.P g S) (hp : ∀ g S, S ∈ cx.specs g → FS.pure S = true → sI cx.P g S) (htab : ∀ g t, cx.tabs g = some t → Cs cx.P g t) (ha : sx 0 ops.toList [] = some anc) (hstat : nM ops anc = true) : ∀ (fuel : Nat) {listed : Array Bool} {m : Nat} {s0 : St} {rs : List Rec} {I : In} {w : World} {a : Act},
  listed.size = ops.size → ga (fT listed) ops.size = fuel → (∀ j, fT listed j = true → Iy ops listed j) → (∀ i, i < m → fT listed i = true) → (∀ i, m + rs.length ≤ i → fT listed i = false) → Seg cx d ops anc m s0 rs → sL cx call d ops anc k r (m + rs.length) (dt rs s0).1 (dt rs s0).2 →
  TR I w (eF m (fT listed) rs s0).1 a → HR I w (eF m (fT listed) rs s0).2 → (∀ I' w' T' H' a', Ext I w I' w' → HR I' w' H' → TR I' w' T' a' → k T' H' = some r → Q .normal a' w') → wpAny cx.P .any ops Q fuel listed a w := by
 intro fuel
 have done : ∀ {listed : Array Bool} {m : Nat} {s0 : St} {rs : List Rec} {I : In} {w : World} {a : Act}, listed.size = ops.size → (∀ i, i < ops.size → fT listed i = true) → (∀ i, m + rs.length ≤ i → fT listed i = false) → sL cx call d ops anc k r (m + rs.length) (dt rs s0).1 (dt rs s0).2 → Seg cx d ops anc m s0 rs →
   TR I w (eF m (fT listed) rs s0).1 a → HR I w (eF m (fT listed) rs s0).2 → (∀ I' w' T' H' a', Ext I w I' w' → HR I' w' H' → TR I' w' T' a' → k T' H' = some r → Q .normal a' w') → Q .normal a w := by
  intro listed m s0 rs I w a hsz hall hpost ht hs hT hH hQ
  have hacc : eF m (fT listed) rs s0 = dt rs s0 := wA fun i hi => by
   have := hs.op i rs[i] (av hi)
   have := (List.getElem?_eq_some_iff.1 this).1
   exact hall (m + i) (by simpa using this)
  rw [hacc] at hT hH
  rcases ht with ⟨_, h⟩ | ⟨o, rest, h, _⟩
  ·exact hQ I w _ _ a (Ext.refl I w) hH hT h
  ·obtain ⟨h1, _⟩ := sM h
   have h2 := (List.getElem?_eq_some_iff.1 h1).1
   have h3 := hall (m + rs.length) (by simpa using h2)
   rw [hpost _ (aq _)] at h3
   cases h3
 have allOf : ∀ {listed : Array Bool}, listed.size = ops.size → Region.ready .any ops listed = [] → ∀ i, i < ops.size → fT listed i = true := by
  intro listed hsz hr
  intro i
  induction i using Nat.strongRecOn with
  | _ i ih =>
   intro hi
   cases hS : fT listed i with
   | true => rfl
   | false =>
    obtain ⟨_, hsp⟩ := sK ha rfl
    obtain ⟨h1, _⟩ := hsp i ops[i] (by simp [hi])
    have : i ∈ Region.ready .any ops listed := by
     rw [mem_ready]
     refine ⟨by rw [wC (by omega)]; exact hS, ops[i], by simp [hi], fun e he hb => ?_⟩
     have := h1 e (Array.mem_toList_iff.2 he) hb
     exact ih e.on (by omega) (by omega)
    rw [hr] at this
    cases this
 induction fuel with
 | zero =>
  intro listed m s0 rs I w a hsz hcnt hcl hpre hpost hs ht hT hH hQ
  have hall := nS hcnt
  refine ⟨?_, done hsz hall hpost ht hs hT hH hQ⟩
  rw [List.eq_nil_iff_forall_not_mem]
  intro i hi
  rw [mem_ready] at hi
  obtain ⟨h1, o, ho, _⟩ := hi
  have := (Array.getElem?_eq_some_iff.1 ho).1
  rw [wC (by omega), hall i this] at h1
  cases h1
 | succ fuel ih =>
  intro listed m s0 rs I w a hsz hcnt hcl hpre hpost hs ht hT hH hQ
  refine ⟨fun hr => done hsz (allOf hsz hr) hpost ht hs hT hH hQ, fun i hi => ?_⟩
  rw [mem_ready] at hi
  obtain ⟨hun, o, ho, haft⟩ := hi
  have hlt := (Array.getElem?_eq_some_iff.1 ho).1
  rw [wC (by omega)] at hun
  have hA : Iy ops listed i := fun o' ho' e he hb => by
   rw [ho] at ho'
   simp only [ab] at ho'
   subst ho'
   exact haft e he hb
  have hanc := yi ha hcl i i (aq _) hlt hA
  have hset := M0 (listed := listed) (j := i) (by omega)
  have hcl' : ∀ j, fT (listed.setIfInBounds i true) j = true → Iy ops (listed.setIfInBounds i true) j := by
   intro j hj o' ho' e he hb
   rw [hset] at hj
   simp only [aI, af] at hj
   rcases hj with hj | rfl
   ·exact getD_set_true (hcl j hj o' ho' e he hb)
   ·exact getD_set_true (hA o' ho' e he hb)
  have hcnt' : ga (fT (listed.setIfInBounds i true)) ops.size = fuel := by
   have := FG hun hlt
   rw [hset]
   omega
  have him : m ≤ i := by
   rcases ak i m with h | h
   ·rw [hpre i h] at hun; cases hun
   ·exact h
  rcases ak i (m + rs.length) with hiq | hiq
  ·obtain ⟨j, rfl⟩ : ∃ j, i = m + j := ⟨i - m, by omega⟩
   have hj : j < rs.length := by omega
   have hje : rs[j]? = some rs[j] := av hj
   generalize rs[j] = e at hje
   have heo : e.o = o := by
    have := hs.op j e hje
    simp only [ch] at this
    rw [ho] at this
    simpa using this.symm
   have hap1 : ∀ i f, i < j → rs[i]? = some f → fT listed (m + i) = false → iq d ops f.did e.did = true := fun i f hi hf hu => by
    rcases hs.ap j e i f hi hf hje with h | h
    ·rw [show fT listed (m + i) = true from hanc _ h] at hu; cases hu
    ·exact h
   have hap2 : ∀ k f, j < k → rs[k]? = some f → fT listed (m + k) = true → iq d ops e.did f.did = true := fun k f hk hf hl => by
    rcases hs.ap k f j e hk hje hf with h | h
    ·have hkl : m + k < ops.size := by
      have := (List.getElem?_eq_some_iff.1 (hs.op k f hf)).1
      simpa using this
     have := yi ha hcl (m + k) (m + k) (aq _) hkl (hcl _ hl) _ h
     rw [show fT listed (m + j) = true from this] at hun
     cases hun
    ·exact h
   have hfe := hs.fit j e hje
   have hagr := KC (L := e.o.looksAt ops) (N := fun n => n ∈ e.r ∨ fW d e.o n = true) (s := s0) hje hun (fun i f h1 h2 h3 => KF (hs.fit i f h2) (hap1 i f h1 h2 h3)) (fun k f h1 h2 h3 => It hfe (hs.fit k f h2) (hap2 k f h1 h2 h3))
   have hput := KB (s := s0) hje hun (fun k f h1 h2 h3 => NL hfe (hs.fit k f h2) (hap2 k f h1 h2 h3))
   rw [← hset] at hput
   have fin : ∀ {K : Act → World → Prop}, (∀ I' w' u, Ext I w I' w' → HR I' w' ((eF m (fT listed) rs s0).2.act2 e.act) → TR I' w' (dF (dK e.act.u (eF m (fT listed) rs s0).1) e.o.dst e.v) (a.put e.o.dst u) → K (a.put e.o.dst u) w') → if Region.wanted e.o (yielded ops a.tmps) then e.o.wp cx.P a w K Q ∨ (e.o.asks cx.P a w ∧ LetsOut Q) else K (a.put e.o.dst undef) w := by
    intro K hk
    rcases hs.st j e hje with ⟨hst, hr⟩ | ⟨hst, hr⟩ | ⟨hst, hr⟩
    ·rw [hr] at hagr
     exact KG hp htab hT hH (Ip hagr hst) hk
    ·exact KH hsp hT hH (Ir ⟨hagr.1, hagr.2.1, fun n hn => hagr.2.2 n (.inl (by rw [hr]; exact hn))⟩ hst) hk
    ·exact KI hT hH (Is ⟨hagr.1, hagr.2.1, fun n hn => hagr.2.2 n (.inl (by rw [hr]; exact hn))⟩ hst) hk
   unfold wpOp
   rw [ho]
   simp only
   rw [← heo]
   refine fin fun I' w' u he hH' hT' => ?_
   refine ih (m := m) (s0 := s0) (rs := rs) (I := I') (by simpa using hsz) hcnt' hcl' (fun i hi => ?_) (fun i hi => ?_) hs ht (by rw [hput]; exact hT') (by rw [hput]; exact hH') (fun I2 w2 T2 H2 a2 he2 => hQ I2 w2 T2 H2 a2 (he.trans he2))
   ·rw [hset]
    simp only [aI]
    exact .inl (hpre i hi)
   ·rw [hset]
    simp only [bC, aP]
    exact ⟨hpost i hi, by omega⟩
  ·rcases ht with ⟨h0, _⟩ | ⟨o', rest, h0, hbar, hw, hgo⟩
   ·have := congrArg List.length h0
    simp at this
    omega
   ·obtain ⟨h1, h2⟩ := sM h0
    unfold xR at hbar
    simp only [am, aJ, bn, aI, aw] at hbar
    have hiq' : i = m + rs.length := by
     rcases ak (m + rs.length) i with h | h
     ·rcases hbar.2 i hlt with h' | h'
      ·omega
      ·have := hanc _ h'
       rw [show listed.getD (m + rs.length) false = false from hpost _ (aq _)] at this
       cases this
     ·omega
    subst hiq'
    have hoo : o' = o := by
     rw [ch, ho] at h1
     simpa using h1.symm
    subst hoo
    have hacc : eF m (fT listed) rs s0 = dt rs s0 := wA fun i hi => hanc _ (hbar.1 (m + i) (by omega))
    rw [hacc] at hT hH
    have next : ∀ {I' : In} {w' : World} {T' : List DV} {H' : Heap} {a' : Act}, Ext I w I' w' → HR I' w' H' → TR I' w' T' a' → dG cx call d ops anc rest (m + rs.length + 1) true [] T' H' k = some r → wpAny cx.P .any ops Q fuel (listed.setIfInBounds (m + rs.length) true) a' w' := by
     intro I' w' T' H' a' he hH' hT' hev
     obtain ⟨rs', hs', ht'⟩ := zR hstat (m := m + rs.length + 1) (s0 := (T', H')) (rs := []) (by simpa using h2) rfl (fun i e h => by simp at h) (fun _ e h => by simp at h) Seg.nil hev
     have hnone : ∀ i, m + rs.length + 1 ≤ i → fT (listed.setIfInBounds (m + rs.length) true) i = false := by
      intro i hi
      rw [hset]
      simp only [bC, aP]
      exact ⟨hpost i (by omega), by omega⟩
     have h0 : eF (m + rs.length + 1) (fT (listed.setIfInBounds (m + rs.length) true)) rs' (T', H') = (T', H') := sN hnone
     refine ih (m := m + rs.length + 1) (s0 := (T', H')) (rs := rs') (I := I') (by simpa using hsz) hcnt' hcl' (fun i hi => ?_) (fun i hi => hnone i (by omega)) hs' ht' (by rw [h0]; exact hT') (by rw [h0]; exact hH') (fun I2 w2 T2 H2 a2 he2 => hQ I2 w2 T2 H2 a2 (he.trans he2))
     rw [hset]
     simp only [aI, af]
     rcases ak i (m + rs.length) with h | h
     ·exact .inl (hanc _ (hbar.1 i h))
     ·exact .inr (by omega)
    unfold wpOp
    rw [ho]
    simp only
    rw [rc hT hw, if_pos rfl]
    refine .inl ?_
    rcases hgo with ⟨c, f, g, x, y, k1, k2, k3, k4⟩ | hgo
    ·exact CV hcall (sp := nG g) (k := fun T H => dG cx call d ops anc rest (m + rs.length + 1) true [] T H k) hT hH k1 k2 k3 k4 fun I' w' T' H' u he hH' hT' h' => next he hH' hT' h'
    ·obtain ⟨T', H', h1, h2⟩ := CP hT hH hgo
     exact h2.wp fun I' w' u he hH' hT' => next he hH' hT' h1
theorem Same.world {I : In} {w w' : World} (h : w'.heap = w.heap) : Same I I w w' := ⟨⟨fun _ h => h, fun b _ => by rw [h]⟩, fun _ _ h => h, fun _ _ _ h => h⟩
theorem HR.world {I : In} {w w' : World} {H : Heap} (h : w'.heap = w.heap) (hH : HR I w H) : HR I w' H :=
 HR.of (fun n b hb => (hH.br hb).keep (Same.world h) (fun e g _ _ => by rw [h])) hH.dom (fun n e b h1 h2 => by rw [h]; exact hH.lt n e b h1 h2) hH.inj (fun b hb => by rw [h]; exact hH.rlt b hb)
theorem IA (hcall : qY cx.P call) (hsp : ∀ g S, S ∈ cx.specs g → iu cx.P g S) (hp : ∀ g S, S ∈ cx.specs g → FS.pure S = true → sI cx.P g S) (htab : ∀ g t, cx.tabs g = some t → Cs cx.P g t) (hf : cx.P.follows .mixedOrders = true) (ha : sx 0 ops.toList [] = some anc) (hstat : nM ops anc = true) {I : In} {w : World} {T : List DV} {a : Act} {H : Heap} {id : Nat} (hT : TR I w T a) (hH : HR I w H) (h : dG cx call d ops anc ops.toList 0 true [] T H k = some r)
  (hQ : ∀ I' w' T' H' a', Ext I w I' w' → HR I' w' H' → TR I' w' T' a' → k T' H' = some r → Q .normal a' w') : (Code.region id ops true).wp cx.P Q a w := by
 refine wp_region_any hf ?_
 obtain ⟨rs', hs', ht'⟩ := zR hstat (m := 0) (s0 := (T, H)) (rs := []) (by simp) rfl (fun i e h => by simp at h) (fun _ e h => by simp at h) Seg.nil h
 have hn : ∀ i, fT (Array.replicate ops.size false) i = false := by
  intro i
  simp only [fT, bT, Array.getElem?_replicate]
  split <;> rfl
 have h0 : eF 0 (fT (Array.replicate ops.size false)) rs' (T, H) = (T, H) := sN fun i _ => hn i
 refine KK hcall hsp hp htab ha hstat ops.size (m := 0) (s0 := (T, H)) (rs := rs') (I := I) (by simp) (C7 hn _) (fun j hj => by rw [hn j] at hj; cases hj) (fun i hi => by omega) (fun i _ => hn i) hs' ht' ?_ ?_ ?_
 ·rw [h0]; exact TR.keep (w := w) (Same.world (w := w) rfl) hT
 ·rw [h0]; exact HR.world (w := w) rfl hH
 ·intro I' w' T' H' a' he
  exact hQ I' w' T' H' a' ⟨he.obj, he.ro, he.same, he.own, he.newR, he.size, he.os, he.tape, he.output⟩
end
def Qt : Ex → Exit → Prop
 | .norm, .normal => True
 | .exit i, .exit j => i = j
 | .goto i, .goto j => i = j
 | .ret, .ret => True
 | _, _ => False
section
variable {α : Type} {P : Program} {I : In} {w : World} {T : List DV} {a : Act} {H : Heap}
def PostC (I : In) (w : World) (k : Ex → List DV → Heap → Option α) (r : α) : Exit → Act → World → Prop := fun e a' w' => ∃ I' T' H' x, Qt x e ∧ Ext I w I' w' ∧ HR I' w' H' ∧ TR I' w' T' a' ∧ k x T' H' = some r
theorem PostC.ext {I I1 : In} {w w1 : World} {k : Ex → List DV → Heap → Option α} {r : α} (h : Ext I w I1 w1) {e : Exit} {a' : Act} {w' : World} (hp : PostC I1 w1 k r e a' w') : PostC I w k r e a' w' := by
 obtain ⟨I', T', H', x, h1, h2, h3⟩ := hp
 exact ⟨I', T', H', x, h1, h.trans h2, h3⟩
def iR (P : Program) (L : Loop) (c : Code) : Prop := ∀ {α : Type} {I : In} {w : World} {T : List DV} {a : Act} {H : Heap} {b : Nat} {k : Ex → List DV → Heap → Option α} {r : α}, TR I w T a → HR I w H → kJ L b T H k = some r → c.wp P (PostC I w k r) a w
def d9 : Code → List (Nat × Code)
 | .seq a b => (Qe b, a) :: (d9 a ++ d9 b)
 | .cond _ a b => d9 a ++ d9 b
 | .block _ c => d9 c
 | .loop c => (fR c, .loop c) :: d9 c
 | .scope c => d9 c
 | _ => []
structure Good (cx : Cx) : Prop where
 specs : ∀ f S, S ∈ cx.specs f → iu cx.P f S
 loops : ∀ f id L, cx.loops f id = some L → ∀ fn c c', cx.P.funcs[f]? = some fn → fn.body = some c → (id, c') ∈ d9 c → iR cx.P L c'
 pures : ∀ f S, S ∈ cx.specs f → FS.pure S = true → sI cx.P f S
 tabs : ∀ f t, cx.tabs f = some t → Cs cx.P f t
theorem sO {c : Code} {Q : Exit → Act → World → Prop} {a : Act} {w : World} {n : Nat} (Inv : Nat → Act → World → Prop) (h0 : Inv n a w) (hz : ∀ a w, ¬ Inv 0 a w) (hs : ∀ n a w, Inv (n + 1) a w → c.wp P (Exit.then (Inv n) Q) a w) : (Code.loop c).wp P Q a w := by
 have least : ∀ (p : Nat → Prop) (n : Nat), p n → ∃ m, p m ∧ ∀ k, p k → m ≤ k := by
  intro p n
  induction n using Nat.strongRecOn with
  | _ n ih =>
   intro hn
   by_cases h : ∃ m, m < n ∧ p m
   ·obtain ⟨m, h1, h2⟩ := h
    exact ih m h1 h2
   ·refine ⟨n, hn, fun k hk => ?_⟩
    rcases ak k n with h1 | h1
    ·exact absurd ⟨k, h1, hk⟩ h
    ·exact h1
 have hμ : ∀ p : Act × World, ∃ m : Nat, (∃ n, Inv n p.1 p.2) → Inv m p.1 p.2 ∧ ∀ k, Inv k p.1 p.2 → m ≤ k := by
  intro p
  by_cases h : ∃ n, Inv n p.1 p.2
  ·obtain ⟨n, hn⟩ := h
   obtain ⟨m, h1, h2⟩ := least (fun n => Inv n p.1 p.2) n hn
   exact ⟨m, fun _ => ⟨h1, h2⟩⟩
  ·exact ⟨0, fun h' => absurd h' h⟩
 obtain ⟨μ, hμ⟩ := Classical.axiomOfChoice hμ
 refine wp_loop (fun a w => ∃ n, Inv n a w) (fun a w => μ (a, w)) ⟨n, h0⟩ ?_
 intro a w h
 obtain ⟨hf, _⟩ := hμ (a, w) h
 show c.wp P (Exit.then (fun a' w' => (∃ n, Inv n a' w') ∧ μ (a', w') < μ (a, w)) Q) a w
 generalize μ (a, w) = m at hf
 cases m with
 | zero => exact absurd hf (hz a w)
 | succ m =>
  refine Code.wp_mono ?_ (hs m a w hf)
  intro e a' w' he
  cases e with
  | normal => exact ⟨⟨m, he⟩, Nat.lt_succ_of_le ((hμ (a', w') ⟨m, he⟩).2 m he)⟩
  | _ => exact he
theorem C8 {c : Operand} {t : Bool} (h : dp T c = .sc (.bool t)) : Ks c t T = T := by
 cases c with
 | tmp i => exact CU h (by simp)
 | _ => rfl
variable {cx : Cx} {call : f6 α}
theorem IB {c : Code} {body : List DV → Heap → (Ex → List DV → Heap → Option α) → Option α} (hb : ∀ {I : In} {w : World} {T : List DV} {a : Act} {H : Heap} {k : Ex → List DV → Heap → Option α} {r : α}, TR I w T a → HR I w H → body T H k = some r → c.wp P (PostC I w k r) a w) {n : Nat} {k : Ex → List DV → Heap → Option α} {r : α} (hT : TR I w T a) (hH : HR I w H) (h : ml body n T H k = some r) : (Code.loop c).wp P (PostC I w k r) a w := by
 refine sO (n := n) (fun n a' w' => ∃ I' T' H', Ext I w I' w' ∧ HR I' w' H' ∧ TR I' w' T' a' ∧ ml body n T' H' k = some r) ⟨I, T, H, Ext.refl I w, hH, hT, h⟩ ?_ ?_
 ·rintro a w ⟨I', T', H', _, _, _, h⟩
  cases h
 ·rintro n a1 w1 ⟨I1, T1, H1, he, hH1, hT1, h1⟩
  simp only [ml] at h1
  refine Code.wp_mono ?_ (hb hT1 hH1 h1)
  rintro e a2 w2 ⟨I2, T2, H2, x, hx, he2, hH2, hT2, h2⟩
  cases e <;> cases x <;> first | exact hx.elim | skip
  ·exact ⟨I2, T2, H2, he.trans he2, hH2, hT2, h2⟩
  ·exact ⟨I2, T2, H2, _, hx, he.trans he2, hH2, hT2, h2⟩
  ·exact ⟨I2, T2, H2, _, hx, he.trans he2, hH2, hT2, h2⟩
  ·exact ⟨I2, T2, H2, _, hx, he.trans he2, hH2, hT2, h2⟩
theorem ku (hg : Good cx) (hcall : qY cx.P call) {f d : Nat} : ∀ (c : Code), (∀ id L, cx.loops f id = some L → ∀ c', (id, c') ∈ d9 c → iR cx.P L c') → ∀ {I : In} {w : World} {T : List DV} {a : Act} {H : Heap} {k : Ex → List DV → Heap → Option α} {r : α}, TR I w T a → HR I w H → dI cx call f d c T H k = some r → c.wp cx.P (PostC I w k r) a w := by
 intro c
 induction c with
 | skip => intro hl I w T a H k r hT hH h; exact wp_skip ⟨I, T, H, .norm, trivial, Ext.refl I w, hH, hT, h⟩
 | label l => intro hl I w T a H k r hT hH h; exact wp_label ⟨I, T, H, .norm, trivial, Ext.refl I w, hH, hT, h⟩
 | exit id => intro hl I w T a H k r hT hH h; exact wp_exit ⟨I, T, H, .exit id, rfl, Ext.refl I w, hH, hT, h⟩
 | goto l => intro hl I w T a H k r hT hH h; exact wp_goto ⟨I, T, H, .goto l, rfl, Ext.refl I w, hH, hT, h⟩
 | ret => intro hl I w T a H k r hT hH h; exact wp_ret ⟨I, T, H, .ret, trivial, Ext.refl I w, hH, hT, h⟩
 | refuse s => intro hl I w T a H k r hT hH h; cases h
 | rangeFunc _ _ _ _ _ _ => intro hl I w T a H k r hT hH h; cases h
 | region id ops draw =>
  intro hl I w T a H k r hT hH h
  simp only [dI] at h
  cases draw with
  | true =>
   simp only [if_true] at h
   split at h
   ·rename_i anc ha
    split at h
    ·rename_i hf
     rw [am] at hf
     exact IA hcall hg.specs hg.pures hg.tabs hf.1 ha hf.2 hT hH h fun I' w' T' H' a' he hH' hT' h' => ⟨I', T', H', .norm, trivial, he, hH', hT', h'⟩
    ·cases h
   ·cases h
  | false =>
   simp only [aG, ax] at h
   exact wp_region_list (CW hcall hT hH h fun I' w' T' H' a' he hH' hT' h' => ⟨I', T', H', .norm, trivial, he, hH', hT', h'⟩)
 | seq x y ihx ihy =>
  intro hl I w T a H k r hT hH h
  simp only [dI] at h
  have key : x.wp cx.P (PostC I w (fun e T H => Kr (dI cx call f d y) k e T H) r) a w := by
   split at h
   ·rename_i L hL
    unfold HZ at hL
    split at hL
    ·rename_i L' hL'
     split at hL
     ·simp only [ab] at hL
      subst hL
      exact hl _ _ hL' x (aB ..) hT hH h
     ·cases hL
    ·cases hL
   ·exact ihx (fun id L hL c' hc => hl id L hL c' (az _ (bB _ hc))) hT hH h
  refine wp_seq (Code.wp_mono ?_ key)
  rintro e a2 w2 ⟨I2, T2, H2, x', hx, he2, hH2, hT2, h2⟩
  cases e <;> cases x' <;> first | exact hx.elim | skip
  ·exact Code.wp_mono (fun e a w hp => PostC.ext he2 hp) (ihy (fun id L hL c' hc => hl id L hL c' (az _ (bI _ hc))) hT2 hH2 h2)
  ·exact ⟨I2, T2, H2, _, hx, he2, hH2, hT2, h2⟩
  ·exact ⟨I2, T2, H2, _, hx, he2, hH2, hT2, h2⟩
  ·exact ⟨I2, T2, H2, _, hx, he2, hH2, hT2, h2⟩
 | cond c x y ihx ihy =>
  intro hl I w T a H k r hT hH h
  simp only [dI] at h
  split at h
  ·rename_i t ht
   have hv := dL hT c
   rw [ht] at hv
   refine wp_cond hv.sc_eq ?_
   cases t with
   | true =>
    simp only [if_true, C8 ht] at h ⊢
    exact ihx (fun id L hL c' hc => hl id L hL c' (bB _ hc)) hT hH h
   | false =>
    simp only [aG, ax, C8 ht] at h ⊢
    exact ihy (fun id L hL c' hc => hl id L hL c' (bI _ hc)) hT hH h
  ·cases h
 | block id c ih =>
  intro hl I w T a H k r hT hH h
  simp only [dI] at h
  refine wp_block (Code.wp_mono ?_ (ih hl hT hH h))
  rintro e a2 w2 ⟨I2, T2, H2, x', hx, he2, hH2, hT2, h2⟩
  cases e <;> cases x' <;> first | exact hx.elim | skip
  ·exact ⟨I2, T2, H2, .norm, trivial, he2, hH2, hT2, h2⟩
  ·rename_i i j
   have : j = i := hx
   subst this
   simp only [Exit.inBlock] at *
   split at h2
   ·rename_i hj
    rw [if_pos hj]
    exact ⟨I2, T2, H2, .norm, trivial, he2, hH2, hT2, h2⟩
   ·rename_i hj
    rw [if_neg hj]
    exact ⟨I2, T2, H2, .exit j, rfl, he2, hH2, hT2, h2⟩
  ·exact ⟨I2, T2, H2, _, hx, he2, hH2, hT2, h2⟩
  ·exact ⟨I2, T2, H2, _, hx, he2, hH2, hT2, h2⟩
 | loop c ih =>
  intro hl I w T a H k r hT hH h
  simp only [dI] at h
  split at h
  ·rename_i L hL
   exact hl _ L hL _ (aB ..) hT hH h
  ·exact IB (fun hT hH h => ih (fun id L hL c' hc => hl id L hL c' (az _ hc)) hT hH h) hT hH h
 | scope c ih =>
  intro hl I w T a H k r hT hH h
  simp only [dI] at h
  refine wp_scope_straight (Code.wp_mono ?_ (ih hl hT hH h))
  rintro e a2 w2 ⟨I2, T2, H2, x', hx, he2, hH2, hT2, h2⟩
  cases e <;> cases x' <;> first | exact hx.elim | skip
  ·exact ⟨I2, T2, H2, _, hx, he2, hH2, hT2, h2⟩
  ·exact ⟨I2, T2, H2, _, hx, he2, hH2, hT2, h2⟩
  ·cases h2
  ·exact ⟨I2, T2, H2, _, hx, he2, hH2, hT2, h2⟩
end
section
variable {α : Type} {P : Program} {I : In} {w : World} {T : List DV} {a : Act} {H : Heap}
def sP (tmps : Array Value) : ResultVar → Sem Value
 | .tmp t => pure (tmps.getD t undef)
 | .cell x t => do loadVar t (← asAddr (tmps.getD x undef))
theorem zS (hT : TR I w T a) (hH : HR I w H) : ∀ {l : List ResultVar} {vs : List DV}, lG P T H l = some vs → ∃ zs : List Value, (l.mapM (sP a.tmps)).run P w = .ok zs w ∧ LR I w vs zs
 | [], vs, h => by
  simp only [lG, ab] at h
  subst h
  exact ⟨[], rfl, .nil⟩
 | .tmp t :: r, vs, h => by
  simp only [lG] at h
  split at h
  ·rename_i l hl
   simp only [ab] at h
   subst h
   obtain ⟨zs, h1, h2⟩ := zS hT hH hl
   refine ⟨a.tmps.getD t undef :: zs, ?_, .cons _ _ _ _ (hT.val t) h2⟩
   simp only [List.mapM_cons, Sem.run_bind, sP]
   rw [show (pure (a.tmps.getD t undef) : Sem Value).run P w = .ok (a.tmps.getD t undef) w from rfl]
   show ((List.mapM (sP a.tmps) r).run P w).andThen _ = _
   rw [h1]
   rfl
  ·cases h
 | .cell x t :: r, vs, h => by
  simp only [lG] at h
  split at h
  ·rename_i v l hv hl
   simp only [ab] at h
   subst h
   obtain ⟨zs, h1, h2⟩ := zS hT hH hl
   obtain ⟨ad, u, g1, g2, g3⟩ := Fx (hT.val x) hH hv
   refine ⟨u :: zs, ?_, .cons _ _ _ _ g3 h2⟩
   simp only [List.mapM_cons, Sem.run_bind, sP]
   rw [g1]
   show (((loadVar t ad).run P w).andThen fun a_1 w' => ((List.mapM (sP a.tmps) r).run P w').andThen fun a w' => (pure (a_1 :: a) : Sem (List Value)).run P w') = _
   rw [g2]
   show ((List.mapM (sP a.tmps) r).run P w).andThen _ = _
   rw [h1]
   rfl
  ·cases h
theorem yl {fn : Func} {vs : List DV} (hT : TR I w T a) (hH : HR I w H) (h : lG P T H fn.results.toList = some vs) : ∃ z, (results fn a.tmps).run P w = .ok z w ∧ VR I w (ii vs) z := by
 obtain ⟨zs, h1, h2⟩ := zS (P := P) hT hH h
 rw [show results fn a.tmps = (do let vs ← fn.results.mapM (sP a.tmps); pure (if h : vs.size = 1 then vs[0] else .tuple vs)) from rfl, Array.mapM_eq_mapM_toList]
 have h3 : ((List.toArray <$> (fn.results.toList.mapM (sP a.tmps))) : Sem (Array Value)).run P w = .ok zs.toArray w := by
  rw [map_eq_pure_bind, Sem.run_bind, h1]
  rfl
 refine ⟨_, by rw [Sem.run_bind, h3]; rfl, ?_⟩
 cases h2 with
 | nil => exact .tup [] #[] .nil
 | cons d r u us hd hr => cases hr with
  | nil => exact hd
  | cons d' r' u' us' hd' hr' => exact .tup _ _ (.cons _ _ _ _ hd (.cons _ _ _ _ hd' hr'))
theorem ym : ∀ {l : List FS} {A : List DV} {b : Nat} {k : DV → Heap → Option (List Nat) → Option α} {q : Option α}, oI l A H b k = some q → ∃ S X m, S ∈ l ∧ S.tin.pr ⟨[], []⟩ A H = some (X, m) ∧ q = (S.fn X).bind fun y => if S.tout.free (iN (dn m.u H) b m) ((dn m.u H).away m) = true then k (ii (S.tout.T (iN (dn m.u H) b m) (S.out y))) (S.tout.H (iN (dn m.u H) b m) (S.out y) ((dn m.u H).away m)) (some m.u) else none
 | [], A, b, k, q, h => by cases h
 | S :: l, A, b, k, q, h => by
  simp only [oI] at h
  split at h
  ·rename_i X m hX
   simp only [ab] at h
   exact ⟨S, X, m, by simp, hX, h.symm⟩
  ·obtain ⟨S', X, m, h1, h2⟩ := ym h
   exact ⟨S', X, m, az _ h1, h2⟩
theorem LR.length : ∀ {ds : List DV} {vs : List Value}, LR I w ds vs → ds.length = vs.length
 | _, _, .nil => rfl
 | _, _, .cons d r u vs h hr => by simp [LR.length hr]
theorem LR.getD : ∀ {ds : List DV} {vs : List Value} (i : Nat), LR I w ds vs → VR I w (ds.getD i .undef) (vs.getD i undef)
 | _, _, _, .nil => .undef _
 | _, _, 0, .cons d r u vs h hr => h
 | _, _, i + 1, .cons d r u vs h hr => by simpa using LR.getD i hr
theorem C9 {A : List DV} {args : List Value} {n : Nat} (hl : A.length ≤ args.length) (hA : ∀ i, VR I w (A.getD i .undef) (args.getD i undef)) : TR I w (A ++ List.replicate (n - A.length) .undef) { tmps := args.toArray ++ Array.replicate (n - args.toArray.size) undef, defers := [] } := by
 refine ⟨by simp; omega, fun i => ?_, rfl⟩
 rcases ak i A.length with h | h
 ·have := hA i
  simp only [ar, bT] at this ⊢
  rw [aY h, Array.getElem?_append_left (by simp; omega)]
  simpa using this
 ·have : (A ++ List.replicate (n - A.length) DV.undef).getD i .undef = .undef := by
   rw [ar, bg h, bV]
   split <;> rfl
  rw [this]
  exact .undef _
variable {cx : Cx} {call : f6 α}
theorem Da (hg : Good cx) (hcall : qY cx.P call) {d : Nat} {f : FuncId} {A : List DV} {args : List Value} {k : DV → Heap → Option α} {r : α} (hH : HR I w H) (hl : A.length ≤ args.length) (hA : ∀ i, VR I w (A.getD i .undef) (args.getD i undef)) (h : nr cx call f d A H k = some r) :
  Calls cx.P f args.toArray w (zP fun z w' => ∃ I' v H', k v H' = some r ∧ Ext I w I' w' ∧ HR I' w' H' ∧ VR I' w' v z) := by
 unfold nr at h
 split at h
 ·rename_i fn hf
  split at h
  ·rename_i c hb
   refine calls_of_wp hf hb (Code.wp_mono ?_ (ku hg hcall c (fun id L hL c' hc => hg.loops f id L hL fn c c' hf hb hc) (C9 (n := fn.ntmps) hl hA) hH h))
   rintro e a' w' ⟨I', T', H', x, hx, he, hH', hT', h'⟩
   have fin : (match lG cx.P T' H' fn.results.toList with | some vs => k (ii vs) H' | none => none) = some r → a'.defers = [] ∧ ∃ v, (results fn a'.tmps).run cx.P w' = .ok v w' ∧ ∃ I' v' H', k v' H' = some r ∧ Ext I w I' w' ∧ HR I' w' H' ∧ VR I' w' v' v := by
    intro h'
    split at h'
    ·rename_i vs hvs
     obtain ⟨z, g1, g2⟩ := yl (P := cx.P) hT' hH' hvs
     exact ⟨hT'.df, z, g1, I', _, H', h', he, hH', g2⟩
    ·cases h'
   cases e <;> cases x <;> first | exact hx.elim | skip
   ·exact fin h'
   ·cases h'
   ·cases h'
   ·exact fin h'
  ·cases h
 ·cases h
theorem kv (hg : Good cx) (n : Nat) : ∀ d : Nat, qY cx.P (eT (α := α) cx n d) := by
 induction n with
 | zero =>
  intro d I w H A args f k r hH hA h
  cases h
 | succ n ih =>
  intro d I w H A args f k r hH hA h
  simp only [eT] at h
  split at h
  ·rename_i hent
   refine ⟨oM hent, ?_⟩
   split at h
   ·rename_i v hv
    obtain ⟨_, t, ht, hl, hp, rfl⟩ := vQ hv
    refine Calls.mono (hg.tabs f t ht hH hA hl hp) ?_
    rintro e w' he
    cases e with
    | returned z =>
     obtain ⟨I', m1, m2, m3, m4⟩ := he
     exact ⟨I', _, H, _, h, m1, m3, m4, fun l hl n sz v _ hn => m2.row n sz v hn⟩
    | _ => exact he.elim
   split at h
   ·rename_i q hq
    obtain ⟨S, X, m, h1, h2, rfl⟩ := ym hq
    exact hg.specs f S h1 hH hA h2 (fun i n hin => by simp only [iN, yh (sJ (Iq h2)) hin]) h
   ·split at h
    ·refine Calls.mono (Da hg (ih (d + 1)) hH (aU hA.length) (fun i => hA.getD i) h) ?_
     rintro e w' he
     cases e with
     | returned z =>
      obtain ⟨I', v, H', k1, k2, k3, k4⟩ := he
      exact ⟨I', v, H', none, k1, k2, k3, k4, fun l hl => by cases hl⟩
     | _ => exact he.elim
    ·cases h
  ·cases h
end
section
variable {I I2 : In} {w : World} {H : Heap} {ρ : Nam}
theorem KL {s : Sh} {d : DV} {v : Value} {x : s.T} (hv : VR I w d v) (h : Gu s d = some x) (hR : I2.R = I.R) : VR I2 w (s.val x) v := by
 have K2 : ∀ {cs : List Value}, s.K I.R w x cs → s.K I2.R w x cs := fun h => by rw [hR]; exact h
 unfold Gu at h
 split at h
 ·rename_i hm
  split at h
  ·rename_i cs
   split at h
   ·rename_i y hy
    simp only [ab] at h
    subst h
    cases hv with | agg _ cs' hc =>
    obtain ⟨c1, c2, e, h1, h2⟩ := Sh.dec_ok hy hc
    cases h2
    rw [aW] at e
    subst e
    unfold Sh.val
    rw [if_pos hm]
    exact .agg _ _ (Sh.enc_ok (K2 h1))
   ·cases h
  ·cases h
 ·rename_i hm
  split at h
  ·rename_i y hy
   simp only [ab] at h
   subst h
   have h1c : CR I w [d] [v] := by
    cases hv with
    | sc _ h1 => exact .one _ _ _ _ (.sc _ h1) h1 .nil
    | vs s' xs _ hk => exact .one _ _ _ _ (.vs s' xs _ hk) (Sh.K_one hk v (by simp)) .nil
    | _ => cases s <;> first | (exact absurd rfl hm) | (simp [Sh.dec] at hy)
   obtain ⟨c1, c2, e, h1, h2⟩ := Sh.dec_ok hy h1c
   cases h2
   rw [aW] at e
   subst e
   have hC := Sh.enc_ok (K2 h1)
   unfold Sh.val
   rw [if_neg hm]
   cases s with
   | int k => cases hC with | one d r u cs h hu hr => exact h
   | bool => cases hC with | one d r u cs h hu hr => exact h
   | str => cases hC with | one d r u cs h hu hr => exact h
   | sl e => cases hC with | one d r u cs h hu hr => exact h
   | pair a b => exact absurd rfl hm
   | arr n e => exact absurd rfl hm
  ·cases h
theorem KM {E : TypeId} {s : Sh} {d : DV} {v : Value} {xs : List s.T} {u : List Nat} (hH : HR I w H) (hv : VR I w d v) (h : ji H E s d = some (xs, u)) :
  ∃ cs, w.ownsRow 0 E s.sz v xs.length cs ∧ (Sh.arr xs.length s).K I.R w xs cs ∧ (∃ A l c, v = .slice A l c) ∧ ((u = [] ∧ v.ownBlock = none) ∨ ∃ n sz v0, u = [n] ∧ I.ι n = some (.row sz v0) ∧ v.ownBlock = v0.ownBlock) := by
 unfold ji at h
 split at h
 ·rename_i n c
  obtain rfl := hv.sc_eq
  split at h
  ·rename_i hn
   split at h
   ·rename_i hc
    subst hn hc
    simp only [ab, ah] at h
    obtain ⟨rfl, rfl⟩ := h
    exact ⟨[], ⟨by simp, .inl ⟨rfl, rfl⟩⟩, AT s, ⟨_, _, _, rfl⟩, .inl ⟨rfl, rfl⟩⟩
   ·cases h
  ·cases h
 ·rename_i n
  cases hv with | rw _ sz v hi hs =>
  split at h
  ·rename_i E' s' xs' hrow
   split at h
   ·rename_i hE
    subst hE
    split at h
    ·rename_i hs' hq
     cases hs'
     simp only [ab, ah] at h
     obtain ⟨rfl, rfl⟩ := h
     obtain ⟨v0, cs, m1, m2, m3⟩ := hH.row n E' s xs' hrow
     rw [hi] at m1
     simp only [ab, Ent.row.injEq] at m1
     obtain ⟨rfl, rfl⟩ := m1
     exact ⟨cs, m2, m3, hs, .inr ⟨n, _, _, rfl, hi, rfl⟩⟩
    ·cases h
   ·cases h
  ·cases h
 ·rename_i n o l
  cases hv with | sl _ _ _ sz A A' len cap cap' hi hl h0' h1' hc' =>
  split at h
  ·rename_i E' s' xs' hrow
   split at h
   ·rename_i ho
    subst ho
    split at h
    ·rename_i hE
     subst hE
     split at h
     ·rename_i hs' hq
      cases hs'
      simp only [ab, ah] at h
      obtain ⟨rfl, rfl⟩ := h
      obtain ⟨rfl, rfl⟩ := h0' rfl
      obtain ⟨v0, cs, m1, m2, m3⟩ := hH.row n E' s xs' hrow
      rw [hi] at m1
      simp only [ab, Ent.row.injEq] at m1
      obtain ⟨rfl, rfl⟩ := m1
      obtain ⟨_, rfl, _, _⟩ := jl hH hrow hi
      have hl' : l ≤ xs'.length := by omega
      have hlen : (xs'.take l).length = l := by simp; omega
      refine ⟨cs.take (l * s.sz), ?_, x0 m3 hl', ⟨_, _, _, rfl⟩, .inr ⟨n, _, _, rfl, hi, ?_⟩⟩
      ·rw [hlen]
       rcases m2.2 with ⟨e, e0⟩ | ⟨g, c', cur, e, _⟩
       ·simp only [Value.slice.injEq] at e
        obtain ⟨rfl, _, rfl⟩ := e
        have : l = 0 := by omega
        subst this
        exact ⟨by simp, .inl ⟨rfl, rfl⟩⟩
       ·simp only [Value.slice.injEq] at e
        obtain ⟨rfl, _, rfl⟩ := e
        exact sE m2 hl'
      ·cases A' <;> rfl
     ·cases h
    ·cases h
   ·cases h
  ·cases h
 ·cases h
abbrev RE := Nat × Ent × Option Nat
def sQ (I : In) (q : RE) : Prop := (∃ sz v, q.2.1 = .row sz v) ∧ match q.2.2 with
 | none => q.2.1.blk = none
 | some n => ∃ e, I.ι n = some e ∧ (∃ sz v, e = .row sz v) ∧ q.2.1.blk = e.blk
structure Cov (I I2 : In) (ρ : Nam) (m : Met) (es : List RE) : Prop where
 R : I2.R = I.R
 o : ∀ i n, (i, n) ∈ m.σ → I2.ι (ρ.o i) = I.ι n
 r : ∀ q ∈ es, I2.ι (ρ.r q.1) = some q.2.1
theorem Met.get_mem {m : Met} {i n : Nat} (h : m.get i = some n) : (i, n) ∈ m.σ := by
 unfold Met.get at h
 cases hf : m.σ.find? (fun e => e.1 == i) with
 | none => rw [hf] at h; cases h
 | some e =>
  rw [hf] at h
  simp only [bH, ab] at h
  have h1 := ca hf
  have h2 := cb hf
  simp only [af] at h1
  rw [← h1, ← h]
  exact h2
structure Grow (m m' : Met) (es : List RE) : Prop where
 σ : ∀ e ∈ m.σ, e ∈ m'.σ
 u : m'.u = (es.filterMap (·.2.2)).reverse ++ m.u
theorem Grow.refl (m : Met) : Grow m m [] := ⟨fun _ h => h, rfl⟩
theorem Grow.trans {m m1 m2 : Met} {es es' : List RE} (h : Grow m m1 es) (k : Grow m1 m2 es') : Grow m m2 (es ++ es') :=
 ⟨fun e he => k.σ e (h.σ e he), by rw [k.u, h.u, List.filterMap_append, List.reverse_append, aM]⟩
theorem Cov.left {m m' : Met} {es es' : List RE} (h : Cov I I2 ρ m' (es ++ es')) (hσ : ∀ e ∈ m.σ, e ∈ m'.σ) : Cov I I2 ρ m es := ⟨h.R, fun i n hn => h.o i n (hσ _ hn), fun q hq => h.r q (bB _ hq)⟩
theorem Cov.right {m : Met} {es es' : List RE} (h : Cov I I2 ρ m (es ++ es')) : Cov I I2 ρ m es' := ⟨h.R, h.o, fun q hq => h.r q (bI _ hq)⟩
theorem pU {n i : Nat} {v : Value} (hv : VR I w (.ptr n 0 []) v) (h : I2.ι (ρ.o i) = I.ι n) : VR I2 w (.ptr (ρ.o i) 0 []) v := by
 cases hv with | ptr _ _ _ b h1 h2 => exact .ptr _ _ _ b (h.trans h1) h2
theorem yn : ∀ {is : List Nat} {l : List DV} {vs : List Value} {m m' : Met}, sq is l m = some m' → LR I w l vs → Grow m m' [] ∧ ∀ I2, Cov I I2 ρ m' [] → LR I2 w (is.map fun i => .ptr (ρ.o i) 0 []) vs
 | [], l, vs, m, m', h, hl => by
  simp only [sq] at h
  split at h
  ·rename_i he
   simp only [ab] at h
   subst h
   cases l with
   | nil => cases hl with | nil => exact ⟨Grow.refl m, fun I2 _ => .nil⟩
   | cons a b => simp at he
  ·cases h
 | i :: r, l, vs, m, m', h, hl => by
  simp only [sq] at h
  split at h
  ·rename_i n l'
   cases hl with | cons _ _ u us hd hr =>
   split at h
   ·rename_i n' hn
    split at h
    ·rename_i e
     subst e
     obtain ⟨h1, h2⟩ := yn h hr
     exact ⟨h1, fun I2 hc => .cons _ _ _ _ (pU hd (hc.o i n (h1.σ _ (Met.get_mem hn)))) (h2 I2 hc)⟩
    ·cases h
   ·obtain ⟨h1, h2⟩ := yn h hr
    exact ⟨⟨fun e he => h1.σ e (az _ he), h1.u⟩, fun I2 hc => .cons _ _ _ _ (pU hd (hc.o i n (h1.σ _ (aB ..)))) (h2 I2 hc)⟩
  ·cases h
def LaidR (I2 : In) (w : World) (f : Heap → Heap) (ns : List Nat) : Prop := ∀ H0 n, (∀ b, f H0 n = some b → BR I2 w n b ∨ H0 n = some b) ∧ (f H0 n = none → H0 n = none ∧ n ∉ ns)
theorem LaidR.id : LaidR I2 w (fun H => H) [] := fun H0 n => ⟨fun b h => .inr h, fun h => ⟨h, by simp⟩⟩
theorem LaidR.set {n0 : Nat} {b0 : Blk} {f : Heap → Heap} {ns : List Nat} (hb : BR I2 w n0 b0) (hf : LaidR I2 w f ns) : LaidR I2 w (fun H => f (H.set n0 (some b0))) (n0 :: ns) := by
 intro H0 n
 obtain ⟨h1, h2⟩ := hf (H0.set n0 (some b0)) n
 refine ⟨fun b h => ?_, fun h => ?_⟩
 ·rcases h1 b h with h3 | h3
  ·exact .inl h3
  ·by_cases hn : n = n0
   ·subst hn
    rw [Heap.set_same] at h3
    simp only [ab] at h3
    subst h3
    exact .inl hb
   ·rw [eY hn] at h3
    exact .inr h3
 ·obtain ⟨h3, h4⟩ := h2 h
  by_cases hn : n = n0
  ·subst hn
   rw [Heap.set_same] at h3
   cases h3
  ·rw [eY hn] at h3
   exact ⟨h3, by simp [hn, h4]⟩
end
end Go.Proofs.Dk
